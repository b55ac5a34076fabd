/-
  Which rows of hooks may be: hook.May, and the document's HookMay. No condition.
-/
import Derived.Test.YtegofhmkebbinaaSh7
namespace Go.Proofs.Ytegofhmkebbinaa
open Go.RowKit
attribute [local go_sem] Fl.run_neg

def hk (hs : List (Int × Nat)) (i : Nat) : Int × Nat := hs.getD i (0, 0)
theorem hk_mem {hs : List (Int × Nat)} {i : Nat} (h : i < hs.length) : hk hs i ∈ hs := by
  unfold hk; rw [List.getD_eq_getElem?_getD, List.getElem?_eq_getElem h]; exact List.getElem_mem _
/-- What is known of a slice of hooks. -/
def Hks (w : World) (a : Option Addr) (len cap : Nat) (hs : List (Int × Nat)) : Prop :=
  hs.length = len ∧ len ≤ cap ∧ ∀ i, i < len → ∃ b off, a = some ⟨b, off, none⟩ ∧ w.cell? ⟨b, off + i * 2, none⟩ = some (.int .i64 (hk hs i).1) ∧ w.cell? ⟨b, off + i * 2 + 1, none⟩ = some (.float .f64 (hk hs i).2)
theorem Hks.later {w w' : World} {a : Option Addr} {len cap : Nat} {hs : List (Int × Nat)} (h : Hks w a len cap hs) (hb : Below w.heap.size w w') : Hks w' a len cap hs :=
  ⟨h.1, h.2.1, fun i hi => let ⟨b, off, ha, h1, h2⟩ := h.2.2 i hi; ⟨b, off, ha, cell_later hb h1, cell_later hb h2⟩⟩
def maysB (hs : List (Int × Nat)) : Bool := decide (hs.length ≤ 4) && hs.all oneB

set_option maxHeartbeats 4000000 in
theorem index_hooks (a : Option Addr) (len cap : Nat) (hs : List (Int × Nat)) (w : World) (h : Hks w a len cap hs) (hl : len ≤ 1099511627776) :
    Calls Try.prog 44 #[.slice a len cap, .func (.func 31) #[] #[]] w fun e w' => ∃ i : Int, e = .returned (.int .i64 i) ∧ Below w.heap.size w w' ∧ (!decide (0 ≤ i)) = hs.all oneB := by
  have H := hide h
  have HL := hide h.1
  clear h
  go_enter Try.func44, Try.ntmps44
  go_wp2_with fail
  go_loopw [8] (fun i wr => ∃ k : Nat, k ≤ len ∧ i = .int .i64 k ∧ Below w.heap.size w wr ∧ Hid (∀ j, j < k → oneB (hk hs j) = true)) (fun i _ => len - (intOf i).toNat)
  case atStart => exact ⟨0, Nat.zero_le _, rfl, Below.refl _ _, fun j hj => by omega⟩
  case round =>
    obtain ⟨k, hk', rfl, hbel, HN⟩ := hrel
    by_cases hlt : k < len
    · obtain ⟨b, off, rfl, hc0, hc1⟩ := H.out.2.2 k hlt
      have hr0 := cell_later hbel hc0
      have hr1 := cell_later hbel hc1
      obtain ⟨⟨D, x⟩, hx⟩ : ∃ x, hk hs k = x := ⟨_, rfl⟩
      rw [hx] at hr0 hr1
      have HX := hide hx
      have HBE := hide hbel
      clear hx hc0 hc1 hbel
      cases hb : oneB (D, x) with
      | false =>
        have C := hide (notone_any D x wr false hb)
        have HE : Hid (oneB (hk hs k) = false) := by rw [HX.out]; exact hb
        clear hb
        go_wp2_with (go_at_call 31; (with_reducible refine C.out.mono ?_); rintro e w2 ⟨rfl, hb2⟩)
        go_ret
        refine ⟨_, rfl, HBE.out.trans (hb2.mono HBE.out.size), ?_⟩
        have : hs.all oneB = false := by
          rw [List.all_eq_false]
          exact ⟨hk hs k, hk_mem (by rw [HL.out]; exact hlt), by rw [HE.out]; simp⟩
        rw [this]; simp
      | true =>
        have C := hide (notone_any D x wr true hb)
        have HE : Hid (oneB (hk hs k) = true) := by rw [HX.out]; exact hb
        clear hb
        go_wp2_with (go_at_call 31; (with_reducible refine C.out.mono ?_); rintro e w2 ⟨rfl, hb2⟩; have HB2 := hide hb2; clear hb2)
        go_roundw
        case rel =>
          refine ⟨k + 1, by omega, by go_num, HBE.out.trans (HB2.out.mono HBE.out.size), fun j hj => ?_⟩
          by_cases e : j = k
          · subst e; exact HE.out
          · exact HN.out j (by omega)
        case measure => simp [intOf]; omega
    · obtain rfl : len = k := by omega
      go_wp2_with fail
      go_ret
      refine ⟨_, rfl, hbel, ?_⟩
      have : hs.all oneB = true := by
        rw [List.all_eq_true]
        intro y hy
        obtain ⟨j, hj, rfl⟩ := List.getElem_of_mem hy
        have := HN.out j (by rw [← HL.out]; exact hj)
        unfold hk at this
        rw [List.getD_eq_getElem?_getD, List.getElem?_eq_getElem hj] at this
        exact this
      rw [this]; rfl
theorem any_hooks (a : Option Addr) (len cap : Nat) (hs : List (Int × Nat)) (w : World) (h : Hks w a len cap hs) (hl : len ≤ 1099511627776) (r : Bool) (hr : hs.all oneB = r) :
    Calls Try.prog 30 #[.slice a len cap, .func (.func 31) #[] #[]] w fun e w' => e = .returned (.bool (!r)) ∧ Below w.heap.size w w' := by
  have C := hide (index_hooks a len cap hs w h hl)
  rw [hr] at C
  clear h hr
  go_enter Try.func30, Try.ntmps30
  go_wp2_with (go_at_call 44; (with_reducible refine C.out.mono ?_); rintro e w2 ⟨i, rfl, hb2, hi⟩; have HB2 := hide hb2; have HI := hide hi; clear hb2 hi)
  go_ret
  exact ⟨by rw [← HI.out, Bool.not_not]; rfl, HB2.out⟩
theorem mays_any (a : Option Addr) (len cap : Nat) (hs : List (Int × Nat)) (w : World) (h : Hks w a len cap hs) (hl : len ≤ 1099511627776) :
    Calls Try.prog 12 #[.slice a len cap] w fun e w' => e = .returned (.bool (maysB hs)) ∧ Below w.heap.size w w' := by
  unfold maysB
  rw [h.1]
  by_cases h4 : len ≤ 4
  · have hd : decide (len ≤ 4) = true := by simpa using h4
    rw [hd, Bool.true_and]
    cases hr : hs.all oneB with
    | true =>
      have C := hide (any_hooks a len cap hs w h hl true hr)
      clear h hr hd
      go_enter Try.func12, Try.ntmps12
      go_wp2_with (go_at_call 30; (with_reducible refine C.out.mono ?_); rintro e w2 ⟨rfl, hb2⟩)
      go_ret
      exact ⟨rfl, hb2⟩
    | false =>
      have C := hide (any_hooks a len cap hs w h hl false hr)
      clear h hr hd
      go_enter Try.func12, Try.ntmps12
      go_wp2_with (go_at_call 30; (with_reducible refine C.out.mono ?_); rintro e w2 ⟨rfl, hb2⟩)
      go_ret
      exact ⟨rfl, hb2⟩
  · have hd : decide (len ≤ 4) = false := by simpa using h4
    rw [hd, Bool.false_and]
    clear h hd
    go_enter Try.func12, Try.ntmps12
    go_wp2_with fail
    go_ret
    exact ⟨rfl, Below.refl _ _⟩
end Go.Proofs.Ytegofhmkebbinaa
