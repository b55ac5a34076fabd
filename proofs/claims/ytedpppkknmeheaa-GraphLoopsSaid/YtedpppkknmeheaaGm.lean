/-
  Which hooks may be: hook.May and the document's. No condition. (What XSh7 to XSh9 say of it, for a seat without the rest of package hook.)
-/
import Derived.Test.YtedpppkknmeheaaGs
import Derived.Laws.Externs
import Derived.KernelRfl
namespace Go.Proofs.Ytedpppkknmeheaa
open Go.RowKit

theorem run_store_float {P : Program} {w : World} {a : Addr} {m : Mode} (b : Nat) : (store a (.float .f64 b) m).run P w = stored P w a (.float .f64 b) m := run_store P w a _ m rfl
attribute [local go_sem] run_store_float Fl.run_neg
theorem two_cells {w : World} {g : Nat} {x y : Value} {t : TypeId} (h : w.heap[g]? = some (.cells #[x, y] t (0, 0))) : w.cell? ⟨g, 0, none⟩ = some x ∧ w.cell? ⟨g, 1, none⟩ = some y ∧ w.frozen? ⟨g, 0, none⟩ = false ∧ w.frozen? ⟨g, 1, none⟩ = false :=
  ⟨cell_of_row w g 0 _ _ _ h, cell_of_row w g 1 _ _ _ h, frozen_of_row w g 0 _ _ h, frozen_of_row w g 1 _ _ h⟩
/-! ### Which hooks may be -/
def oneB (h : Int × Nat) : Bool :=
  if h.1 = 1 then true else if h.1 = 2 then (FloatKind.f64.format.order h.2 0 == some .gt) || (FloatKind.f64.format.order h.2 0 == some .eq) else if h.1 = 3 ∨ h.1 = 4 then (FloatKind.f64.format.order h.2 0 == some .eq) else false
theorem one_any (D : Int) (x : Nat) (w : World) : Calls Try.prog 55 #[.agg #[.int .i64 D, .float .f64 x]] w fun e w' => e = .returned (.bool (oneB (D, x))) ∧ Below w.heap.size w w' := by
  have hb : Below w.heap.size w (w.alloc (.cells #[.int .i64 D, .float .f64 x] 49)) := (Below.refl _ _).alloc (Nat.le_refl _) _
  have HB := hide hb
  clear hb
  rcases (by omega : D = 1 ∨ D = 2 ∨ D = 3 ∨ D = 4 ∨ (D ≠ 1 ∧ D ≠ 2 ∧ D ≠ 3 ∧ D ≠ 4)) with rfl | rfl | rfl | rfl | ⟨h1, h2, h3, h4⟩
  · go_enter Try.func55, Try.ntmps55
    go_wp2_with fail
    go_ret
    exact ⟨rfl, HB.out⟩
  · go_enter Try.func55, Try.ntmps55
    go_wp2_with fail
    go_ret
    exact ⟨rfl, HB.out⟩
  · go_enter Try.func55, Try.ntmps55
    go_wp2_with fail
    go_ret
    exact ⟨rfl, HB.out⟩
  · go_enter Try.func55, Try.ntmps55
    go_wp2_with fail
    go_ret
    exact ⟨rfl, HB.out⟩
  · have e1 : (D == 1) = false := by simpa using h1
    have e2 : (D == 2) = false := by simpa using h2
    have e3 : (D == 3) = false := by simpa using h3
    have e4 : (D == 4) = false := by simpa using h4
    have HO := hide (show oneB (D, x) = false by unfold oneB; simp [h1, h2, h3, h4])
    clear h1 h2 h3 h4
    go_enter Try.func55, Try.ntmps55
    go_wp2_with fail
    go_ret
    exact ⟨by rw [HO.out]; rfl, HB.out⟩
theorem notone_any (D : Int) (x : Nat) (w : World) (b : Bool) (hb : oneB (D, x) = b) : Calls Try.prog 54 #[.agg #[.int .i64 D, .float .f64 x]] w fun e w' => e = .returned (.bool (!b)) ∧ Below w.heap.size w w' := by
  have ha : Below w.heap.size w (w.alloc (.cells #[.int .i64 D, .float .f64 x] 49)) := (Below.refl _ _).alloc (Nat.le_refl _) _
  have C := hide (one_any D x (w.alloc (.cells #[.int .i64 D, .float .f64 x] 49)))
  rw [hb] at C
  have HA := hide ha
  clear ha hb
  go_enter Try.func54, Try.ntmps54
  go_wp2_with (go_at_call 55; (with_reducible refine C.out.mono ?_); rintro e w' ⟨rfl, hb2⟩; have HB2 := hide hb2; clear hb2)
  go_ret
  exact ⟨rfl, HA.out.trans (HB2.out.mono HA.out.size)⟩
attribute [local go_sem] Fl.run_neg

def hk (hs : List (Int × Nat)) (i : Nat) : Int × Nat := hs.getD i (0, 0)
theorem hk_mem {hs : List (Int × Nat)} {i : Nat} (h : i < hs.length) : hk hs i ∈ hs := by
  unfold hk; rw [List.getD_eq_getElem?_getD, List.getElem?_eq_getElem h]; exact List.getElem_mem _
/-- What is known of a slice of hooks. -/
def Hks (w : World) (a : Option Addr) (len cap : Nat) (hs : List (Int × Nat)) : Prop :=
  hs.length = len ∧ len ≤ cap ∧ ∀ i, i < len → ∃ b off, a = some ⟨b, off, none⟩ ∧ w.cell? ⟨b, off + i * 2, none⟩ = some (.int .i64 (hk hs i).1) ∧ w.cell? ⟨b, off + i * 2 + 1, none⟩ = some (.float .f64 (hk hs i).2)
theorem Hks.later {w w' : World} {a : Option Addr} {len cap : Nat} {hs : List (Int × Nat)} (h : Hks w a len cap hs) (hb : Below w.heap.size w w') : Hks w' a len cap hs :=
  ⟨h.1, h.2.1, fun i hi => let ⟨b, off, ha, h1, h2⟩ := h.2.2 i hi; ⟨b, off, ha, cell_later hb h1, cell_later hb h2⟩⟩
def maysB (hs : List (Int × Nat)) : Bool := decide (hs.length ≤ 4) && hs.all oneB

set_option maxHeartbeats 4000000 in
theorem index_hooks (a : Option Addr) (len cap : Nat) (hs : List (Int × Nat)) (w : World) (h : Hks w a len cap hs) (hl : len ≤ 140737488355328) :
    Calls Try.prog 61 #[.slice a len cap, .func (.func 54) #[] #[]] w fun e w' => ∃ i : Int, e = .returned (.int .i64 i) ∧ Below w.heap.size w w' ∧ (!decide (0 ≤ i)) = hs.all oneB := by
  have H := hide h
  have HL := hide h.1
  clear h
  go_enter Try.func61, Try.ntmps61
  go_wp2_with fail
  go_loopw [8] (fun i wr => ∃ k : Nat, k ≤ len ∧ i = .int .i64 k ∧ Below w.heap.size w wr ∧ Hid (∀ j, j < k → oneB (hk hs j) = true)) (fun i _ => len - (intOf i).toNat)
  case atStart => exact ⟨0, Nat.zero_le _, rfl, Below.refl _ _, fun j hj => by omega⟩
  case round =>
    obtain ⟨k, hk', rfl, hbel, HN⟩ := hrel
    by_cases hlt : k < len
    · obtain ⟨b, off, rfl, hc0, hc1⟩ := H.out.2.2 k hlt
      have hr0 := cell_later hbel hc0
      have hr1 := cell_later hbel hc1
      obtain ⟨⟨D, x⟩, hx⟩ : ∃ x, hk hs k = x := ⟨_, rfl⟩
      rw [hx] at hr0 hr1
      have HX := hide hx
      have HBE := hide hbel
      clear hx hc0 hc1 hbel
      cases hb : oneB (D, x) with
      | false =>
        have C := hide (notone_any D x wr false hb)
        have HE : Hid (oneB (hk hs k) = false) := by rw [HX.out]; exact hb
        clear hb
        go_wp2_with (go_at_call 54; (with_reducible refine C.out.mono ?_); rintro e w2 ⟨rfl, hb2⟩)
        go_ret
        refine ⟨_, rfl, HBE.out.trans (hb2.mono HBE.out.size), ?_⟩
        have : hs.all oneB = false := by
          rw [List.all_eq_false]
          exact ⟨hk hs k, hk_mem (by rw [HL.out]; exact hlt), by rw [HE.out]; simp⟩
        rw [this]; simp
      | true =>
        have C := hide (notone_any D x wr true hb)
        have HE : Hid (oneB (hk hs k) = true) := by rw [HX.out]; exact hb
        clear hb
        go_wp2_with (go_at_call 54; (with_reducible refine C.out.mono ?_); rintro e w2 ⟨rfl, hb2⟩; have HB2 := hide hb2; clear hb2)
        go_roundw
        case rel =>
          refine ⟨k + 1, by omega, by go_num, HBE.out.trans (HB2.out.mono HBE.out.size), fun j hj => ?_⟩
          by_cases e : j = k
          · subst e; exact HE.out
          · exact HN.out j (by omega)
        case measure => simp [intOf]; omega
    · obtain rfl : len = k := by omega
      go_wp2_with fail
      go_ret
      refine ⟨_, rfl, hbel, ?_⟩
      have : hs.all oneB = true := by
        rw [List.all_eq_true]
        intro y hy
        obtain ⟨j, hj, rfl⟩ := List.getElem_of_mem hy
        have := HN.out j (by rw [← HL.out]; exact hj)
        unfold hk at this
        rw [List.getD_eq_getElem?_getD, List.getElem?_eq_getElem hj] at this
        exact this
      rw [this]; rfl
theorem any_hooks (a : Option Addr) (len cap : Nat) (hs : List (Int × Nat)) (w : World) (h : Hks w a len cap hs) (hl : len ≤ 140737488355328) (r : Bool) (hr : hs.all oneB = r) :
    Calls Try.prog 53 #[.slice a len cap, .func (.func 54) #[] #[]] w fun e w' => e = .returned (.bool (!r)) ∧ Below w.heap.size w w' := by
  have C := hide (index_hooks a len cap hs w h hl)
  rw [hr] at C
  clear h hr
  go_enter Try.func53, Try.ntmps53
  go_wp2_with (go_at_call 61; (with_reducible refine C.out.mono ?_); rintro e w2 ⟨i, rfl, hb2, hi⟩; have HB2 := hide hb2; have HI := hide hi; clear hb2 hi)
  go_ret
  exact ⟨by rw [← HI.out, Bool.not_not]; rfl, HB2.out⟩
theorem mays_any (a : Option Addr) (len cap : Nat) (hs : List (Int × Nat)) (w : World) (h : Hks w a len cap hs) (hl : len ≤ 140737488355328) :
    Calls Try.prog 46 #[.slice a len cap] w fun e w' => e = .returned (.bool (maysB hs)) ∧ Below w.heap.size w w' := by
  unfold maysB
  rw [h.1]
  by_cases h4 : len ≤ 4
  · have hd : decide (len ≤ 4) = true := by simpa using h4
    rw [hd, Bool.true_and]
    cases hr : hs.all oneB with
    | true =>
      have C := hide (any_hooks a len cap hs w h hl true hr)
      clear h hr hd
      go_enter Try.func46, Try.ntmps46
      go_wp2_with (go_at_call 53; (with_reducible refine C.out.mono ?_); rintro e w2 ⟨rfl, hb2⟩)
      go_ret
      exact ⟨rfl, hb2⟩
    | false =>
      have C := hide (any_hooks a len cap hs w h hl false hr)
      clear h hr hd
      go_enter Try.func46, Try.ntmps46
      go_wp2_with (go_at_call 53; (with_reducible refine C.out.mono ?_); rintro e w2 ⟨rfl, hb2⟩)
      go_ret
      exact ⟨rfl, hb2⟩
  · have hd : decide (len ≤ 4) = false := by simpa using h4
    rw [hd, Bool.false_and]
    clear h hd
    go_enter Try.func46, Try.ntmps46
    go_wp2_with fail
    go_ret
    exact ⟨rfl, Below.refl _ _⟩

theorem all_false {hs : List (Int × Nat)} {k : Nat} (hk' : k < hs.length) (h : oneB (hk hs k) = false) : maysB hs = false := by
  unfold maysB
  rw [List.all_eq_false.2 ⟨hk hs k, hk_mem hk', by rw [h]; simp⟩, Bool.and_false]
theorem all_true {hs : List (Int × Nat)} (h : ∀ j, j < hs.length → oneB (hk hs j) = true) : maysB hs = decide (hs.length ≤ 4) := by
  unfold maysB
  rw [List.all_eq_true.2, Bool.and_true]
  intro y hy
  obtain ⟨j, hj, rfl⟩ := List.getElem_of_mem hy
  have := h j hj
  unfold hk at this
  rw [List.getD_eq_getElem?_getD, List.getElem?_eq_getElem hj] at this
  exact this

set_option maxHeartbeats 8000000 in
theorem mays_ref (a : Option Addr) (len cap : Nat) (hs : List (Int × Nat)) (w : World) (h : Hks w a len cap hs) (hl : len ≤ 140737488355328) :
    Calls Try.prog 35 #[.slice a len cap] w fun e w' => e = .returned (.bool (maysB hs)) ∧ Below w.heap.size w w' := by
  have H := hide h
  have HL := hide h.1
  clear h
  go_enter Try.func35, Try.ntmps35
  go_wp2_with fail
  go_loopw [3] (fun i wr => ∃ k : Nat, k ≤ len ∧ i = .int .i64 k ∧ Below w.heap.size w wr ∧ Hid (∀ j, j < k → oneB (hk hs j) = true)) (fun i _ => len - (intOf i).toNat)
  case atStart => exact ⟨0, Nat.zero_le _, rfl, Below.refl _ _, fun j hj => by omega⟩
  case round =>
    obtain ⟨k, hk', rfl, hbel, HN⟩ := hrel
    by_cases hlt : k < len
    · obtain ⟨b, off, rfl, hc0, hc1⟩ := H.out.2.2 k hlt
      have hr0 := cell_later hbel hc0
      have hr1 := cell_later hbel hc1
      obtain ⟨⟨D, x⟩, hx⟩ : ∃ x, hk hs k = x := ⟨_, rfl⟩
      rw [hx] at hr0 hr1
      have HX := hide hx
      have HBE := hide (hbel.alloc hbel.size (.cells #[.int .i64 D, .float .f64 x] 49))
      have HBAD := hide (fun (h : oneB (D, x) = false) => all_false (hs := hs) (k := k) (by rw [HL.out]; exact hlt) (by rw [hx]; exact h))
      have HOK : Hid (oneB (D, x) = true → ∀ j, j < k + 1 → oneB (hk hs j) = true) := fun h j hj => by
        by_cases e : j = k
        · subst e; rw [hx]; exact h
        · exact HN.out j (by omega)
      clear hx hc0 hc1 hbel
      rcases (by omega : D < 1 ∨ 4 < D ∨ D = 1 ∨ D = 2 ∨ D = 3 ∨ D = 4) with h | h | rfl | rfl | rfl | rfl
      · have d1 : decide (D < 1) = true := by simpa using h
        have HO := hide (HBAD.out (by unfold oneB; rw [if_neg (by show ¬ D = 1; omega), if_neg (by show ¬ D = 2; omega), if_neg (by show ¬ (D = 3 ∨ D = 4); omega)]))
        clear h
        go_wp2_with fail
        go_ret
        exact ⟨by rw [HO.out]; rfl, HBE.out⟩
      · have d1 : decide (D < 1) = false := by simp; omega
        have d4 : decide (4 < D) = true := by simpa using h
        have HO := hide (HBAD.out (by unfold oneB; rw [if_neg (by show ¬ D = 1; omega), if_neg (by show ¬ D = 2; omega), if_neg (by show ¬ (D = 3 ∨ D = 4); omega)]))
        clear h
        go_wp2_with fail
        go_ret
        exact ⟨by rw [HO.out]; rfl, HBE.out⟩
      · have HO := hide (HOK.out rfl)
        go_wp2_with fail
        go_roundw
        case rel => exact ⟨k + 1, by omega, by go_num, HBE.out, HO.out⟩
        case measure => simp [intOf]; omega
      · cases hg : (FloatKind.f64.format.order x 0 == some .gt) <;> cases he : (FloatKind.f64.format.order x 0 == some .eq)
        · have HO := hide (HBAD.out (by unfold oneB; simp only [hg, he]; rfl))
          go_wp2_with fail
          go_ret
          exact ⟨by rw [HO.out]; rfl, HBE.out⟩
        all_goals
          have HO := hide (HOK.out (by unfold oneB; simp only [hg, he]; rfl))
          go_wp2_with fail
          go_roundw
          case rel => exact ⟨k + 1, by omega, by go_num, HBE.out, HO.out⟩
          case measure => simp [intOf]; omega
      all_goals
        cases he : (FloatKind.f64.format.order x 0 == some .eq)
        · have hne : (FloatKind.f64.format.order x 0 != some .eq) = true := by rw [bne, he]; rfl
          have HO := hide (HBAD.out (by unfold oneB; simp only [he]; rfl))
          go_wp2_with fail
          go_ret
          exact ⟨by rw [HO.out]; rfl, HBE.out⟩
        · have hne : (FloatKind.f64.format.order x 0 != some .eq) = false := by rw [bne, he]; rfl
          have HO := hide (HOK.out (by unfold oneB; simp only [he]; rfl))
          go_wp2_with fail
          go_roundw
          case rel => exact ⟨k + 1, by omega, by go_num, HBE.out, HO.out⟩
          case measure => simp [intOf]; omega
    · obtain rfl : len = k := by omega
      have HO := hide (all_true (hs := hs) (fun j hj => HN.out j (by rw [← HL.out]; exact hj)))
      go_wp2_with fail
      go_ret
      refine ⟨?_, hbel⟩
      rw [HO.out, HL.out]
      by_cases h4 : len ≤ 4
      · simp [h4]; omega
      · simp [h4]; omega
end Go.Proofs.Ytedpppkknmeheaa
