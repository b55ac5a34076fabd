/-
  How many numbers a shape has: package shape's Size and the document's. No condition.
-/
import Derived.Test.YtedpppkknmeheaaRows
import Derived.Test.YtedpppkknmeheaaFlRow
import Derived.IntWalk
import Derived.WalkKit
import Derived.WalkSpells
import Derived.WalkLawsBesides
import Derived.RegionTactic
import Derived.ChangeAlike
import Derived.BigRegion
import Derived.Deep.QuietTactic
import Derived.BigQuiet
import Derived.Deep.Draws
import Derived.Deep.RegionWith
namespace Go.Proofs.Ytedpppkknmeheaa
open Go.RowKit

/-- The size, on from n. -/
def szGo : List Int → Int → Int × Int
  | [], n => (n, 0)
  | x :: l, n => if (4096 : Int).tdiv n < x then (0, 3) else szGo l (n * x)
/-- A shape's size, and the error's number. -/
def sz (zs : List Int) : Int × Int := if 4 < zs.length ∨ zs.any (fun x => decide (x < 1)) = true then (0, 2) else szGo zs 1

theorem fits {n x : Int} (hn : 1 ≤ n) (hx : ¬ (4096 : Int).tdiv n < x) : n * x ≤ 4096 := by
  rw [Int.tdiv_eq_ediv_of_nonneg (by omega)] at hx
  have h1 : n * x ≤ n * (4096 / n) := Int.mul_le_mul_of_nonneg_left (by omega) (by omega)
  have h2 := Int.mul_ediv_self_le (x := (4096 : Int)) (k := n) (by omega)
  omega
theorem drop_at (zs : List Int) (k : Nat) (h : k < zs.length) : zs.drop k = zs.getD k 0 :: zs.drop (k + 1) := by
  rw [List.drop_eq_getElem_cons h]; simp [h]
theorem Isl.at {w : World} {k : IntKind} {a : Option Addr} {len cap : Nat} {zs : List Int} (h : Isl w k a len cap zs) {i : Nat} (hi : i < len) : ∃ b off, a = some ⟨b, off, none⟩ ∧ w.cell? ⟨b, off + i, none⟩ = some (.int k (zs.getD i 0)) := h.2.2 i hi

theorem less_one (x : Int) (w : World) : Calls Try.prog 60 #[.int .i64 x] w fun e w' => e = .returned (.bool (decide (x < 1))) ∧ w = w' := by
  go_enter Try.func60, Try.ntmps60
  go_wp2_with fail
  go_ret
  exact ⟨rfl, rfl⟩
theorem less_one_b (x : Int) (w : World) (b : Bool) (h : decide (x < 1) = b) : Calls Try.prog 60 #[.int .i64 x] w fun e w' => e = .returned (.bool b) ∧ w = w' := by
  subst h; exact less_one x w

set_option maxHeartbeats 4000000 in
theorem index_less (a : Option Addr) (len cap : Nat) (zs : List Int) (w : World) (h : Isl w .i64 a len cap zs) (hl : len ≤ 140737488355328) :
    Calls Try.prog 51 #[.slice a len cap, .func (.func 60) #[] #[]] w fun e w' => ∃ i : Int, e = .returned (.int .i64 i) ∧ w = w' ∧ decide (0 ≤ i) = zs.any (fun x => decide (x < 1)) := by
  have H := hide h
  have HL := hide h.1
  clear h
  go_enter Try.func51, Try.ntmps51
  go_wp2_with fail
  go_loopw [8] (fun i wr => ∃ k : Nat, k ≤ len ∧ i = .int .i64 k ∧ w = wr ∧ Hid (∀ j, j < k → decide (zs.getD j 0 < 1) = false)) (fun i _ => len - (intOf i).toNat)
  case atStart => exact ⟨0, Nat.zero_le _, rfl, rfl, fun j hj => by omega⟩
  case round =>
    obtain ⟨k, hk, rfl, rfl, HN⟩ := hrel
    by_cases hlt : k < len
    · obtain ⟨b, off, rfl, hc⟩ := H.out.at hlt
      obtain ⟨x, hx⟩ : ∃ x, zs.getD k 0 = x := ⟨_, rfl⟩
      rw [hx] at hc
      have HX := hide hx
      clear hx
      cases hb : decide (x < 1) with
      | true =>
        have C := hide (less_one_b x w true hb)
        have HE : Hid (decide (zs.getD k 0 < 1) = true) := by rw [HX.out]; exact hb
        clear hb
        go_wp2_with (go_at_call 60; (with_reducible refine C.out.mono ?_); rintro e w2 ⟨rfl, rfl⟩)
        go_ret
        refine ⟨_, rfl, rfl, ?_⟩
        rw [List.any_eq_true.2 ⟨zs.getD k 0, by rw [List.getD_eq_getElem?_getD, List.getElem?_eq_getElem (by rw [HL.out]; exact hlt)]; exact List.getElem_mem _, HE.out⟩]
        simp
      | false =>
        have C := hide (less_one_b x w false hb)
        have HE : Hid (decide (zs.getD k 0 < 1) = false) := by rw [HX.out]; exact hb
        clear hb
        go_wp2_with (go_at_call 60; (with_reducible refine C.out.mono ?_); rintro e w2 ⟨rfl, rfl⟩)
        go_roundw
        case rel =>
          refine ⟨k + 1, by omega, by go_num, trivial, fun j hj => ?_⟩
          by_cases e : j = k
          · subst e; exact HE.out
          · exact HN.out j (by omega)
        case measure => simp [intOf]; omega
    · obtain rfl : len = k := by omega
      go_wp2_with fail
      go_ret
      refine ⟨_, rfl, rfl, ?_⟩
      have : zs.any (fun x => decide (x < 1)) = false := by
        rw [List.any_eq_false]
        intro x hx
        obtain ⟨j, hj, rfl⟩ := List.getElem_of_mem hx
        have := HN.out j (by rw [← HL.out]; exact hj)
        rw [List.getD_eq_getElem?_getD, List.getElem?_eq_getElem hj] at this
        simpa using this
      rw [this]; rfl
theorem any_less (a : Option Addr) (len cap : Nat) (zs : List Int) (w : World) (h : Isl w .i64 a len cap zs) (hl : len ≤ 140737488355328) :
    Calls Try.prog 41 #[.slice a len cap, .func (.func 60) #[] #[]] w fun e w' => e = .returned (.bool (zs.any (fun x => decide (x < 1)))) ∧ w = w' := by
  have C := hide (index_less a len cap zs w h hl)
  clear h
  go_enter Try.func41, Try.ntmps41
  go_wp2_with (go_at_call 51; (with_reducible refine C.out.mono ?_); rintro e w2 ⟨i, rfl, rfl, hi⟩)
  go_ret
  exact ⟨by rw [← hi]; rfl, rfl⟩

set_option maxHeartbeats 4000000 in
theorem size_any (a : Option Addr) (len cap : Nat) (zs : List Int) (w : World) (h : Isl w .i64 a len cap zs) (hl : len ≤ 140737488355328) :
    Calls Try.prog 52 #[.slice a len cap] w fun e w' => e = .returned (.tuple #[.int .i64 (sz zs).1, .int .i64 (sz zs).2]) ∧ w = w' := by
  have H := hide h
  have HL := hide h.1
  have C := hide (any_less a len cap zs w h hl)
  clear h
  go_enter Try.func52, Try.ntmps52
  by_cases h4 : 4 < len
  · have e : sz zs = (0, 2) := by unfold sz; rw [if_pos (.inl (by rw [HL.out]; exact h4))]
    rw [e]
    go_wp2_with fail
    go_ret2
    exact ⟨rfl, rfl⟩
  · cases hb : zs.any (fun x => decide (x < 1)) with
    | true =>
      have e : sz zs = (0, 2) := by unfold sz; rw [if_pos (.inr hb)]
      rw [e]
      rw [hb] at C
      go_wp2_with (go_at_call 41; (with_reducible refine C.out.mono ?_); rintro e w2 ⟨rfl, rfl⟩)
      go_ret2
      exact ⟨rfl, rfl⟩
    | false =>
      have e : sz zs = szGo zs 1 := by unfold sz; rw [if_neg (by rw [hb, HL.out]; simp; omega)]
      rw [e]
      rw [hb] at C
      have HBF := hide hb
      clear hb e
      go_wp2_with (go_at_call 41; (with_reducible refine C.out.mono ?_); rintro e w2 ⟨rfl, rfl⟩)
      go_loopw [4, 16] (fun s i wr => ∃ (k : Nat) (n : Int), k ≤ len ∧ i = .int .i64 k ∧ s = .int .i64 n ∧ w = wr ∧ 1 ≤ n ∧ n ≤ 4096 ∧ Hid (szGo zs 1 = szGo (zs.drop k) n)) (fun _ i _ => len - (intOf i).toNat)
      case atStart => exact ⟨0, 1, Nat.zero_le _, rfl, rfl, rfl, Int.le_refl _, by omega, by unfold Hid; rw [List.drop_zero]⟩
      case round =>
        obtain ⟨k, n, hk, rfl, rfl, rfl, hn1, hn2, HZ⟩ := hrel
        by_cases hlt : k < len
        · obtain ⟨b, off, rfl, hc⟩ := H.out.at hlt
          have hstep := drop_at zs k (by rw [HL.out]; exact hlt)
          have hx1 : 1 ≤ zs.getD k 0 := by
            have h0 := List.any_eq_false.1 HBF.out (zs.getD k 0) (by rw [List.getD_eq_getElem?_getD, List.getElem?_eq_getElem (by rw [HL.out]; exact hlt)]; exact List.getElem_mem _)
            simp at h0
            simpa using h0
          obtain ⟨x, hx⟩ : ∃ x, zs.getD k 0 = x := ⟨_, rfl⟩
          rw [hx] at hc hx1 hstep
          have HST := hide hstep
          have hq : ((n == 0) : Bool) = false := by simp; omega
          have hn0 : ¬ n = 0 := by omega
          have hq1 : 0 ≤ (4096 : Int).tdiv n := by rw [Int.tdiv_eq_ediv_of_nonneg (by omega)]; exact Int.ediv_nonneg (by omega) (by omega)
          have hq2 : (4096 : Int).tdiv n ≤ 4096 := by rw [Int.tdiv_eq_ediv_of_nonneg (by omega)]; exact Int.ediv_le_self _ (by omega)
          have wq : IntKind.i64.wrap ((4096 : Int).tdiv n) = (4096 : Int).tdiv n := IntWalk.i64_in _ (by omega)
          clear hx hstep
          by_cases hbig : (4096 : Int).tdiv n < x
          · have HEND := hide (show szGo zs 1 = (0, 3) by rw [HZ.out, HST.out]; exact if_pos hbig)
            have hd : decide ((4096 : Int).tdiv n < x) = true := by simpa using hbig
            clear hbig
            go_wp2_with fail
            go_ret2
            rw [HEND.out]
            exact ⟨rfl, rfl⟩
          · have hf := fits hn1 hbig
            have hp : 1 ≤ n * x := by
              have := Int.mul_le_mul hn1 hx1 (by omega) (by omega)
              omega
            have HNX := hide (show szGo zs 1 = szGo (zs.drop (k + 1)) (n * x) by rw [HZ.out, HST.out]; exact if_neg hbig)
            have wm : IntKind.i64.wrap (n * x) = n * x := IntWalk.i64_in _ (by omega)
            have hd : decide ((4096 : Int).tdiv n < x) = false := by simpa using hbig
            clear hbig
            go_wp2_with fail
            go_roundw
            case rel => exact ⟨k + 1, n * x, by omega, by go_num, rfl, trivial, hp, hf, HNX.out⟩
            case measure => simp [intOf]; omega
        · obtain rfl : len = k := by omega
          have HEND := hide (show szGo zs 1 = (n, 0) by rw [HZ.out, List.drop_eq_nil_of_le (by rw [HL.out]; exact Nat.le_refl _)]; rfl)
          go_wp2_with fail
          go_ret2
          rw [HEND.out]
          exact ⟨rfl, rfl⟩
end Go.Proofs.Ytedpppkknmeheaa
