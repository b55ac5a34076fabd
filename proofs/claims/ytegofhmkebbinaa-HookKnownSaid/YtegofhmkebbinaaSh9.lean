/-
  The document's HookMay. No condition.
-/
import Derived.Test.YtegofhmkebbinaaSh8
namespace Go.Proofs.Ytegofhmkebbinaa
open Go.RowKit
attribute [local go_sem] run_store_float Fl.run_neg

theorem all_false {hs : List (Int × Nat)} {k : Nat} (hk' : k < hs.length) (h : oneB (hk hs k) = false) : maysB hs = false := by
  unfold maysB
  rw [List.all_eq_false.2 ⟨hk hs k, hk_mem hk', by rw [h]; simp⟩, Bool.and_false]
theorem all_true {hs : List (Int × Nat)} (h : ∀ j, j < hs.length → oneB (hk hs j) = true) : maysB hs = decide (hs.length ≤ 4) := by
  unfold maysB
  rw [List.all_eq_true.2, Bool.and_true]
  intro y hy
  obtain ⟨j, hj, rfl⟩ := List.getElem_of_mem hy
  have := h j hj
  unfold hk at this
  rw [List.getD_eq_getElem?_getD, List.getElem?_eq_getElem hj] at this
  exact this

set_option maxHeartbeats 8000000 in
theorem mays_ref (a : Option Addr) (len cap : Nat) (hs : List (Int × Nat)) (w : World) (h : Hks w a len cap hs) (hl : len ≤ 1099511627776) :
    Calls Try.prog 13 #[.slice a len cap] w fun e w' => e = .returned (.bool (maysB hs)) ∧ Below w.heap.size w w' := by
  have H := hide h
  have HL := hide h.1
  clear h
  go_enter Try.func13, Try.ntmps13
  go_wp2_with fail
  go_loopw [3] (fun i wr => ∃ k : Nat, k ≤ len ∧ i = .int .i64 k ∧ Below w.heap.size w wr ∧ Hid (∀ j, j < k → oneB (hk hs j) = true)) (fun i _ => len - (intOf i).toNat)
  case atStart => exact ⟨0, Nat.zero_le _, rfl, Below.refl _ _, fun j hj => by omega⟩
  case round =>
    obtain ⟨k, hk', rfl, hbel, HN⟩ := hrel
    by_cases hlt : k < len
    · obtain ⟨b, off, rfl, hc0, hc1⟩ := H.out.2.2 k hlt
      have hr0 := cell_later hbel hc0
      have hr1 := cell_later hbel hc1
      obtain ⟨⟨D, x⟩, hx⟩ : ∃ x, hk hs k = x := ⟨_, rfl⟩
      rw [hx] at hr0 hr1
      have HX := hide hx
      have HBE := hide (hbel.alloc hbel.size (.cells #[.int .i64 D, .float .f64 x] 48))
      have HBAD := hide (fun (h : oneB (D, x) = false) => all_false (hs := hs) (k := k) (by rw [HL.out]; exact hlt) (by rw [hx]; exact h))
      have HOK : Hid (oneB (D, x) = true → ∀ j, j < k + 1 → oneB (hk hs j) = true) := fun h j hj => by
        by_cases e : j = k
        · subst e; rw [hx]; exact h
        · exact HN.out j (by omega)
      clear hx hc0 hc1 hbel
      rcases (by omega : D < 1 ∨ 4 < D ∨ D = 1 ∨ D = 2 ∨ D = 3 ∨ D = 4) with h | h | rfl | rfl | rfl | rfl
      · have d1 : decide (D < 1) = true := by simpa using h
        have HO := hide (HBAD.out (by unfold oneB; rw [if_neg (by show ¬ D = 1; omega), if_neg (by show ¬ D = 2; omega), if_neg (by show ¬ (D = 3 ∨ D = 4); omega)]))
        clear h
        go_wp2_with fail
        go_ret
        exact ⟨by rw [HO.out]; rfl, HBE.out⟩
      · have d1 : decide (D < 1) = false := by simp; omega
        have d4 : decide (4 < D) = true := by simpa using h
        have HO := hide (HBAD.out (by unfold oneB; rw [if_neg (by show ¬ D = 1; omega), if_neg (by show ¬ D = 2; omega), if_neg (by show ¬ (D = 3 ∨ D = 4); omega)]))
        clear h
        go_wp2_with fail
        go_ret
        exact ⟨by rw [HO.out]; rfl, HBE.out⟩
      · have HO := hide (HOK.out rfl)
        go_wp2_with fail
        go_roundw
        case rel => exact ⟨k + 1, by omega, by go_num, HBE.out, HO.out⟩
        case measure => simp [intOf]; omega
      · cases hg : (FloatKind.f64.format.order x 0 == some .gt) <;> cases he : (FloatKind.f64.format.order x 0 == some .eq)
        · have HO := hide (HBAD.out (by unfold oneB; simp only [hg, he]; rfl))
          go_wp2_with fail
          go_ret
          exact ⟨by rw [HO.out]; rfl, HBE.out⟩
        all_goals
          have HO := hide (HOK.out (by unfold oneB; simp only [hg, he]; rfl))
          go_wp2_with fail
          go_roundw
          case rel => exact ⟨k + 1, by omega, by go_num, HBE.out, HO.out⟩
          case measure => simp [intOf]; omega
      all_goals
        cases he : (FloatKind.f64.format.order x 0 == some .eq)
        · have hne : (FloatKind.f64.format.order x 0 != some .eq) = true := by rw [bne, he]; rfl
          have HO := hide (HBAD.out (by unfold oneB; simp only [he]; rfl))
          go_wp2_with fail
          go_ret
          exact ⟨by rw [HO.out]; rfl, HBE.out⟩
        · have hne : (FloatKind.f64.format.order x 0 != some .eq) = false := by rw [bne, he]; rfl
          have HO := hide (HOK.out (by unfold oneB; simp only [he]; rfl))
          go_wp2_with fail
          go_roundw
          case rel => exact ⟨k + 1, by omega, by go_num, HBE.out, HO.out⟩
          case measure => simp [intOf]; omega
    · obtain rfl : len = k := by omega
      have HO := hide (all_true (hs := hs) (fun j hj => HN.out j (by rw [← HL.out]; exact hj)))
      go_wp2_with fail
      go_ret
      refine ⟨?_, hbel⟩
      rw [HO.out, HL.out]
      by_cases h4 : len ≤ 4
      · simp [h4]; omega
      · simp [h4]; omega
end Go.Proofs.Ytegofhmkebbinaa
