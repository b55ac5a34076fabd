/-
  The contract of awake: it returns true, and writes nothing that was there. No condition.
-/
import Derived.Test.YtklfendincohjaaReal3
namespace Go.Proofs.Ytklfendincohjaa
open Go.RowKit
attribute [local go_sem] Fl.run_add Fl.run_mul Fl.run_neg

namespace Fl
theorem fold123 : foldC [some 4607182418800017408, some 4611686018427387904, some 4613937818241073152] = some 4618441417868443648 := by
  rw [foldC_step _ (by decide)]
  show opC .add (foldC [some 4607182418800017408, some 4611686018427387904]) (foldC [some 4613937818241073152]) = _
  rw [foldC_one, foldC_step _ (by decide)]
  show opC .add (opC .add (foldC [some 4607182418800017408]) (foldC [some 4611686018427387904])) _ = _
  rw [foldC_one, foldC_one]
  decide +kernel
theorem row12 : rowC [some 4607182418800017408, some 4611686018427387904] = some 4613937818241073152 := by decide +kernel
theorem plus23 : opC .add (can 4611686018427387904) (can 4613937818241073152) = some 4617315517961601024 := by decide +kernel
theorem times23 : opC .mul (can 4611686018427387904) (can 4613937818241073152) = some 4618441417868443648 := by decide +kernel
theorem fold123' : foldC ([4607182418800017408, 4611686018427387904, 4613937818241073152].map can) = some 4618441417868443648 := by
  rw [← fold123]; exact congrArg _ (by decide +kernel)
theorem row12' : rowC ([4607182418800017408, 4611686018427387904].map can) = some 4613937818241073152 := by decide +kernel
theorem foldC_two (x y : Option Nat) : foldC [x, y] = opC .add x y := by
  rw [foldC_step _ (by simp)]
  simp [foldC_one]
theorem foldC_three (x y z : Option Nat) : foldC [x, y, z] = opC .add (opC .add x y) z := by
  rw [foldC_step _ (by simp)]
  simp [foldC_one, foldC_two]
theorem foldC_four (x y z u : Option Nat) : foldC [x, y, z, u] = opC .add (opC .add x y) (opC .add z u) := by
  rw [foldC_step _ (by simp)]
  simp [foldC_two]
theorem same_nans : sameB (can 9221120237041090561) (can (Op.negFloat .f64 9221120237041090561)) = true := by decide +kernel
theorem eq6 : (FloatKind.f64.format.order 4618441417868443648 4618441417868443648 == some .eq) = true := by decide +kernel
theorem eq5 : (FloatKind.f64.format.order 4617315517961601024 4617315517961601024 == some .eq) = true := by decide +kernel
theorem eq3 : (FloatKind.f64.format.order 4613937818241073152 4613937818241073152 == some .eq) = true := by decide +kernel
end Fl

theorem nan_any (w : World) : Calls Try.prog 23 #[] w fun e w' => e = .returned (.float .f64 9221120237041090561) ∧ w = w' := by
  have hb := frombits_run
  go_enter Try.func23, Try.ntmps23
  go_wp2_with fail
  go_ret
  exact ⟨rfl, rfl⟩

set_option maxHeartbeats 1000000 in
theorem awake_any (w : World) : Calls Try.prog 9 #[] w fun e w' => e = .returned (.bool true) ∧ Below w.heap.size w w' := by
  have hb := frombits_run
  have e6 := Fl.eq6
  have e5 := Fl.eq5
  have e3 := Fl.eq3
  have hs := Fl.same_nans
  go_enter Try.func9, Try.ntmps9
  go_wp2_with fail
  refine (fold_any [4607182418800017408, 4611686018427387904, 4613937818241073152] _ _ _ _ _ rfl (by decide) (by decide) (Fl.Row_alloc _ _ rfl _ _ _ rfl)).mono ?_
  rintro e w' ⟨r, n, rfl, hc, rfl⟩
  obtain ⟨rfl, _⟩ := Fl.of_can (hc.trans Fl.fold123')
  clear hc
  go_wp2_with fail
  refine (times_gives _ _ _).mono ?_
  rintro e w' ⟨r, m, rfl, hc, rfl⟩
  obtain ⟨rfl, _⟩ := Fl.of_can (hc.trans Fl.times23)
  clear hc
  go_wp2_with fail
  refine (plus_gives _ _ _).mono ?_
  rintro e w' ⟨r, m2, rfl, hc, rfl⟩
  obtain ⟨rfl, _⟩ := Fl.of_can (hc.trans Fl.plus23)
  clear hc
  go_wp2_with (first | (go_at_call 23; refine (nan_any _).mono ?_; rintro e w' ⟨rfl, rfl⟩) | (go_at_call 18; refine (same_any _ _ _).mono ?_; rintro e w' ⟨rfl, rfl⟩))
  refine (row_any [4607182418800017408, 4611686018427387904] _ _ _ _ _ rfl (by decide) (Fl.Row_alloc _ _ (by simp) _ _ _ rfl)).mono ?_
  rintro e w' ⟨r, m3, rfl, hc, rfl⟩
  obtain ⟨rfl, _⟩ := Fl.of_can (hc.trans Fl.row12')
  clear hc
  go_wp2_with fail
  go_ret
  refine ⟨rfl, ?_⟩
  exact Fl.below_drewN ((Fl.below_drewN ((Below.refl _ _).alloc (Nat.le_refl _) _) _).alloc (by simp) _) _
end Go.Proofs.Ytklfendincohjaa
