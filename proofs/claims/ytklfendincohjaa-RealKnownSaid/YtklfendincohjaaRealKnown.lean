/-
  RealKnown: numbers by hand: noughts with a sign, infinities, the halves of a fold. No condition.
-/
import Derived.Test.YtklfendincohjaaReal5
namespace Go.Proofs.Ytklfendincohjaa.RealKnown
open Go.RowKit
attribute [local go_sem] Fl.run_add Fl.run_mul Fl.run_neg

theorem inf_any (w : World) : Calls Try.prog 22 #[.int .i64 1] w fun e w' => e = .returned (.float .f64 9218868437227405312) ∧ w = w' := by
  have hb := frombits_run
  go_enter Try.func22, Try.ntmps22
  go_wp2_with fail
  go_ret
  exact ⟨rfl, rfl⟩
theorem copysign_any (w : World) : Calls Try.prog 21 #[.float .f64 0, .float .f64 13830554455654793216] w fun e w' => e = .returned (.float .f64 9223372036854775808) ∧ w = w' := by
  have hb := frombits_run
  have hc := bits_run
  go_enter Try.func21, Try.ntmps21
  go_wp2_with fail
  go_ret
  exact ⟨by kernel_rfl, rfl⟩

def big : Nat := 9214871658872686752
def nbig : Nat := Op.negFloat .f64 9214871658872686752
def one : Nat := 4607182418800017408
def e16 : Nat := 4846369599423283200
def ne16 : Nat := 14069741636278059008
theorem f_neg : Fl.foldC ([9223372036854775808].map Fl.can) = some 9223372036854775808 := by rw [List.map_singleton, Fl.foldC_one]; decide +kernel
theorem r_neg : Fl.rowC ([9223372036854775808].map Fl.can) = some 0 := by decide +kernel
theorem f_big : Fl.foldC ([9214871658872686752, 9214871658872686752, Op.negFloat .f64 9214871658872686752, Op.negFloat .f64 9214871658872686752].map Fl.can) = none := by
  simp only [List.map_cons, List.map_nil]; rw [Fl.foldC_four]; decide +kernel
theorem r_big : Fl.rowC ([9214871658872686752, 9214871658872686752, Op.negFloat .f64 9214871658872686752, Op.negFloat .f64 9214871658872686752].map Fl.can) = some 9218868437227405312 := by decide +kernel
theorem f_16a : Fl.foldC ([4846369599423283200, 4607182418800017408, 14069741636278059008].map Fl.can) = some 0 := by
  simp only [List.map_cons, List.map_nil]; rw [Fl.foldC_three]; decide +kernel
theorem f_16b : Fl.foldC ([4846369599423283200, 14069741636278059008, 4607182418800017408].map Fl.can) = some 4607182418800017408 := by
  simp only [List.map_cons, List.map_nil]; rw [Fl.foldC_three]; decide +kernel
theorem p_inf : Fl.opC .add (Fl.can 9218868437227405312) (Fl.can (Op.negFloat .f64 9218868437227405312)) = none := by decide +kernel
theorem t_neg : Fl.opC .mul (Fl.can 9223372036854775808) (Fl.can 4617315517961601024) = some 9223372036854775808 := by decide +kernel

set_option maxHeartbeats 2000000 in
theorem walk (w : World) :
    Calls Try.prog 8 #[] w fun e w' => e = .returned (.bool true) ∧ Below w.heap.size w w' := by
  have hb := frombits_run
  have s1 : Fl.sameB (Fl.can 0) (Fl.can 0) = true := by decide +kernel
  have s2 : Fl.sameB (Fl.can 0) (Fl.can 9223372036854775808) = false := by decide +kernel
  have s3 : Fl.bitsI (Fl.can 9223372036854775808) = 9223372036854775808 := by decide +kernel
  have s4 : Fl.bitsI (Fl.can 18444492273895866659) = 9221120237041090561 := by decide +kernel
  have s5 : Fl.sameB (Fl.can 9223372036854775808) (Fl.can 9223372036854775808) = true := by decide +kernel
  have s6 : Fl.sameB none (Fl.can 9221120237041090561) = true := by decide +kernel
  have s7 : Fl.sameB (Fl.can 9218868437227405312) (Fl.can 9218868437227405312) = true := by decide +kernel
  have e0 : (FloatKind.f64.format.order 0 0 == some .eq) = true := by decide +kernel
  have e1 : (FloatKind.f64.format.order 4607182418800017408 4607182418800017408 == some .eq) = true := by decide +kernel
  go_enter Try.func8, Try.ntmps8
  go_wp2_with fail
  refine (awake_any w).mono ?_
  rintro e w1 ⟨rfl, hbe⟩
  have HB := hide hbe
  clear hbe
  go_wp2_with (first | (go_at_call 21; refine (copysign_any _).mono ?_; rintro e w' ⟨rfl, rfl⟩) | (go_at_call 22; refine (inf_any _).mono ?_; rintro e w' ⟨rfl, rfl⟩) | (go_at_call 23; refine (nan_any _).mono ?_; rintro e w' ⟨rfl, rfl⟩) | (go_at_call 18; refine (same_any _ _ _).mono ?_; rintro e w' ⟨rfl, rfl⟩) | (go_at_call 12; refine (bits_any _ _).mono ?_; rintro e w' ⟨rfl, rfl⟩))
  refine (fold_nil _).mono ?_
  rintro e w' ⟨r, n1, rfl, hc, rfl⟩
  obtain ⟨rfl, _⟩ := Fl.of_can hc
  clear hc
  go_wp2_with (first | (go_at_call 18; refine (same_any _ _ _).mono ?_; rintro e w' ⟨rfl, rfl⟩) | (go_at_call 23; refine (nan_any _).mono ?_; rintro e w' ⟨rfl, rfl⟩))
  refine (fold_any [9223372036854775808] _ _ _ _ _ rfl (by decide) (by decide) ?_).mono ?_
  · exact Fl.Row_alloc _ _ (by simp) _ _ _ rfl
  rintro e w' ⟨r, nf_neg, rfl, hc, rfl⟩
  obtain ⟨rfl, _⟩ := Fl.of_can (hc.trans f_neg)
  clear hc
  go_wp2_with (first | (go_at_call 18; refine (same_any _ _ _).mono ?_; rintro e w' ⟨rfl, rfl⟩) | (go_at_call 23; refine (nan_any _).mono ?_; rintro e w' ⟨rfl, rfl⟩))
  refine (row_any [9223372036854775808] _ _ _ _ _ rfl (by decide) ?_).mono ?_
  · exact Fl.Row_alloc _ _ (by simp) _ _ _ rfl
  rintro e w' ⟨r, nr_neg, rfl, hc, rfl⟩
  obtain ⟨rfl, _⟩ := Fl.of_can (hc.trans r_neg)
  clear hc
  go_wp2_with (first | (go_at_call 18; refine (same_any _ _ _).mono ?_; rintro e w' ⟨rfl, rfl⟩) | (go_at_call 23; refine (nan_any _).mono ?_; rintro e w' ⟨rfl, rfl⟩))
  refine (fold_any [9214871658872686752, 9214871658872686752, Op.negFloat .f64 9214871658872686752, Op.negFloat .f64 9214871658872686752] _ _ _ _ _ rfl (by decide) (by decide) ?_).mono ?_
  · exact Fl.Row_alloc _ _ (by simp) _ _ _ rfl
  rintro e w' ⟨r, nf_big, rfl, hc, rfl⟩
  replace hc := hc.trans f_big
  go_wp2_with (first | (go_at_call 18; refine (same_any _ _ _).mono ?_; rintro e w' ⟨rfl, rfl⟩) | (go_at_call 23; refine (nan_any _).mono ?_; rintro e w' ⟨rfl, rfl⟩))
  clear hc
  refine (row_any [9214871658872686752, 9214871658872686752, Op.negFloat .f64 9214871658872686752, Op.negFloat .f64 9214871658872686752] _ _ _ _ _ rfl (by decide) ?_).mono ?_
  · exact Fl.Row_alloc _ _ (by simp) _ _ _ rfl
  rintro e w' ⟨r, nr_big, rfl, hc, rfl⟩
  obtain ⟨rfl, _⟩ := Fl.of_can (hc.trans r_big)
  clear hc
  go_wp2_with (first | (go_at_call 18; refine (same_any _ _ _).mono ?_; rintro e w' ⟨rfl, rfl⟩) | (go_at_call 23; refine (nan_any _).mono ?_; rintro e w' ⟨rfl, rfl⟩))
  refine (fold_any [4846369599423283200, 4607182418800017408, 14069741636278059008] _ _ _ _ _ rfl (by decide) (by decide) ?_).mono ?_
  · exact Fl.Row_alloc _ _ (by simp) _ _ _ rfl
  rintro e w' ⟨r, nf_16a, rfl, hc, rfl⟩
  obtain ⟨rfl, _⟩ := Fl.of_can (hc.trans f_16a)
  clear hc
  go_wp2_with (first | (go_at_call 18; refine (same_any _ _ _).mono ?_; rintro e w' ⟨rfl, rfl⟩) | (go_at_call 23; refine (nan_any _).mono ?_; rintro e w' ⟨rfl, rfl⟩))
  refine (fold_any [4846369599423283200, 14069741636278059008, 4607182418800017408] _ _ _ _ _ rfl (by decide) (by decide) ?_).mono ?_
  · exact Fl.Row_alloc _ _ (by simp) _ _ _ rfl
  rintro e w' ⟨r, nf_16b, rfl, hc, rfl⟩
  obtain ⟨rfl, _⟩ := Fl.of_can (hc.trans f_16b)
  clear hc
  go_wp2_with (first | (go_at_call 18; refine (same_any _ _ _).mono ?_; rintro e w' ⟨rfl, rfl⟩) | (go_at_call 23; refine (nan_any _).mono ?_; rintro e w' ⟨rfl, rfl⟩))
  refine (plus_gives _ _ _).mono ?_
  rintro e w' ⟨r, m1, rfl, hc, rfl⟩
  replace hc := hc.trans p_inf
  go_wp2_with (first | (go_at_call 18; refine (same_any _ _ _).mono ?_; rintro e w' ⟨rfl, rfl⟩) | (go_at_call 23; refine (nan_any _).mono ?_; rintro e w' ⟨rfl, rfl⟩))
  clear hc
  refine (times_gives _ _ _).mono ?_
  rintro e w' ⟨r, m2, rfl, hc, rfl⟩
  obtain ⟨rfl, _⟩ := Fl.of_can (hc.trans t_neg)
  clear hc
  go_wp2_with (first | (go_at_call 18; refine (same_any _ _ _).mono ?_; rintro e w' ⟨rfl, rfl⟩) | (go_at_call 23; refine (nan_any _).mono ?_; rintro e w' ⟨rfl, rfl⟩))
  go_ret
  exact ⟨rfl, by repeat first | exact HB.out | exact Below.refl _ _ | refine Fl.below_drewN ?_ _ | refine Below.alloc ?_ (by have := HB.out.size; simp; omega) _⟩
end Go.Proofs.Ytklfendincohjaa.RealKnown
