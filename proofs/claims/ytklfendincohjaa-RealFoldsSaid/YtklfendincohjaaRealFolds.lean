/-
  RealFolds: any numbers: their fold and their row are the reference's, bit for bit; whether two are the same. No condition.
-/
import Derived.Test.YtklfendincohjaaReal5
namespace Go.Proofs.Ytklfendincohjaa.RealFolds
open Go.RowKit
attribute [local go_sem] Fl.run_add Fl.run_mul

set_option maxHeartbeats 2000000 in
theorem walk (a : Option Addr) (len cap : Nat) (xs : List Nat) (x y : Nat) (w : World) (h : Fl.Sl w a len cap xs) :
    Calls Try.prog 3 #[.slice a len cap, .float .f64 x, .float .f64 y] w fun e w' => e = .returned (.bool true) ∧ Below w.heap.size w w' := by
  have hk : len ≤ cap := h.2.1
  have hadd : ∀ W W' : World, Fl.sameB (Fl.can (Fl.opV .add W x y)) (Fl.can (Fl.opV .add W' x y)) = true := fun W W' => by rw [Fl.can_opV, Fl.can_opV]; exact beq_self_eq_true _
  have hmul : ∀ W W' : World, Fl.sameB (Fl.can (Fl.opV .mul W x y)) (Fl.can (Fl.opV .mul W' x y)) = true := fun W W' => by rw [Fl.can_opV, Fl.can_opV]; exact beq_self_eq_true _
  have H := hide h
  clear h
  go_enter Try.func3, Try.ntmps3
  go_wp2_with fail
  refine (awake_any w).mono ?_
  rintro e w1 ⟨rfl, hb⟩
  have H1 := hide (H.out.later hb)
  have HB := hide hb
  clear H hb
  by_cases h5 : len ≤ 500
  · go_wp2_with (first | (go_at_call 10; refine (plus_any _ _ _).mono ?_; rintro e w' ⟨rfl, rfl⟩) | (go_at_call 11; refine (times_any _ _ _).mono ?_; rintro e w' ⟨rfl, rfl⟩) | (go_at_call 13; refine (fold_sl _ _ _ xs _ (by omega) ?_).mono ?_; exact H1.out; rintro e w' ⟨r1, n1, rfl, hc1, rfl⟩) | (go_at_call 15; refine (reffold_sl _ _ _ xs _ (by omega) ?_).mono ?_; exact H1.out; rintro e w' ⟨r2, n2, rfl, hc2, rfl⟩) | (go_at_call 12; refine (bits_any _ _).mono ?_; rintro e w' ⟨rfl, rfl⟩) | (go_at_call 14; refine (refbits_any _ _).mono ?_; rintro e w' ⟨rfl, rfl⟩) | (go_at_call 16; refine (row_sl _ _ _ xs _ (by omega) ?_).mono ?_; exact H1.out; rintro e w' ⟨r3, n3, rfl, hc3, rfl⟩) | (go_at_call 17; refine (refrow_sl _ _ _ xs _ (by omega) ?_).mono ?_; exact H1.out; rintro e w' ⟨r4, n4, rfl, hc4, rfl⟩) | (go_at_call 18; refine (same_any _ _ _).mono ?_; rintro e w' ⟨rfl, rfl⟩) | (go_at_call 19; refine (refsame_any _ _ _).mono ?_; rintro e w' ⟨rfl, rfl⟩))
    go_ret
    exact ⟨rfl, Fl.below_drewN HB.out _⟩
  · go_wp2_with fail
    go_ret
    exact ⟨rfl, HB.out⟩
end Go.Proofs.Ytklfendincohjaa.RealFolds
