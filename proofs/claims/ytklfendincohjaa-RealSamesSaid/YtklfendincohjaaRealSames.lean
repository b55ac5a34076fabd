/-
  RealSames: two numbers are the same just if their bits are, all NaNs taken as one; Plus and Times do not hang on the order. No condition.
-/
import Derived.Test.YtklfendincohjaaReal5
namespace Go.Proofs.Ytklfendincohjaa.RealSames
open Go.RowKit
attribute [local go_sem] Fl.run_add Fl.run_mul

theorem sum_comm (d e : Ieee.Datum) : d.sum e = e.sum d := by
  cases d <;> cases e <;> simp only [Ieee.Datum.sum]
  · rename_i s m i t n j
    rw [Int.min_comm j i, Int.add_comm (Ieee.signed t n _)]
    cases s <;> cases t <;> rfl
  · rename_i s t
    cases s <;> cases t <;> rfl
theorem product_comm (d e : Ieee.Datum) : d.product e = e.product d := by
  cases d <;> cases e <;> simp only [Ieee.Datum.product]
  · rename_i s m i t n j
    rw [Nat.mul_comm n m, Int.add_comm j i, Bool.xor_comm]
  all_goals rw [Bool.xor_comm]
theorem opC_comm (x y : Option Nat) : Fl.opC .add x y = Fl.opC .add y x ∧ Fl.opC .mul x y = Fl.opC .mul y x := by
  cases x <;> cases y <;> first | exact ⟨rfl, rfl⟩ | skip
  constructor
  · show Fl.op .add _ _ = Fl.op .add _ _
    simp only [Fl.op, Ieee.Format.add, sum_comm]
  · show Fl.op .mul _ _ = Fl.op .mul _ _
    simp only [Fl.op, Ieee.Format.mul, product_comm]

theorem same_bits (a b : Nat) : Fl.sameB (Fl.can a) (Fl.can b) = ((Fl.nanB a && Fl.nanB b) || a == b) := by
  unfold Fl.sameB
  cases ha : Fl.nanB a <;> cases hb : Fl.nanB b
  · rw [Fl.can_some ha, Fl.can_some hb]; simp
  · rw [Fl.can_some ha, Fl.can_none hb]
    rw [Bool.eq_iff_iff]
    simp
    rintro rfl
    rw [ha] at hb; cases hb
  · rw [Fl.can_none ha, Fl.can_some hb]
    rw [Bool.eq_iff_iff]
    simp
    rintro rfl
    rw [ha] at hb; cases hb
  · rw [Fl.can_none ha, Fl.can_none hb]; simp
theorem nan_bits (a : Nat) : Fl.nanB a = (Fl.bitsI (Fl.can a) == 9221120237041090561) := by
  cases ha : Fl.nanB a
  · rw [Fl.can_some ha]
    rw [Bool.eq_iff_iff]; simp [Fl.bitsI]
    intro e
    have : a = 9221120237041090561 := by omega
    subst this
    revert ha; decide +kernel
  · rw [Fl.can_none ha]; rfl

set_option maxHeartbeats 2000000 in
theorem core (A B : Nat) (w : World) (p q s : Bool) (hp : (FloatKind.f64.format.order A A != some .eq) = p) (hq : (FloatKind.f64.format.order B B != some .eq) = q)
    (he : ((A : Int) == (B : Int)) = s) (hs : Fl.sameB (Fl.can A) (Fl.can B) = ((p && q) || s)) (hn : (Fl.bitsI (Fl.can A) == 9221120237041090561) = p) :
    Calls Try.prog 6 #[.int .u64 (A : Int), .int .u64 (B : Int)] w fun e w' => e = .returned (.bool true) ∧ Below w.heap.size w w' := by
  have hadd : ∀ W W' : World, Fl.sameB (Fl.can (Fl.opV .add W A B)) (Fl.can (Fl.opV .add W' B A)) = true := fun W W' => by rw [Fl.can_opV, Fl.can_opV, (opC_comm _ _).1]; exact beq_self_eq_true _
  have hmul : ∀ W W' : World, Fl.sameB (Fl.can (Fl.opV .mul W A B)) (Fl.can (Fl.opV .mul W' B A)) = true := fun W W' => by rw [Fl.can_opV, Fl.can_opV, (opC_comm _ _).2]; exact beq_self_eq_true _
  have hb := frombits_run
  go_enter Try.func6, Try.ntmps6
  go_wp2_with fail
  refine (awake_any w).mono ?_
  rintro e w1 ⟨rfl, hB⟩
  have HB := hide hB
  clear hB
  cases p <;> cases q <;> cases s
  all_goals
    simp only [Bool.and_true, Bool.and_false, Bool.or_true, Bool.or_false] at hs
    go_wp2_with (first | (go_at_call 10; refine (plus_any _ _ _).mono ?_; rintro e w' ⟨rfl, rfl⟩) | (go_at_call 11; refine (times_any _ _ _).mono ?_; rintro e w' ⟨rfl, rfl⟩) | (go_at_call 12; refine (bits_any _ _).mono ?_; rintro e w' ⟨rfl, rfl⟩) | (go_at_call 18; refine (same_any _ _ _).mono ?_; rintro e w' ⟨rfl, rfl⟩))
    go_ret
    exact ⟨rfl, Fl.below_drewN HB.out _⟩

theorem walk (a b : Int) (w : World) (ha : (Lit.int .u64 a).wf = true) (hb : (Lit.int .u64 b).wf = true) :
    Calls Try.prog 6 #[.int .u64 a, .int .u64 b] w fun e w' => e = .returned (.bool true) ∧ Below w.heap.size w w' := by
  have h1 : 0 ≤ a := by simp [Lit.wf, IntKind.min, IntKind.signed] at ha; omega
  have h2 : 0 ≤ b := by simp [Lit.wf, IntKind.min, IntKind.signed] at hb; omega
  obtain ⟨A, rfl⟩ := Int.eq_ofNat_of_zero_le h1
  obtain ⟨B, rfl⟩ := Int.eq_ofNat_of_zero_le h2
  refine core A B w _ _ _ rfl rfl rfl ?_ ?_
  · rw [same_bits]
    rw [show (FloatKind.f64.format.order A A != some .eq) = Fl.nanB A from Fl.ne_self A, show (FloatKind.f64.format.order B B != some .eq) = Fl.nanB B from Fl.ne_self B]
    congr 1
    rw [Bool.eq_iff_iff]; simp; omega
  · rw [show (FloatKind.f64.format.order A A != some .eq) = Fl.nanB A from Fl.ne_self A]
    exact (nan_bits A).symm
end Go.Proofs.Ytklfendincohjaa.RealSames
