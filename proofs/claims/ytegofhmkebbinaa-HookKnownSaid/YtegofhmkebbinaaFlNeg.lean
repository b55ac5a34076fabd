/-
  A float64 with its sign turned; of a number that is no less than 0 the turned one is not greater. No condition.
-/
import Derived.Test.YtegofhmkebbinaaFl
namespace Go.Proofs.Ytegofhmkebbinaa
namespace Fl
open Ieee

def turn : Datum → Datum
  | .number s m i => .number (!s) m i
  | .infinity s => .infinity (!s)
  | .nan s f => .nan (!s) f
theorem neg_eq (x : Nat) : Op.negFloat .f64 x = x ^^^ 2 ^ 63 := rfl
theorem neg_mod (x : Nat) : (x ^^^ 2 ^ 63) % 2 ^ 63 = x % 2 ^ 63 := by
  rw [Nat.xor_mod_two_pow, Nat.mod_self, Nat.xor_zero]
theorem neg_sign (x : Nat) : ((x ^^^ 2 ^ 63) / 2 ^ 63 % 2 == 1) = !(x / 2 ^ 63 % 2 == 1) := by
  rw [Nat.xor_div_two_pow, Nat.div_self (Nat.two_pow_pos _)]
  have h := Nat.xor_mod_two_pow (a := x / 2 ^ 63) (b := 1) (n := 1)
  rw [Nat.pow_one] at h
  rw [h]
  rcases Nat.mod_two_eq_zero_or_one (x / 2 ^ 63) with e | e <;> rw [e] <;> rfl
theorem read_neg (x : Nat) : double.read (Op.negFloat .f64 x) = turn (double.read x) := by
  rw [neg_eq]
  have h1 := neg_mod x
  have h2 := neg_sign x
  unfold Format.read
  rw [sw] at *
  simp only [show (9223372036854775808 : Nat) = 2 ^ 63 from rfl] at *
  rw [h1, h2]
  split
  · rfl
  · split
    · rfl
    · split <;> rfl
theorem signed_neg (s : Bool) (m k : Nat) : Ieee.signed (!s) m k = -Ieee.signed s m k := by
  cases s <;> simp [Ieee.signed]
theorem not_above {x : Nat} (h : (double.order x 0 == some .gt) = true ∨ (double.order x 0 == some .eq) = true) : (double.order (Op.negFloat .f64 x) x == some .gt) = false := by
  have h0 : double.read 0 = .number false 0 double.leastPlace := by decide +kernel
  unfold Format.order at *
  rw [read_neg]
  rw [h0] at h
  cases hd : double.read x with
  | nan s f => rfl
  | infinity s =>
    rw [hd] at h
    cases s
    · rfl
    · exfalso
      rcases h with h | h <;> exact absurd h (by decide)
  | number s m i =>
    rw [hd] at h
    have h1 : 0 ≤ Ieee.signed s m (i - min i double.leastPlace).toNat := by
      have e0 : Ieee.signed false 0 (double.leastPlace - min i double.leastPlace).toNat = 0 := by simp [Ieee.signed]
      simp only [Datum.order, e0, beq_iff_eq, Option.some.injEq] at h
      rcases h with h | h
      · exact Int.le_of_lt (Int.compare_eq_gt.1 h)
      · exact Int.le_of_eq (Int.compare_eq_eq.1 h).symm
    have h2 : 0 ≤ Ieee.signed s m 0 := by
      cases s
      · simp [Ieee.signed]
      · unfold Ieee.signed at h1
        rw [if_pos rfl, Nat.shiftLeft_eq] at h1
        rcases Nat.eq_zero_or_pos m with e | e
        · subst e; decide
        · have := Nat.mul_pos e (Nat.two_pow_pos (i - min i double.leastPlace).toNat)
          omega
    simp only [turn, Datum.order]
    rw [Int.min_self, Int.sub_self, Int.toNat_zero, signed_neg]
    rw [beq_eq_false_iff_ne]
    intro hc
    have := Int.compare_eq_gt.1 (Option.some.inj hc)
    omega
end Fl
end Go.Proofs.Ytegofhmkebbinaa
