/-
  Whole numbers below 2^53 as float64: their sum, their product, how two stand to each other are exact. Plain laws; no condition, no function of the program.
-/
import Derived.Test.YtegofhmkebbinaaFl
namespace Go.Proofs.Ytegofhmkebbinaa
namespace Fl
open Ieee

def ofI (n : Int) : Nat := double.write (.number (n < 0) n.natAbs 0)

theorem ofI_is (n : Int) : floatOfInt .f64 n = ofI n := rfl

theorem cut_zero (neg : Bool) (n : Nat) : Toward.even.cut neg n 0 = n := by
  unfold Toward.cut
  simp [Nat.mod_one]

theorem cut_exact (neg : Bool) (m d : Nat) (hm : m ≠ 0) : Toward.even.cut neg (m * 2 ^ d) d = m := by
  have hp : 0 < 2 ^ d := Nat.two_pow_pos _
  have hn : m * 2 ^ d ≠ 0 := Nat.mul_ne_zero hm (by omega)
  have hl : d ≤ (m * 2 ^ d).log2 := (Nat.le_log2 hn).2 (Nat.le_mul_of_pos_left _ (by omega))
  unfold Toward.cut
  have e : min d ((m * 2 ^ d).log2 + 2) = d := Nat.min_eq_left (by omega)
  simp only [e, Nat.shiftLeft_eq, Nat.one_mul, Nat.mul_mod_left, Nat.mul_div_cancel _ hp]
  have h1 : decide (2 ^ d < 2 * 0) = false := by simp
  have h2 : (2 ^ d == 2 * 0) = false := by simp
  rw [h1, h2]
  rfl

theorem log2_mul_pow (m k : Nat) (hm : m ≠ 0) : (m * 2 ^ k).log2 = m.log2 + k := by
  have hp : 0 < 2 ^ k := Nat.two_pow_pos _
  have hn : m * 2 ^ k ≠ 0 := Nat.mul_ne_zero hm (by omega)
  have h := (Nat.log2_eq_iff hm).1 rfl
  refine (Nat.log2_eq_iff hn).2 ⟨?_, ?_⟩
  · rw [Nat.pow_add]; exact Nat.mul_le_mul_right _ h.1
  · rw [show m.log2 + k + 1 = (m.log2 + 1) + k from by omega, Nat.pow_add]; exact Nat.mul_lt_mul_of_pos_right h.2 hp

theorem least : double.leastPlace = -1074 := by decide +kernel
theorem frac : (double.fractionBits : Int) = 52 := rfl

theorem log2_le (m : Nat) (hm : m ≠ 0) (h53 : m < 9007199254740992) : m.log2 ≤ 52 := by
  have h := (Nat.log2_eq_iff hm).1 rfl
  by_cases hc : m.log2 ≤ 52
  · exact hc
  · exfalso
    have : 2 ^ 53 ≤ 2 ^ m.log2 := Nat.pow_le_pow_right (by omega) (by omega)
    have e : (2 : Nat) ^ 53 = 9007199254740992 := by decide +kernel
    omega

theorem frac_range (m : Nat) (hm : m ≠ 0) (h53 : m < 9007199254740992) : 4503599627370496 ≤ m * 2 ^ (52 - m.log2) ∧ m * 2 ^ (52 - m.log2) < 9007199254740992 := by
  have h := (Nat.log2_eq_iff hm).1 rfl
  have hl := log2_le m hm h53
  have hp : 0 < 2 ^ (52 - m.log2) := Nat.two_pow_pos _
  have e1 : 2 ^ m.log2 * 2 ^ (52 - m.log2) = 4503599627370496 := by
    rw [← Nat.pow_add, show m.log2 + (52 - m.log2) = 52 from by omega]
  have e2 : 2 ^ (m.log2 + 1) * 2 ^ (52 - m.log2) = 9007199254740992 := by
    rw [← Nat.pow_add, show m.log2 + 1 + (52 - m.log2) = 53 from by omega]
  constructor
  · rw [← e1]; exact Nat.mul_le_mul_right _ h.1
  · rw [← e2]; exact Nat.mul_lt_mul_of_pos_right h.2 hp

/-- The rung of a whole number. -/
def rungOf (m : Nat) : Nat := (m.log2 + 1022) * 4503599627370496 + m * 2 ^ (52 - m.log2)

theorem rungOf_lt (m : Nat) (hm : m ≠ 0) (h53 : m < 9007199254740992) : rungOf m < 9218868437227405312 := by
  have := frac_range m hm h53
  have := log2_le m hm h53
  unfold rungOf
  omega

theorem nearest_exact (neg : Bool) (m k : Nat) (hm : m ≠ 0) (h53 : m < 9007199254740992) : double.nearest neg (m * 2 ^ k) (-(k : Int)) = double.word neg (rungOf m) := by
  have hp : 0 < 2 ^ k := Nat.two_pow_pos _
  have hn : m * 2 ^ k ≠ 0 := Nat.mul_ne_zero hm (by omega)
  have hl := log2_le m hm h53
  have hlt := rungOf_lt m hm h53
  unfold Format.nearest
  rw [if_neg hn]
  simp only [log2_mul_pow m k hm, least, frac]
  have e1 : max (-(k : Int) + ((m.log2 + k : Nat) : Int) - 52) (-1074) = (m.log2 : Int) - 52 := by omega
  simp only [e1]
  have e2 : ((m.log2 : Int) - 52 - -1074).toNat = m.log2 + 1022 := by omega
  rw [e2, bin, inf]
  have e3 : Toward.even.cut neg ((m * 2 ^ k) <<< (-(k : Int) - ((m.log2 : Int) - 52)).toNat) ((m.log2 : Int) - 52 - -(k : Int)).toNat = m * 2 ^ (52 - m.log2) := by
    rw [Nat.shiftLeft_eq]
    by_cases hc : m.log2 + k ≤ 52
    · have f1 : (-(k : Int) - ((m.log2 : Int) - 52)).toNat = 52 - m.log2 - k := by omega
      have f2 : ((m.log2 : Int) - 52 - -(k : Int)).toNat = 0 := by omega
      rw [f1, f2, cut_zero, Nat.mul_assoc, ← Nat.pow_add, show k + (52 - m.log2 - k) = 52 - m.log2 from by omega]
    · have f1 : (-(k : Int) - ((m.log2 : Int) - 52)).toNat = 0 := by omega
      have f2 : ((m.log2 : Int) - 52 - -(k : Int)).toNat = m.log2 + k - 52 := by omega
      rw [f1, f2, Nat.pow_zero, Nat.mul_one]
      have f3 : m * 2 ^ k = (m * 2 ^ (52 - m.log2)) * 2 ^ (m.log2 + k - 52) := by
        rw [Nat.mul_assoc, ← Nat.pow_add, show 52 - m.log2 + (m.log2 + k - 52) = k from by omega]
      rw [f3]
      exact cut_exact neg _ _ (Nat.mul_ne_zero hm (by have : 0 < 2 ^ (52 - m.log2) := Nat.two_pow_pos _; omega))
  rw [e3]
  have e4 : (m.log2 + 1022) * 4503599627370496 + m * 2 ^ (52 - m.log2) = rungOf m := rfl
  rw [e4, Nat.min_eq_left (by omega)]

theorem read_exact (neg : Bool) (m : Nat) (hm : m ≠ 0) (h53 : m < 9007199254740992) : double.read (double.word neg (rungOf m)) = .number neg (m * 2 ^ (52 - m.log2)) (-((52 - m.log2 : Nat) : Int)) := by
  have hlt := rungOf_lt m hm h53
  have hr := frac_range m hm h53
  have hl := log2_le m hm h53
  rw [read_word neg _ (by rw [sw]; omega)]
  have hge : ¬ rungOf m < double.binade := by rw [bin]; unfold rungOf; omega
  rw [if_neg hge, if_pos (by rw [inf]; exact hlt), bin, least]
  have e1 : rungOf m % 4503599627370496 = m * 2 ^ (52 - m.log2) - 4503599627370496 := by unfold rungOf; omega
  have e2 : rungOf m / 4503599627370496 = m.log2 + 1023 := by unfold rungOf; omega
  have f1 : 4503599627370496 + (m * 2 ^ (52 - m.log2) - 4503599627370496) = m * 2 ^ (52 - m.log2) := by omega
  have f2 : (-1074 : Int) + ((m.log2 + 1023 - 1 : Nat) : Int) = -((52 - m.log2 : Nat) : Int) := by omega
  rw [e1, e2, f1, f2]

/-- The datum's value is the whole number n. -/
def Val (d : Datum) (n : Int) : Prop := ∃ (s : Bool) (m k : Nat), d = .number s m (-(k : Int)) ∧ signed s m 0 = n * 2 ^ k

theorem signed_up (s : Bool) (m u : Nat) : signed s m u = signed s m 0 * 2 ^ u := by
  unfold signed
  cases s <;> simp [Nat.shiftLeft_eq, Int.neg_mul]

/-- The float is the whole number n (of either sign, where n is 0). -/
def IsI (b : Nat) (n : Int) : Prop := b = ofI n ∨ (n = 0 ∧ b = 9223372036854775808)

theorem ofI_zero : ofI 0 = 0 := by decide +kernel
theorem ofI_word (n : Int) (h0 : n ≠ 0) (h : n.natAbs < 9007199254740992) : ofI n = double.word (n < 0) (rungOf n.natAbs) := by
  have := nearest_exact (decide (n < 0)) n.natAbs 0 (by omega) h
  simpa [ofI, Format.write] using this

theorem val_ofI (n : Int) (h : n.natAbs < 9007199254740992) : Val (double.read (ofI n)) n := by
  by_cases h0 : n = 0
  · subst h0
    refine ⟨false, 0, 1074, by decide +kernel, by simp only [signed, Nat.zero_shiftLeft, Int.zero_mul]; rfl⟩
  · rw [ofI_word n h0 h, read_exact _ _ (by omega) h]
    refine ⟨_, _, _, rfl, ?_⟩
    unfold signed
    by_cases hn : n < 0
    · have e : (n.natAbs : Int) = -n := by omega
      simp [hn, e, Int.neg_mul]
    · have e : (n.natAbs : Int) = n := by omega
      simp [hn, e]

theorem val_of {b : Nat} {n : Int} (hb : IsI b n) (h : n.natAbs < 9007199254740992) : Val (double.read b) n := by
  rcases hb with rfl | ⟨rfl, rfl⟩
  · exact val_ofI n h
  · exact ⟨true, 0, 1074, by decide +kernel, by simp only [signed, Nat.zero_shiftLeft, Int.zero_mul]; rfl⟩

theorem nan_val {b : Nat} {n : Int} (h : Val (double.read b) n) : nanB b = false := by
  obtain ⟨s, m, k, e, _⟩ := h
  unfold nanB; rw [e]; rfl

theorem write_val {d : Datum} {n : Int} (h : Val d n) (hn : n.natAbs < 9007199254740992) : IsI (double.write d) n := by
  obtain ⟨s, m, k, rfl, hs⟩ := h
  have hp : (0 : Int) < 2 ^ k := Int.pow_pos (by omega)
  by_cases h0 : n = 0
  · subst h0
    have hm : m = 0 := by
      unfold signed at hs
      cases s <;> simp at hs <;> omega
    subst hm
    cases s
    · left; rw [ofI_zero]; rfl
    · right; exact ⟨rfl, rfl⟩
  · have e : s = decide (n < 0) ∧ m = n.natAbs * 2 ^ k := by
      have hc : ((n.natAbs * 2 ^ k : Nat) : Int) = (n.natAbs : Int) * 2 ^ k := by simp
      unfold signed at hs
      cases s
      · simp at hs
        have h1 : 0 ≤ n := by
          rcases Int.lt_or_le n 0 with hlt | hle
          · have := Int.mul_neg_of_neg_of_pos hlt hp
            omega
          · exact hle
        refine ⟨by simp; exact h1, ?_⟩
        have e : (n.natAbs : Int) = n := by omega
        rw [e] at hc
        omega
      · simp at hs
        have h1 : n < 0 := by
          rcases Int.lt_or_le n 0 with hlt | hle
          · exact hlt
          · have h2 : 0 < n := by omega
            have := Int.mul_pos h2 hp
            omega
        refine ⟨by simp [h1], ?_⟩
        have e : (n.natAbs : Int) = -n := by omega
        rw [e, Int.neg_mul] at hc
        omega
    obtain ⟨rfl, rfl⟩ := e
    left
    show double.nearest _ _ _ = _
    rw [nearest_exact _ _ _ (by omega) hn, ofI_word n h0 hn]

theorem val_sum {d e : Datum} {a b : Int} (hd : Val d a) (he : Val e b) : ∃ r, d.sum e = some r ∧ Val r (a + b) := by
  obtain ⟨s, m, k, rfl, h1⟩ := hd
  obtain ⟨t, n, l, rfl, h2⟩ := he
  refine ⟨_, rfl, ?_⟩
  have hmin : min (-(k : Int)) (-(l : Int)) = -((max k l : Nat) : Int) := by omega
  have e1 : (-(k : Int) - -((max k l : Nat) : Int)).toNat = max k l - k := by omega
  have e2 : (-(l : Int) - -((max k l : Nat) : Int)).toNat = max k l - l := by omega
  have hk : a * 2 ^ k * 2 ^ (max k l - k) = a * 2 ^ (max k l) := by
    rw [Int.mul_assoc, ← Int.pow_add, show k + (max k l - k) = max k l from by omega]
  have hl : b * 2 ^ l * 2 ^ (max k l - l) = b * 2 ^ (max k l) := by
    rw [Int.mul_assoc, ← Int.pow_add, show l + (max k l - l) = max k l from by omega]
  simp only [hmin, e1, e2]
  rw [signed_up s m, signed_up t n, h1, h2, hk, hl, ← Int.add_mul]
  refine ⟨_, _, _, rfl, ?_⟩
  generalize (a + b) * 2 ^ (max k l) = z
  unfold signed
  by_cases hz : z = 0
  · subst hz; cases s <;> cases t <;> simp
  · rw [if_neg hz]
    by_cases hn : z < 0
    · simp [hn]; omega
    · simp [hn]; omega

theorem val_product {d e : Datum} {a b : Int} (hd : Val d a) (he : Val e b) : ∃ r, d.product e = some r ∧ Val r (a * b) := by
  obtain ⟨s, m, k, rfl, h1⟩ := hd
  obtain ⟨t, n, l, rfl, h2⟩ := he
  refine ⟨_, rfl, s ^^ t, m * n, k + l, by congr 1; omega, ?_⟩
  have : a * b * 2 ^ (k + l) = (a * 2 ^ k) * (b * 2 ^ l) := by
    rw [Int.pow_add, Int.mul_assoc, Int.mul_assoc, Int.mul_left_comm b]
  rw [this, ← h1, ← h2]
  unfold signed
  cases s <;> cases t <;> simp [Int.neg_mul, Int.mul_neg]

theorem val_opposite {d : Datum} {a : Int} (hd : Val d a) : Val d.opposite (-a) := by
  obtain ⟨s, m, k, rfl, h1⟩ := hd
  refine ⟨!s, m, k, rfl, ?_⟩
  rw [Int.neg_mul, ← h1]
  unfold signed
  cases s <;> simp

theorem val_order {d e : Datum} {a b : Int} (hd : Val d a) (he : Val e b) : d.order e = some (compare a b) := by
  obtain ⟨s, m, k, rfl, h1⟩ := hd
  obtain ⟨t, n, l, rfl, h2⟩ := he
  have hmin : min (-(k : Int)) (-(l : Int)) = -((max k l : Nat) : Int) := by omega
  have e1 : (-(k : Int) - -((max k l : Nat) : Int)).toNat = max k l - k := by omega
  have e2 : (-(l : Int) - -((max k l : Nat) : Int)).toNat = max k l - l := by omega
  have hk : a * 2 ^ k * 2 ^ (max k l - k) = a * 2 ^ (max k l) := by
    rw [Int.mul_assoc, ← Int.pow_add, show k + (max k l - k) = max k l from by omega]
  have hl : b * 2 ^ l * 2 ^ (max k l - l) = b * 2 ^ (max k l) := by
    rw [Int.mul_assoc, ← Int.pow_add, show l + (max k l - l) = max k l from by omega]
  show some (compare (signed s m _) (signed t n _)) = _
  simp only [hmin, e1, e2]
  rw [signed_up s m, signed_up t n, h1, h2, hk, hl]
  have hp : (0 : Int) < 2 ^ (max k l) := Int.pow_pos (by omega)
  generalize (2 : Int) ^ (max k l) = z at hp
  congr 1
  rcases Int.lt_trichotomy a b with h | h | h
  · rw [Int.compare_eq_lt.2 h, Int.compare_eq_lt.2 (Int.mul_lt_mul_of_pos_right h hp)]
  · subst h; rw [Int.compare_eq_eq.2 rfl, Int.compare_eq_eq.2 rfl]
  · rw [Int.compare_eq_gt.2 h, Int.compare_eq_gt.2 (Int.mul_lt_mul_of_pos_right h hp)]

theorem add_whole {x y : Nat} {a b : Int} (hx : IsI x a) (hy : IsI y b) (ha : a.natAbs < 9007199254740992) (hb : b.natAbs < 9007199254740992) (hab : (a + b).natAbs < 9007199254740992) :
    ∃ r, op .add x y = some r ∧ IsI r (a + b) := by
  obtain ⟨d, e, hd⟩ := val_sum (val_of hx ha) (val_of hy hb)
  exact ⟨double.write d, by simp only [op, Format.add, e, Option.map], write_val hd hab⟩
theorem sub_whole {x y : Nat} {a b : Int} (hx : IsI x a) (hy : IsI y b) (ha : a.natAbs < 9007199254740992) (hb : b.natAbs < 9007199254740992) (hab : (a - b).natAbs < 9007199254740992) :
    ∃ r, op .sub x y = some r ∧ IsI r (a - b) := by
  obtain ⟨d, e, hd⟩ := val_sum (val_of hx ha) (val_opposite (val_of hy hb))
  exact ⟨double.write d, by simp only [op, Format.sub, e, Option.map], write_val hd hab⟩
theorem mul_whole {x y : Nat} {a b : Int} (hx : IsI x a) (hy : IsI y b) (ha : a.natAbs < 9007199254740992) (hb : b.natAbs < 9007199254740992) (hab : (a * b).natAbs < 9007199254740992) :
    ∃ r, op .mul x y = some r ∧ IsI r (a * b) := by
  obtain ⟨d, e, hd⟩ := val_product (val_of hx ha) (val_of hy hb)
  exact ⟨double.write d, by simp only [op, Format.mul, e, Option.map], write_val hd hab⟩
theorem order_whole {x y : Nat} {a b : Int} (hx : IsI x a) (hy : IsI y b) (ha : a.natAbs < 9007199254740992) (hb : b.natAbs < 9007199254740992) : double.order x y = some (compare a b) :=
  val_order (val_of hx ha) (val_of hy hb)
theorem can_whole {x : Nat} {a : Int} (hx : IsI x a) (ha : a.natAbs < 9007199254740992) : can x = some x := can_some (nan_val (val_of hx ha))

end Fl
end Go.Proofs.Ytegofhmkebbinaa
