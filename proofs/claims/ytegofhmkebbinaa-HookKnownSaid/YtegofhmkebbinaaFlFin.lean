/-
  Small whole numbers scaled, clipped, looked at: what hook's deeds make of them. Plain laws; no condition.
-/
import Derived.Test.YtegofhmkebbinaaFlInt
import Derived.Test.YtegofhmkebbinaaFlNeg
import Derived.Test.YtegofhmkebbinaaSh10
namespace Go.Proofs.Ytegofhmkebbinaa
namespace Fl
open Ieee

theorem val_neg {x : Nat} {n : Int} (h : Val (double.read x) n) : Val (double.read (negB x)) (-n) := by
  show Val (double.read (Op.negFloat .f64 x)) (-n)
  rw [read_neg]
  obtain ⟨s, m, k, e, hs⟩ := h
  rw [e]
  exact ⟨!s, m, k, rfl, by rw [signed_neg, hs, Int.neg_mul]⟩
theorem lt_val {x y : Nat} {a b : Int} (hx : Val (double.read x) a) (hy : Val (double.read y) b) : ltB x y = decide (a < b) := by
  have h : FloatKind.f64.format.order x y = some (compare a b) := val_order hx hy
  unfold ltB
  rw [h]
  rcases Int.lt_trichotomy a b with h | h | h
  · rw [Int.compare_eq_lt.2 h]; simp [h]
  · subst h; rw [Int.compare_eq_eq.2 rfl]; simp
  · rw [Int.compare_eq_gt.2 h]; simp; omega
theorem gt_val {x y : Nat} {a b : Int} (hx : Val (double.read x) a) (hy : Val (double.read y) b) : gtB x y = decide (b < a) := by
  have h : FloatKind.f64.format.order x y = some (compare a b) := val_order hx hy
  unfold gtB
  rw [h]
  rcases Int.lt_trichotomy a b with h | h | h
  · rw [Int.compare_eq_lt.2 h]; simp; omega
  · subst h; rw [Int.compare_eq_eq.2 rfl]; simp
  · rw [Int.compare_eq_gt.2 h]; simp [h]
theorem ne_val {x y : Nat} {a : Int} (hx : Val (double.read x) a) (hy : Val (double.read y) a) : (FloatKind.f64.format.order x y != some .eq) = false := by
  have h : FloatKind.f64.format.order x y = some (compare a a) := val_order hx hy
  rw [h, Int.compare_eq_eq.2 rfl]; rfl
theorem eq_val {x y : Nat} {a : Int} (hx : Val (double.read x) a) (hy : Val (double.read y) a) : (FloatKind.f64.format.order x y == some .eq) = true := by
  have h : FloatKind.f64.format.order x y = some (compare a a) := val_order hx hy
  rw [h, Int.compare_eq_eq.2 rfl]; rfl

/-- A number that is some whole number. -/
def Wh (c : Option Nat) (n : Int) : Prop := ∃ x, c = some x ∧ Val (double.read x) n
theorem wh_ofI (n : Int) (h : n.natAbs < 9007199254740992) : Wh (can (ofI n)) n := ⟨ofI n, can_whole (.inl rfl) h, val_ofI n h⟩
theorem wh_scale {a b : Int} (ha : a.natAbs < 9007199254740992) (hb : b.natAbs < 9007199254740992) (hab : (a * b).natAbs < 9007199254740992) : Wh (opC .mul (can (ofI a)) (can (ofI b))) (a * b) := by
  obtain ⟨r, hr, hi⟩ := mul_whole (x := ofI a) (y := ofI b) (.inl rfl) (.inl rfl) ha hb hab
  refine ⟨r, ?_, val_of hi hab⟩
  rw [can_whole (.inl rfl) ha, can_whole (.inl rfl) hb]
  exact hr
theorem wh_clip {c : Option Nat} {n most : Int} (hc : Wh c n) (h0 : 0 ≤ most) (hm : most.natAbs < 9007199254740992) : Wh (clipC (ofI most) c) (min (max n (-most)) most) := by
  obtain ⟨y, rfl, hy⟩ := hc
  have hx := val_ofI most hm
  have hn := val_neg hx
  show Wh (can (clipB (ofI most) y)) _
  unfold clipB
  rw [lt_val hy hn, gt_val hy hx]
  by_cases h1 : n < -most
  · have e : min (max n (-most)) most = -most := by omega
    rw [if_pos (by simpa using h1), e]
    exact ⟨_, can_some (nan_val hn), hn⟩
  · by_cases h2 : most < n
    · have e : min (max n (-most)) most = most := by omega
      rw [if_neg (by simpa using h1), if_pos (by simpa using h2), e]
      exact ⟨_, can_some (nan_val hx), hx⟩
    · have e : min (max n (-most)) most = n := by omega
      rw [if_neg (by simpa using h1), if_neg (by simpa using h2), e]
      exact ⟨_, can_some (nan_val hy), hy⟩
theorem absB_is (x : Nat) : absB x = x % 2 ^ 63 := by
  unfold absB
  show (IntKind.u64.wrap ((BitVec.ofInt 64 (x : Int) &&& ~~~BitVec.ofInt 64 9223372036854775808).toNat : Int)).toNat = _
  rw [BitVec.toNat_and, show (~~~BitVec.ofInt 64 9223372036854775808).toNat = 2 ^ 63 - 1 by decide, Nat.and_two_pow_sub_one_eq_mod, BitVec.toNat_ofInt, IntKind.wrap_u64]
  omega
def upright : Datum → Datum
  | .number _ m i => .number false m i
  | .infinity _ => .infinity false
  | .nan _ f => .nan false f
theorem read_abs (x : Nat) : double.read (x % 2 ^ 63) = upright (double.read x) := by
  have h1 : (x % 2 ^ 63) % 2 ^ 63 = x % 2 ^ 63 := by omega
  have h2 : ((x % 2 ^ 63) / 2 ^ 63 % 2 == 1) = false := by
    have : (x % 2 ^ 63) / 2 ^ 63 = 0 := Nat.div_eq_of_lt (Nat.mod_lt _ (Nat.two_pow_pos _))
    rw [this]; rfl
  unfold Format.read
  rw [sw] at *
  simp only [show (9223372036854775808 : Nat) = 2 ^ 63 from rfl] at *
  rw [h1, h2]
  split
  · rfl
  · split
    · rfl
    · split <;> rfl
theorem read_most : double.read 9218868437227405311 = .number false 9007199254740991 971 := by decide +kernel
theorem most_above {n : Nat} (hn : n < 9007199254740992) (a k : Nat) (h : 1 ≤ a) : n * 2 ^ k ≤ 9007199254740991 * 2 ^ (a + k) := by
  rw [Nat.pow_add, ← Nat.mul_assoc]
  exact Nat.mul_le_mul_right _ (Nat.le_trans (Nat.le_of_lt hn) (Nat.le_trans (by decide : 9007199254740992 ≤ 9007199254740991 * 2 ^ 1) (Nat.mul_le_mul_left _ (Nat.pow_le_pow_right (by decide) h))))
theorem fin_val {x : Nat} {n : Int} (h : Val (double.read x) n) (hn : n.natAbs < 9007199254740992) : infB x = false := by
  obtain ⟨s, m, k, e, hs⟩ := h
  have hm : m = n.natAbs * 2 ^ k := by
    have h1 := congrArg Int.natAbs hs
    rw [Int.natAbs_mul, Int.natAbs_pow] at h1
    unfold signed at h1
    cases s <;> simpa using h1
  unfold infB
  show (double.order (absB x) 9218868437227405311 == some .gt) = false
  unfold Format.order
  rw [absB_is, read_abs, e, read_most]
  show (Datum.order (.number false m (-(k : Int))) (.number false 9007199254740991 971) == some .gt) = false
  have hmin : min (-(k : Int)) 971 = -(k : Int) := by omega
  have e1 : (-(k : Int) - -(k : Int)).toNat = 0 := by omega
  have e2 : ((971 : Int) - -(k : Int)).toNat = 971 + k := by omega
  simp only [Datum.order, hmin, e1, e2]
  rw [beq_eq_false_iff_ne]
  intro hc
  have hgt := Int.compare_eq_gt.1 (Option.some.inj hc)
  unfold signed at hgt
  simp only [Bool.false_eq_true, if_false, Nat.shiftLeft_eq, Nat.pow_zero, Nat.mul_one] at hgt
  have hb := most_above hn 971 k (by decide)
  rw [hm] at hgt
  generalize n.natAbs * 2 ^ k = u at hgt hb
  generalize 9007199254740991 * 2 ^ (971 + k) = v at hgt hb
  omega
theorem wh_fin {c : Option Nat} {n : Int} (h : Wh c n) (hn : n.natAbs < 9007199254740992) : oddC c = false := by
  obtain ⟨x, rfl, hx⟩ := h
  exact fin_val hx hn
end Fl

/-! ### Scaled, clipped, looked at, made nought -/
theorem getD_map {α β : Type} (f : α → β) (l : List α) (i : Nat) (d : α) (e : β) (h : i < l.length) : (l.map f).getD i e = f (l.getD i d) := by
  simp [List.getD, h]
theorem may_row {m : Nat} (h1 : 1 ≤ m) (h2 : m ≤ 4096) : mayB [(m : Int)] m = true := by
  unfold mayB sz szGo szGo
  have e : (4096 : Int).tdiv 1 = 4096 := by decide
  rw [if_neg (by simp; omega), e, if_neg (by omega)]
  simp
def hsOf (b most : Int) (zero : Bool) : List (Int × Nat) := [(1, Fl.ofI b), (2, Fl.ofI most), (4, 0)] ++ (if zero then [(3, 0)] else [])
theorem mays_of (b most : Int) (zero : Bool) (h0 : 0 ≤ most) (hm : most ≤ 255) : maysB (hsOf b most zero) = true := by
  have h2 : oneB (2, Fl.ofI most) = true := by
    have v := Fl.val_ofI most (by omega)
    have z : Fl.Val (Ieee.double.read 0) 0 := by have := Fl.val_ofI 0 (by decide); rwa [Fl.ofI_zero] at this
    unfold oneB
    rw [if_neg (show ¬ ((2 : Int) = 1) by decide), if_pos rfl]
    by_cases h : most = 0
    · subst h
      rw [Fl.eq_val v z, Bool.or_true]
    · have := Fl.gt_val v z
      unfold Fl.gtB at this
      rw [this, decide_eq_true (by omega), Bool.true_or]
  have h4 : oneB (4, 0) = true := by decide +kernel
  have h3 : oneB (3, 0) = true := by decide +kernel
  have h1 : oneB (1, Fl.ofI b) = true := rfl
  unfold maysB hsOf
  cases zero
  · simp [h1, h2, h4]
  · simp [h1, h2, h3, h4]
theorem do_of (zs : List Int) (b most : Int) (hz : ∀ z ∈ zs, z.natAbs ≤ 128) (hb : b.natAbs ≤ 128) (h0 : 0 ≤ most) (hm : most ≤ 255) (zero : Bool) :
    ∃ r, doC (hsOf b most zero) ((zs.map Fl.ofI).map Fl.can) = some r ∧ r.length = zs.length ∧ ∀ i, i < zs.length → Fl.Wh (r.getD i none) (if zero then 0 else min (max (zs.getD i 0 * b) (-most)) most) := by
  have hw : ∀ i, i < zs.length → Fl.Wh (((((zs.map Fl.ofI).map Fl.can).map fun c => Fl.opC .mul c (Fl.can (Fl.ofI b))).map (Fl.clipC (Fl.ofI most))).getD i none) (min (max (zs.getD i 0 * b) (-most)) most) := by
    intro i hi
    have hzi := hz (zs.getD i 0) (by rw [List.getD_eq_getElem?_getD, List.getElem?_eq_getElem hi]; exact List.getElem_mem _)
    rw [getD_map _ _ i none none (by simpa using hi), getD_map _ _ i none none (by simpa using hi), getD_map _ _ i 0 none (by simpa using hi), getD_map _ _ i 0 0 hi]
    have hp : (zs.getD i 0 * b).natAbs ≤ 128 * 128 := by rw [Int.natAbs_mul]; exact Nat.mul_le_mul hzi hb
    exact Fl.wh_clip (Fl.wh_scale (by omega) (by omega) (by omega)) h0 (by omega)
  generalize hr : ((((zs.map Fl.ofI).map Fl.can).map fun c => Fl.opC .mul c (Fl.can (Fl.ofI b))).map (Fl.clipC (Fl.ofI most))) = r at hw
  have hrl : r.length = zs.length := by rw [← hr]; simp
  have hodd : r.any Fl.oddC = false := by
    rw [List.any_eq_false]
    intro c hc
    obtain ⟨i, hi, rfl⟩ := List.getElem_of_mem hc
    have h1 := hw i (by omega)
    rw [List.getD_eq_getElem?_getD, List.getElem?_eq_getElem hi, Option.getD_some] at h1
    rw [Fl.wh_fin h1 (by omega)]; simp
  have e1 : doC (hsOf b most zero) ((zs.map Fl.ofI).map Fl.can) = doC ((4, 0) :: (if zero then [(3, 0)] else [])) r := by
    rw [← hr]; rfl
  have e2 : stepC (4, 0) r = some r := if_neg (show ¬ r.any Fl.oddC = true by rw [hodd]; simp)
  rw [e1]
  show ∃ r', (stepC (4, 0) r).bind (doC (if zero then [(3, 0)] else [])) = some r' ∧ _
  rw [e2]
  cases zero with
  | false => exact ⟨r, rfl, hrl, hw⟩
  | true =>
    refine ⟨r.map fun _ => some 0, rfl, by simpa using hrl, fun i hi => ?_⟩
    rw [getD_map _ _ i none none (by omega)]
    exact ⟨0, rfl, by have := Fl.val_ofI 0 (by decide); rwa [Fl.ofI_zero] at this⟩
theorem res_scales (zs : List Int) (b most : Int) (hz : ∀ z ∈ zs, z.natAbs ≤ 128) (hb : b.natAbs ≤ 128) (h0 : 0 ≤ most) (hm : most ≤ 255) (hl : 1 ≤ zs.length) (hl2 : zs.length ≤ 300) (zero : Bool) :
    ∃ r, resC (hsOf b most zero) [(zs.length : Int)] ((zs.map Fl.ofI).map Fl.can) = (0, [(zs.length : Int)], r) ∧ r.length = zs.length ∧ ∀ i, i < zs.length → Fl.Wh (r.getD i none) (if zero then 0 else min (max (zs.getD i 0 * b) (-most)) most) := by
  obtain ⟨r, hr, h1, h2⟩ := do_of zs b most hz hb h0 hm zero
  refine ⟨r, ?_, h1, h2⟩
  unfold resC
  rw [if_neg (by rw [mays_of b most zero h0 hm]; simp), List.length_map, List.length_map, if_neg (by rw [may_row hl (by omega)]; simp), hr]
end Go.Proofs.Ytegofhmkebbinaa
