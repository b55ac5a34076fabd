/-
  Floats, but for the bits of a NaN: what '+', '-', '*', '/' give of two float64 values, in whatever world. No condition.
  Plain laws and the walk's rules for them; no function of the program is named here.
-/
import Derived.WalkKit
import Derived.WalkSpells
import Derived.WalkLawsBesides
import Derived.Deep.Draws
namespace Go.Proofs.Ytedpppkknmeheaa
open Go.RowKit
theorem hide {p : Prop} (h : p) : Hid p := h
namespace Fl
open Ieee

/-- The bits are those of a NaN. -/
def nanB (b : Nat) : Bool := (double.read b).isNaN
/-- A float64 but for the bits of a NaN. -/
def can (b : Nat) : Option Nat := if nanB b then none else some b

theorem can_some {b : Nat} (h : nanB b = false) : can b = some b := by unfold can; rw [h]; rfl
theorem can_none {b : Nat} (h : nanB b = true) : can b = none := by unfold can; rw [h]; rfl
theorem nan_of_can {b : Nat} (h : can b = none) : nanB b = true := by
  cases hb : nanB b with
  | true => rfl
  | false => rw [can_some hb] at h; cases h
theorem of_can {b c : Nat} (h : can b = some c) : b = c ∧ nanB b = false := by
  cases hb : nanB b with
  | true => rw [can_none hb] at h; cases h
  | false => rw [can_some hb] at h; cases h; exact ⟨rfl, rfl⟩

theorem sw : double.signWeight = 9223372036854775808 := by decide +kernel
theorem inf : double.infRung = 9218868437227405312 := by decide +kernel
theorem bin : double.binade = 4503599627370496 := by decide +kernel

theorem read_word (neg : Bool) (rung : Nat) (h : rung < double.signWeight) :
    double.read (double.word neg rung) = (if rung < double.binade then .number neg rung double.leastPlace
      else if rung < double.infRung then .number neg (double.binade + rung % double.binade) (double.leastPlace + (rung / double.binade - 1 : Nat))
      else if rung = double.infRung then .infinity neg
      else .nan neg (rung - double.infRung)) := by
  have e1 : (double.word neg rung / double.signWeight % 2 == 1) = neg := by
    rw [sw] at h
    cases neg
    · unfold Format.word; rw [sw, if_neg (by decide)]
      rw [Nat.div_eq_of_lt h]; rfl
    · unfold Format.word; rw [sw, if_pos rfl]
      have : (9223372036854775808 + rung) / 9223372036854775808 = 1 := by omega
      rw [this]; rfl
  have e2 : double.word neg rung % double.signWeight = rung := by
    rw [sw] at h
    cases neg
    · unfold Format.word; rw [sw, if_neg (by decide)]; exact Nat.mod_eq_of_lt h
    · unfold Format.word; rw [sw, if_pos rfl]; omega
  unfold Format.read
  simp only [e1, e2]

theorem word_ok (neg : Bool) (rung : Nat) (h : rung ≤ double.infRung) : nanB (double.word neg rung) = false := by
  unfold nanB
  rw [read_word neg rung (by rw [sw]; rw [inf] at h; omega)]
  split
  · rfl
  · split
    · rfl
    · split
      · rfl
      · rename_i h1 h2 h3; exact absurd (by omega) h3

theorem nearest_ok (neg : Bool) (mag : Nat) (place : Int) : nanB (double.nearest neg mag place) = false := by
  unfold Format.nearest
  dsimp only
  split
  · exact word_ok _ _ (Nat.zero_le _)
  · exact word_ok _ _ (Nat.min_le_right ..)

theorem write_ok {d : Datum} (h : d.isNaN = false) : nanB (double.write d) = false := by
  cases d with
  | number neg mag place => exact nearest_ok neg mag place
  | infinity neg => exact word_ok neg _ (Nat.le_refl _)
  | nan neg f => simp [Datum.isNaN] at h

theorem sum_ok {a b r : Datum} (h : a.sum b = some r) : r.isNaN = false := by
  cases a <;> cases b <;> simp only [Datum.sum] at h
  all_goals first | (cases h; done) | (cases h; rfl) | (split at h <;> cases h; rfl)
theorem product_ok {a b r : Datum} (h : a.product b = some r) : r.isNaN = false := by
  cases a <;> cases b <;> simp only [Datum.product] at h
  all_goals first | (cases h; done) | (cases h; rfl) | (split at h <;> cases h; rfl)
theorem quotient_ok {n : Nat} {a b r : Datum} (h : a.quotient n b = some r) : r.isNaN = false := by
  cases a <;> cases b <;> simp only [Datum.quotient] at h
  all_goals first | (cases h; done) | (cases h; rfl) | skip
  split at h
  · split at h <;> cases h; rfl
  · cases h; rfl

theorem map_write_ok {d : Option Datum} {r : Nat} (hd : ∀ x, d = some x → x.isNaN = false) (h : d.map double.write = some r) : nanB r = false := by
  cases d with
  | none => cases h
  | some x => cases h; exact write_ok (hd x rfl)

/-- The four operations, as Ieee has them. -/
def op (o : BinOp) (x y : Nat) : Option Nat :=
  match o with
  | .add => double.add x y
  | .sub => double.sub x y
  | .mul => double.mul x y
  | .quo => double.div x y
  | _ => none

theorem op_ok {o : BinOp} {x y r : Nat} (h : op o x y = some r) : nanB r = false := by
  cases o <;> simp only [op] at h <;> first | (cases h; done) | skip
  · exact map_write_ok (fun _ => sum_ok) h
  · exact map_write_ok (fun _ => sum_ok) h
  · exact map_write_ok (fun _ => product_ok) h
  · exact map_write_ok (fun _ => quotient_ok) h

theorem nan_read {x : Nat} (h : nanB x = true) : ∃ s t, double.read x = .nan s t := by
  unfold nanB at h
  cases hd : double.read x with
  | nan s t => exact ⟨s, t, rfl⟩
  | infinity s => rw [hd] at h; cases h
  | number s m p => rw [hd] at h; cases h

theorem op_nan_left {o : BinOp} {x y : Nat} (h : nanB x = true) : op o x y = none := by
  obtain ⟨s, t, e⟩ := nan_read h
  cases o <;> simp only [op, Format.add, Format.sub, Format.mul, Format.div, e] <;> cases double.read y <;> rfl
theorem op_nan_right {o : BinOp} {x y : Nat} (h : nanB y = true) : op o x y = none := by
  obtain ⟨s, t, e⟩ := nan_read h
  cases o <;> simp only [op, Format.add, Format.sub, Format.mul, Format.div, e] <;> cases double.read x <;> rfl

/-- The operation on floats, but for the bits of a NaN. -/
def opC (o : BinOp) (x y : Option Nat) : Option Nat := x.bind fun a => y.bind fun b => op o a b

theorem cut_nan (x y t : Nat) : nanB ((Question.nanBits .f64 x y).cut t) = true := by
  have h0 : (Question.nanBits .f64 x y).cut t = double.word (decide (t % 2 = 1)) (9218868437227405312 + 1 + (t / 2) % 4503599627370495) := by
    unfold Format.word
    rw [sw]
    show (t % 2) * 2 ^ 63 + 0x7ff0000000000000 + 1 + (t / 2) % (2 ^ 52 - 1) = _
    by_cases h : t % 2 = 1
    · simp only [h, decide_true, if_true]; omega
    · have : t % 2 = 0 := by omega
      simp only [this]; simp
  rw [h0]
  unfold nanB
  rw [read_word _ _ (by rw [sw]; omega)]
  rw [if_neg (by rw [bin]; omega), if_neg (by rw [inf]; omega), if_neg (by rw [inf]; omega)]
  rfl

/-- What the operation gives in a world, and how often it asks the tape. -/
def opV (o : BinOp) (w : World) (x y : Nat) : Nat :=
  match op o x y with
  | some r => r
  | none => (Question.nanBits .f64 x y).cut (w.tape w.drawn (.nanBits .f64 x y))
def opN (o : BinOp) (x y : Nat) : Nat :=
  match op o x y with
  | some _ => 0
  | none => 1

theorem can_opV (o : BinOp) (w : World) (x y : Nat) : can (opV o w x y) = opC o (can x) (can y) := by
  cases hx : nanB x with
  | true =>
    rw [can_none hx]
    unfold opV
    rw [op_nan_left hx]
    exact can_none (cut_nan x y _)
  | false =>
    cases hy : nanB y with
    | true =>
      rw [can_none hy, can_some hx]
      unfold opV
      rw [op_nan_right hy]
      exact can_none (cut_nan x y _)
    | false =>
      rw [can_some hx, can_some hy]
      unfold opV
      show _ = op o x y
      split
      · rename_i r hr; rw [hr]; exact can_some (op_ok hr)
      · rename_i hr; rw [hr]; exact can_none (cut_nan x y _)

section
variable {P : Program} (w : World) (t : TypeId) (x y : Nat)
theorem run_add : (binOp .add t (.float .f64 x) (.float .f64 y)).run P w = .ok (.float .f64 (opV .add w x y)) (w.drewN (opN .add x y)) := by
  have e : FloatKind.f64.format.add x y = op .add x y := rfl
  unfold opV opN
  cases h : op .add x y with
  | some r => simp [binOp, Op.floatArith, e, h]; rfl
  | none => simp [binOp, Op.floatArith, e, h]; rfl
theorem run_sub : (binOp .sub t (.float .f64 x) (.float .f64 y)).run P w = .ok (.float .f64 (opV .sub w x y)) (w.drewN (opN .sub x y)) := by
  have e : FloatKind.f64.format.sub x y = op .sub x y := rfl
  unfold opV opN
  cases h : op .sub x y with
  | some r => simp [binOp, Op.floatArith, e, h]; rfl
  | none => simp [binOp, Op.floatArith, e, h]; rfl
theorem run_mul : (binOp .mul t (.float .f64 x) (.float .f64 y)).run P w = .ok (.float .f64 (opV .mul w x y)) (w.drewN (opN .mul x y)) := by
  have e : FloatKind.f64.format.mul x y = op .mul x y := rfl
  unfold opV opN
  cases h : op .mul x y with
  | some r => simp [binOp, Op.floatArith, e, h]; rfl
  | none => simp [binOp, Op.floatArith, e, h]; rfl
theorem run_quo : (binOp .quo t (.float .f64 x) (.float .f64 y)).run P w = .ok (.float .f64 (opV .quo w x y)) (w.drewN (opN .quo x y)) := by
  have e : FloatKind.f64.format.div x y = op .quo x y := rfl
  unfold opV opN
  cases h : op .quo x y with
  | some r => simp [binOp, Op.floatArith, e, h]; rfl
  | none => simp [binOp, Op.floatArith, e, h]; rfl
theorem run_neg : (Op.unary .neg (.float .f64 x)).run P w = .ok (.float .f64 (Op.negFloat .f64 x)) w := rfl
end

/-! ### Comparisons -/
theorem order_self (x : Nat) : (double.order x x == some .eq) = !nanB x := by
  unfold Format.order nanB
  cases double.read x with
  | nan s t => rfl
  | infinity s => simp [Datum.order, Datum.isNaN]
  | number s m p => simp [Datum.order, Datum.isNaN]

end Fl
end Go.Proofs.Ytedpppkknmeheaa
