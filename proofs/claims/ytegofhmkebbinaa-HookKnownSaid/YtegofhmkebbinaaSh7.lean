/-
  hook's three deeds on one number; which hooks may be. No condition.
-/
import Derived.Test.YtegofhmkebbinaaSh6Scale
import Derived.Test.YtegofhmkebbinaaSh6Clip
import Derived.Test.YtegofhmkebbinaaSh6Zero
namespace Go.Proofs.Ytegofhmkebbinaa
open Go.RowKit
attribute [local go_sem] Fl.run_mul Fl.run_neg

namespace Fl
def negB (x : Nat) : Nat := Op.negFloat .f64 x
def ltB (x y : Nat) : Bool := FloatKind.f64.format.order x y == some .lt
def gtB (x y : Nat) : Bool := FloatKind.f64.format.order x y == some .gt
/-- Within -x and x. -/
def clipB (x y : Nat) : Nat := if ltB y (negB x) then negB x else if gtB y x then x else y
def clipC (x : Nat) (c : Option Nat) : Option Nat := c.bind fun y => can (clipB x y)
theorem order_nan {x y : Nat} (h : nanB x = true) : Ieee.double.order x y = none := by
  obtain ⟨s, t, e⟩ := nan_read h
  unfold Ieee.Format.order
  rw [e]
  cases Ieee.double.read y <;> rfl
theorem can_clip (x y : Nat) : can (clipB x y) = clipC x (can y) := by
  cases hn : nanB y with
  | true =>
    have e1 : ltB y (negB x) = false := by unfold ltB; show (Ieee.double.order _ _ == _) = _; rw [order_nan hn]; rfl
    have e2 : gtB y x = false := by unfold gtB; show (Ieee.double.order _ _ == _) = _; rw [order_nan hn]; rfl
    unfold clipB
    rw [e1, e2, can_none hn]
    exact can_none hn
  | false => rw [can_some hn]; rfl
end Fl

theorem scale_any (x : Nat) (W : World) (y : Nat) : Calls Try.prog 23 #[.agg #[.float .f64 x], .float .f64 y] W fun e w' => ∃ r, e = .returned (.float .f64 r) ∧ Fl.can r = Fl.opC .mul (Fl.can y) (Fl.can x) ∧ Below W.heap.size W w' := by
  go_enter Try.func23, Try.ntmps23
  go_wp2_with (go_at_call 39; refine (times_any y x _).mono ?_; rintro e w' ⟨rfl, rfl⟩)
  go_ret
  exact ⟨_, rfl, Fl.can_opV _ _ _ _, below_drewN ((Below.refl _ _).alloc (Nat.le_refl _) _) _⟩
theorem clip_any (x : Nat) (W : World) (y : Nat) : Calls Try.prog 24 #[.agg #[.float .f64 x], .float .f64 y] W fun e w' => ∃ r, e = .returned (.float .f64 r) ∧ Fl.can r = Fl.clipC x (Fl.can y) ∧ Below W.heap.size W w' := by
  rw [← Fl.can_clip]
  unfold Fl.clipB
  cases h1 : Fl.ltB y (Fl.negB x) with
  | true =>
    have e1 : (FloatKind.f64.format.order y (Op.negFloat .f64 x) == some .lt) = true := h1
    go_enter Try.func24, Try.ntmps24
    go_wp2_with fail
    go_ret
    exact ⟨_, rfl, rfl, (Below.refl _ _).alloc (Nat.le_refl _) _⟩
  | false =>
    have e1 : (FloatKind.f64.format.order y (Op.negFloat .f64 x) == some .lt) = false := h1
    cases h2 : Fl.gtB y x with
    | true =>
      have e2 : (FloatKind.f64.format.order y x == some .gt) = true := h2
      go_enter Try.func24, Try.ntmps24
      go_wp2_with fail
      go_ret
      exact ⟨_, rfl, rfl, (Below.refl _ _).alloc (Nat.le_refl _) _⟩
    | false =>
      have e2 : (FloatKind.f64.format.order y x == some .gt) = false := h2
      go_enter Try.func24, Try.ntmps24
      go_wp2_with fail
      go_ret
      exact ⟨_, rfl, rfl, (Below.refl _ _).alloc (Nat.le_refl _) _⟩
theorem zero_any (x : Nat) (W : World) (y : Nat) : Calls Try.prog 25 #[.agg #[.float .f64 x], .float .f64 y] W fun e w' => ∃ r, e = .returned (.float .f64 r) ∧ Fl.can r = (fun _ => some 0) (Fl.can y) ∧ Below W.heap.size W w' := by
  go_enter Try.func25, Try.ntmps25
  go_wp2_with fail
  go_ret
  exact ⟨_, rfl, rfl, (Below.refl _ _).alloc (Nat.le_refl _) _⟩

/-! ### Which hooks may be -/
def oneB (h : Int × Nat) : Bool :=
  if h.1 = 1 then true else if h.1 = 2 then (FloatKind.f64.format.order h.2 0 == some .gt) || (FloatKind.f64.format.order h.2 0 == some .eq) else if h.1 = 3 ∨ h.1 = 4 then (FloatKind.f64.format.order h.2 0 == some .eq) else false
theorem one_any (D : Int) (x : Nat) (w : World) : Calls Try.prog 32 #[.agg #[.int .i64 D, .float .f64 x]] w fun e w' => e = .returned (.bool (oneB (D, x))) ∧ Below w.heap.size w w' := by
  have hb : Below w.heap.size w (w.alloc (.cells #[.int .i64 D, .float .f64 x] 48)) := (Below.refl _ _).alloc (Nat.le_refl _) _
  have HB := hide hb
  clear hb
  rcases (by omega : D = 1 ∨ D = 2 ∨ D = 3 ∨ D = 4 ∨ (D ≠ 1 ∧ D ≠ 2 ∧ D ≠ 3 ∧ D ≠ 4)) with rfl | rfl | rfl | rfl | ⟨h1, h2, h3, h4⟩
  · go_enter Try.func32, Try.ntmps32
    go_wp2_with fail
    go_ret
    exact ⟨rfl, HB.out⟩
  · go_enter Try.func32, Try.ntmps32
    go_wp2_with fail
    go_ret
    exact ⟨rfl, HB.out⟩
  · go_enter Try.func32, Try.ntmps32
    go_wp2_with fail
    go_ret
    exact ⟨rfl, HB.out⟩
  · go_enter Try.func32, Try.ntmps32
    go_wp2_with fail
    go_ret
    exact ⟨rfl, HB.out⟩
  · have e1 : (D == 1) = false := by simpa using h1
    have e2 : (D == 2) = false := by simpa using h2
    have e3 : (D == 3) = false := by simpa using h3
    have e4 : (D == 4) = false := by simpa using h4
    have HO := hide (show oneB (D, x) = false by unfold oneB; simp [h1, h2, h3, h4])
    clear h1 h2 h3 h4
    go_enter Try.func32, Try.ntmps32
    go_wp2_with fail
    go_ret
    exact ⟨by rw [HO.out]; rfl, HB.out⟩
theorem notone_any (D : Int) (x : Nat) (w : World) (b : Bool) (hb : oneB (D, x) = b) : Calls Try.prog 31 #[.agg #[.int .i64 D, .float .f64 x]] w fun e w' => e = .returned (.bool (!b)) ∧ Below w.heap.size w w' := by
  have ha : Below w.heap.size w (w.alloc (.cells #[.int .i64 D, .float .f64 x] 48)) := (Below.refl _ _).alloc (Nat.le_refl _) _
  have C := hide (one_any D x (w.alloc (.cells #[.int .i64 D, .float .f64 x] 48)))
  rw [hb] at C
  have HA := hide ha
  clear ha hb
  go_enter Try.func31, Try.ntmps31
  go_wp2_with (go_at_call 32; (with_reducible refine C.out.mono ?_); rintro e w' ⟨rfl, hb2⟩; have HB2 := hide hb2; clear hb2)
  go_ret
  exact ⟨rfl, HA.out.trans (HB2.out.mono HA.out.size)⟩
end Go.Proofs.Ytegofhmkebbinaa
