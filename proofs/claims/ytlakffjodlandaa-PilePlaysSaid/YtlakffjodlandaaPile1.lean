/-
  Package pile's row: Less, Swap, Len by their contracts. No condition.
-/
import Derived.Test.YtlakffjodlandaaRows
import Derived.Test.YtlakffjodlandaaHeapPlain
import Derived.WalkKit
import Derived.WalkSpells
import Derived.WalkLawsBesides
import Derived.RegionTactic
import Derived.ChangeAlike
import Derived.BigRegion
import Derived.Deep.QuietTactic
import Derived.BigQuiet
import Derived.Deep.Draws
import Derived.Deep.RegionWith
namespace Go.Proofs.Ytlakffjodlandaa
open Go.RowKit

theorem hide {p : Prop} (h : p) : Hid p := h
theorem below_drewN {B : Nat} {a w : World} (h : Below B a w) (n : Nat) : Below B a (w.drewN n) := ⟨h.os, h.tape, h.output, h.size, h.block⟩

/-- Item i of the row in block h. -/
def At (w : World) (h i : Nat) (x : It) : Prop :=
  w.cell? ⟨h, i * 3, none⟩ = some (.int .i64 x.id) ∧ w.cell? ⟨h, i * 3 + 1, none⟩ = some (.int .i64 x.rank) ∧ w.cell? ⟨h, i * 3 + 2, none⟩ = some (.int .i64 x.at_)

set_option maxHeartbeats 4000000 in
theorem less_any (h n cap i j : Nat) (x y : It) (w : World) (hi : i < n) (hj : j < n) (hx : At w h i x) (hy : At w h j y) (hh : h < w.heap.size) :
    Calls Try.prog 43 #[.slice (some ⟨h, 0, none⟩) n cap, .int .i64 i, .int .i64 j] w fun e w' => e = .returned (.bool (lessB x y)) ∧ Below w.heap.size w w' := by
  obtain ⟨x1, x2, x3⟩ := hx
  obtain ⟨y1, y2, y3⟩ := hy
  cases hr : (x.rank != y.rank) <;> cases hd : (x.id != y.id)
  all_goals
    have HF := hide (show lessB x y = _ from by unfold lessB; rw [hr, hd])
    go_enter Try.func43, Try.ntmps43
    go_wp2_with fail
    go_region
    all_goals
      go_wp2_with fail
      go_ret
      refine ⟨by rw [HF.out]; rfl, ?_⟩
      repeat first | exact Below.refl _ _ | refine below_drewN ?_ _ | refine Below.drew ?_ | refine Below.setCell ?_ (by simp) _ | refine Below.alloc ?_ (by simp) _

/-- Item k of block h is written. -/
def set3 (w : World) (h k : Nat) (x : It) : World :=
  ((w.setCell ⟨h, k * 3, none⟩ (.int .i64 x.id)).setCell ⟨h, k * 3 + 1, none⟩ (.int .i64 x.rank)).setCell ⟨h, k * 3 + 2, none⟩ (.int .i64 x.at_)

set_option maxHeartbeats 4000000 in
theorem swap_any (h n cap i j : Nat) (x y : It) (w : World) (hi : i < n) (hj : j < n) (hij : i ≠ j) (hx : At w h i x) (hy : At w h j y) (hf : ∀ k, w.frozen? ⟨h, k, none⟩ = false) :
    Calls Try.prog 44 #[.slice (some ⟨h, 0, none⟩) n cap, .int .i64 i, .int .i64 j] w fun e w' => e = .returned (.tuple #[]) ∧ (set3 (set3 w h i y) h j x).drew = w' := by
  obtain ⟨x1, x2, x3⟩ := hx
  obtain ⟨y1, y2, y3⟩ := hy
  go_enter Try.func44, Try.ntmps44
  go_wp2_with fail
  go_region
  go_end0
  exact ⟨rfl, rfl⟩
set_option maxHeartbeats 4000000 in
theorem swap_same (h n cap i : Nat) (x : It) (w : World) (hi : i < n) (hx : At w h i x) (hf : ∀ k, w.frozen? ⟨h, k, none⟩ = false) :
    Calls Try.prog 44 #[.slice (some ⟨h, 0, none⟩) n cap, .int .i64 i, .int .i64 i] w fun e w' => e = .returned (.tuple #[]) ∧ (set3 (set3 w h i x) h i x).drew = w' := by
  obtain ⟨x1, x2, x3⟩ := hx
  go_enter Try.func44, Try.ntmps44
  go_wp2_with fail
  go_region
  go_end0
  exact ⟨rfl, rfl⟩
theorem len_any (A : Option Addr) (n cap : Nat) (w : World) :
    Calls Try.prog 42 #[.slice A n cap] w fun e w' => e = .returned (.int .i64 n) ∧ w = w' := by
  go_enter Try.func42, Try.ntmps42
  go_wp2_with fail
  go_ret
  exact ⟨rfl, rfl⟩
end Go.Proofs.Ytlakffjodlandaa
