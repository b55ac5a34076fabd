/-
  Package graph's one and Shapes at the graphs of 'awake'. No condition.
-/
import Derived.Test.YtedpppkknmeheaaGC
import Derived.Deep.RegionHeld3
namespace Go.Proofs.Ytedpppkknmeheaa
open Go.RowKit

set_option maxRecDepth 100000 in
set_option maxHeartbeats 4000000 in
theorem one_leaf (la : Option Addr) (ll lc : Nat) (b off vl vc : Nat) (pa : Option Addr) (pl pc : Nat) (qa : Option Addr) (ql qc : Nat) (c : Option Addr) (n d : Nat) (w : World) (hc : w.cell? ⟨b, off, none⟩ = some (.slice c n d)) (hvl : 0 < vl) :
    Calls Try.prog 37 #[.slice la ll lc, .slice (some ⟨b, off, none⟩) vl vc, .agg #[.int .i64 1, .slice none 0 0, .slice none 0 0, .int .i64 0, .slice none 0 0, .slice none 0 0, .slice none 0 0], .slice pa pl pc, .slice qa ql qc] w fun e w' => e = .returned (.tuple #[.slice c n d, .int .i64 0]) ∧ Below w.heap.size w w' := by
  have hlt := lt_of_cell hc
  have hne : b ≠ w.heap.size := by omega
  go_enter Try.func37, Try.ntmps37
  go_wp2_with fail
  go_ret2
  exact ⟨rfl, (Below.refl _ _).alloc (Nat.le_refl _) _⟩

theorem bel_drew {B : Nat} {a w : World} (h : Below B a w) : Below B a w.drew := h.drew
/-- What shapes leaves of a graph of one leaf. -/
def Shp1 (w : World) (e : Ending) (w' : World) : Prop := ∃ g cap a c, e = .returned (.tuple #[.slice (some ⟨g, 0, none⟩) 1 cap, .int .i64 0]) ∧ w'.cell? ⟨g, 0, none⟩ = some (.slice a 1 c) ∧ Isl w' .i64 a 1 c [2] ∧ Below w.heap.size w w'
def Shp2 (w : World) (e : Ending) (w' : World) : Prop := ∃ a c, e = .returned (.tuple #[.slice a 1 c, .int .i64 0]) ∧ Isl w' .i64 a 1 c [2] ∧ Below w.heap.size w w'
set_option maxRecDepth 100000 in
set_option maxHeartbeats 4000000 in
theorem one_call (la : Option Addr) (ll lc : Nat) (va : Option Addr) (vl vc : Nat) (pa : Option Addr) (pl pc : Nat) (q qc : Nat) (ia : Option Addr) (ic : Nat) (xa : Option Addr) (xl xc : Nat) (w : World) (hq : w.cell? ⟨q, 0, none⟩ = some (.slice xa xl xc))
    (hS : ∀ w', Below w.heap.size w w' → Calls Try.prog 24 #[.slice la ll lc, .slice va vl vc, .int .i64 0, .slice xa xl xc] w' (Shp1 w')) :
    Calls Try.prog 37 #[.slice la ll lc, .slice va vl vc, .agg #[.int .i64 16, .slice ia 1 ic, .slice none 0 0, .int .i64 0, .slice none 0 0, .slice none 0 0, .slice none 0 0], .slice pa pl pc, .slice (some ⟨q, 0, none⟩) 1 qc] w (Shp2 w) := by
  have hlt := lt_of_cell hq
  have hne : q ≠ w.heap.size := by omega
  have hb0 : Below w.heap.size w (w.alloc (.cells #[.int .i64 16, .slice ia 1 ic, .slice none 0 0, .int .i64 0, .slice none 0 0, .slice none 0 0, .slice none 0 0] 41)) := (Below.refl _ _).alloc (Nat.le_refl _) _
  have HB0 := hide hb0
  have hg : (w.alloc (.cells #[.int .i64 16, .slice ia 1 ic, .slice none 0 0, .int .i64 0, .slice none 0 0, .slice none 0 0, .slice none 0 0] 41)).heap[w.heap.size]? = some (.cells #[.int .i64 16, .slice ia 1 ic, .slice none 0 0, .int .i64 0, .slice none 0 0, .slice none 0 0, .slice none 0 0] 41 (0, 0)) := heap_alloc_new _ _
  have z1 := cell_later hb0 hq
  clear hb0
  go_enter Try.func37, Try.ntmps37
  go_wp2_with fail
  have HB1 := HB0.out
  generalize (w.alloc (.cells #[.int .i64 16, .slice ia 1 ic, .slice none 0 0, .int .i64 0, .slice none 0 0, .slice none 0 0, .slice none 0 0] 41)) = W1 at hg z1 HB1 ⊢
  have z3 : W1.cell? ⟨w.heap.size, 3, none⟩ = some (.int .i64 0) := cell_of_row W1 _ 3 _ _ _ hg
  have l1 := lt_of_cell z1
  have l3 := lt_of_cell z3
  have hkeep : ∀ w' : World, Below W1.heap.size W1 w' → w'.cell? ⟨q, 0, none⟩ = some (.slice xa xl xc) ∧ w'.cell? ⟨w.heap.size, 3, none⟩ = some (.int .i64 0) ∧ Below W1.heap.size W1 w' := fun w' hb => ⟨(hb.cell (p := ⟨q, 0, none⟩) l1).trans z1, (hb.cell (p := ⟨w.heap.size, 3, none⟩) l3).trans z3, hb⟩
  have C : Hid (∀ w', Below W1.heap.size W1 w' → Calls Try.prog 24 #[.slice la ll lc, .slice va vl vc, .int .i64 0, .slice xa xl xc] w' fun e w2 => ∃ g cap a c, e = .returned (.tuple #[.slice (some ⟨g, 0, none⟩) 1 cap, .int .i64 0]) ∧ w2.cell? ⟨g, 0, none⟩ = some (.slice a 1 c) ∧ Hid (Isl w2 .i64 a 1 c [2]) ∧ Below W1.heap.size W1 w2) :=
    hide (fun w' hb => (hS w' (HB1.trans (hb.mono HB1.size))).mono fun e w2 ⟨g, cap, a, c, h1, h2, h3, h4⟩ => ⟨g, cap, a, c, h1, h2, h3, hb.trans (h4.mono hb.size)⟩)
  have HB := hide HB1
  have hb1 := Below.refl W1.heap.size W1
  clear hS hg HB1 HB0
  go_region_held3 (fun w' => w'.cell? ⟨q, 0, none⟩ = some (.slice xa xl xc) ∧ w'.cell? ⟨w.heap.size, 3, none⟩ = some (.int .i64 0) ∧ Below W1.heap.size W1 w')
    ((refine hkeep _ ?_; repeat' (first | with_reducible assumption | with_reducible exact Below.refl _ _ | with_reducible apply bel_drew)))
    ((go_at_call 24; with_reducible refine (C.out _ ?_).mono ?_; (first | with_reducible assumption | (with_reducible apply bel_drew; with_reducible assumption)); rintro e w2 ⟨g, cap, a, c, rfl, hcl, HI, hb2⟩))
  all_goals (go_wp2_with fail)
  go_ret2
  exact ⟨a, c, rfl, HI.out, HB.out.trans (hb2.mono HB.out.size)⟩
end Go.Proofs.Ytedpppkknmeheaa
