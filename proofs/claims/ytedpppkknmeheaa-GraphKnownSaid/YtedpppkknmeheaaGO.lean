/-
  GraphKnown's literals: fourteen blocks as they lie, the thirteen nodes, and what Check says of each. No condition. Printed by wip/tools/genknown.py.
-/
import Derived.Test.YtedpppkknmeheaaGH
import Derived.Test.YtedpppkknmeheaaGraphWorks
namespace Go.Proofs.Ytedpppkknmeheaa
open Go.RowKit

def kbW (w : World) : World := ((((((((((((((w.alloc (.cells #[.int .i64 1] 3)).alloc (.cells #[.float .f64 4607182418800017408] 47)).alloc (.cells #[.slice (some ⟨w.heap.size, 0, none⟩) 1 1, .slice (some ⟨w.heap.size + 1, 0, none⟩) 1 1] 38)).alloc (.cells #[.int .i64 5] 3)).alloc (.cells #[.int .i64 0] 3)).alloc (.cells #[.int .i64 1] 3)).alloc (.cells #[.int .i64 (-1)] 3)).alloc (.cells #[.int .i64 0] 3)).alloc (.cells #[.int .i64 0] 3)).alloc (.cells #[.int .i64 0] 3)).alloc (.cells #[.int .i64 0, .float .f64 0] 49)).alloc (.cells #[.int .i64 (-1), .int .i64 1] 3)).alloc (.cells #[.int .i64 0, .slice none 0 0, .slice none 0 0, .int .i64 0, .slice none 0 0, .slice none 0 0, .slice none 0 0, .int .i64 17, .slice (some ⟨w.heap.size + 1 + 1 + 1, 0, none⟩) 1 1, .slice none 0 0, .int .i64 0, .slice none 0 0, .slice none 0 0, .slice none 0 0, .int .i64 4, .slice (some ⟨w.heap.size + 1 + 1 + 1 + 1, 0, none⟩) 1 1, .slice none 0 0, .int .i64 0, .slice none 0 0, .slice none 0 0, .slice none 0 0, .int .i64 3, .slice none 0 0, .slice none 0 0, .int .i64 0, .slice none 0 0, .slice none 0 0, .slice none 0 0, .int .i64 8, .slice (some ⟨w.heap.size + 1 + 1 + 1 + 1 + 1, 0, none⟩) 1 1, .slice none 0 0, .int .i64 0, .slice none 0 0, .slice none 0 0, .slice none 0 0, .int .i64 8, .slice (some ⟨w.heap.size + 1 + 1 + 1 + 1 + 1 + 1, 0, none⟩) 1 1, .slice none 0 0, .int .i64 0, .slice none 0 0, .slice none 0 0, .slice none 0 0, .int .i64 16, .slice (some ⟨w.heap.size + 1 + 1 + 1 + 1 + 1 + 1 + 1, 0, none⟩) 1 1, .slice none 0 0, .int .i64 1, .slice none 0 0, .slice none 0 0, .slice none 0 0, .int .i64 16, .slice (some ⟨w.heap.size + 1 + 1 + 1 + 1 + 1 + 1 + 1 + 1, 0, none⟩) 1 1, .slice none 0 0, .int .i64 (-1), .slice none 0 0, .slice none 0 0, .slice none 0 0, .int .i64 1, .slice none 0 0, .slice none 0 0, .int .i64 1, .slice none 0 0, .slice none 0 0, .slice none 0 0, .int .i64 1, .slice none 0 0, .slice none 0 0, .int .i64 (-1), .slice none 0 0, .slice none 0 0, .slice none 0 0, .int .i64 2, .slice none 0 0, .slice none 0 0, .int .i64 0, .slice none 0 0, .slice none 0 0, .slice none 0 0, .int .i64 8, .slice (some ⟨w.heap.size + 1 + 1 + 1 + 1 + 1 + 1 + 1 + 1 + 1, 0, none⟩) 1 1, .slice none 0 0, .int .i64 0, .slice none 0 0, .slice none 0 0, .slice (some ⟨w.heap.size + 1 + 1 + 1 + 1 + 1 + 1 + 1 + 1 + 1 + 1, 0, none⟩) 1 1, .int .i64 4, .slice (some ⟨w.heap.size + 1 + 1 + 1 + 1 + 1 + 1 + 1 + 1 + 1 + 1 + 1, 0, none⟩) 2 2, .slice none 0 0, .int .i64 0, .slice none 0 0, .slice none 0 0, .slice none 0 0] 41)).alloc (.cells #[.int .i64 4, .int .i64 4, .int .i64 1, .int .i64 1, .int .i64 5, .int .i64 6, .int .i64 6, .int .i64 6, .int .i64 7, .int .i64 7, .int .i64 2, .int .i64 8, .int .i64 5] 27))
structure Kb (W : World) (B : Nat) : Prop where
  h0 : W.heap[B]? = some (.cells #[.int .i64 1] 3 (0, 0))
  h2 : W.heap[B + 1 + 1]? = some (.cells #[.slice (some ⟨B, 0, none⟩) 1 1, .slice (some ⟨B + 1, 0, none⟩) 1 1] 38 (0, 0))
  h3 : W.heap[B + 1 + 1 + 1]? = some (.cells #[.int .i64 5] 3 (0, 0))
  h4 : W.heap[B + 1 + 1 + 1 + 1]? = some (.cells #[.int .i64 0] 3 (0, 0))
  h5 : W.heap[B + 1 + 1 + 1 + 1 + 1]? = some (.cells #[.int .i64 1] 3 (0, 0))
  h6 : W.heap[B + 1 + 1 + 1 + 1 + 1 + 1]? = some (.cells #[.int .i64 (-1)] 3 (0, 0))
  h7 : W.heap[B + 1 + 1 + 1 + 1 + 1 + 1 + 1]? = some (.cells #[.int .i64 0] 3 (0, 0))
  h8 : W.heap[B + 1 + 1 + 1 + 1 + 1 + 1 + 1 + 1]? = some (.cells #[.int .i64 0] 3 (0, 0))
  h9 : W.heap[B + 1 + 1 + 1 + 1 + 1 + 1 + 1 + 1 + 1]? = some (.cells #[.int .i64 0] 3 (0, 0))
  h10 : W.heap[B + 1 + 1 + 1 + 1 + 1 + 1 + 1 + 1 + 1 + 1]? = some (.cells #[.int .i64 0, .float .f64 0] 49 (0, 0))
  h11 : W.heap[B + 1 + 1 + 1 + 1 + 1 + 1 + 1 + 1 + 1 + 1 + 1]? = some (.cells #[.int .i64 (-1), .int .i64 1] 3 (0, 0))
  h12 : W.heap[B + 1 + 1 + 1 + 1 + 1 + 1 + 1 + 1 + 1 + 1 + 1 + 1]? = some (.cells #[.int .i64 0, .slice none 0 0, .slice none 0 0, .int .i64 0, .slice none 0 0, .slice none 0 0, .slice none 0 0, .int .i64 17, .slice (some ⟨B + 1 + 1 + 1, 0, none⟩) 1 1, .slice none 0 0, .int .i64 0, .slice none 0 0, .slice none 0 0, .slice none 0 0, .int .i64 4, .slice (some ⟨B + 1 + 1 + 1 + 1, 0, none⟩) 1 1, .slice none 0 0, .int .i64 0, .slice none 0 0, .slice none 0 0, .slice none 0 0, .int .i64 3, .slice none 0 0, .slice none 0 0, .int .i64 0, .slice none 0 0, .slice none 0 0, .slice none 0 0, .int .i64 8, .slice (some ⟨B + 1 + 1 + 1 + 1 + 1, 0, none⟩) 1 1, .slice none 0 0, .int .i64 0, .slice none 0 0, .slice none 0 0, .slice none 0 0, .int .i64 8, .slice (some ⟨B + 1 + 1 + 1 + 1 + 1 + 1, 0, none⟩) 1 1, .slice none 0 0, .int .i64 0, .slice none 0 0, .slice none 0 0, .slice none 0 0, .int .i64 16, .slice (some ⟨B + 1 + 1 + 1 + 1 + 1 + 1 + 1, 0, none⟩) 1 1, .slice none 0 0, .int .i64 1, .slice none 0 0, .slice none 0 0, .slice none 0 0, .int .i64 16, .slice (some ⟨B + 1 + 1 + 1 + 1 + 1 + 1 + 1 + 1, 0, none⟩) 1 1, .slice none 0 0, .int .i64 (-1), .slice none 0 0, .slice none 0 0, .slice none 0 0, .int .i64 1, .slice none 0 0, .slice none 0 0, .int .i64 1, .slice none 0 0, .slice none 0 0, .slice none 0 0, .int .i64 1, .slice none 0 0, .slice none 0 0, .int .i64 (-1), .slice none 0 0, .slice none 0 0, .slice none 0 0, .int .i64 2, .slice none 0 0, .slice none 0 0, .int .i64 0, .slice none 0 0, .slice none 0 0, .slice none 0 0, .int .i64 8, .slice (some ⟨B + 1 + 1 + 1 + 1 + 1 + 1 + 1 + 1 + 1, 0, none⟩) 1 1, .slice none 0 0, .int .i64 0, .slice none 0 0, .slice none 0 0, .slice (some ⟨B + 1 + 1 + 1 + 1 + 1 + 1 + 1 + 1 + 1 + 1, 0, none⟩) 1 1, .int .i64 4, .slice (some ⟨B + 1 + 1 + 1 + 1 + 1 + 1 + 1 + 1 + 1 + 1 + 1, 0, none⟩) 2 2, .slice none 0 0, .int .i64 0, .slice none 0 0, .slice none 0 0, .slice none 0 0] 41 (0, 0))
  h13 : W.heap[B + 1 + 1 + 1 + 1 + 1 + 1 + 1 + 1 + 1 + 1 + 1 + 1 + 1]? = some (.cells #[.int .i64 4, .int .i64 4, .int .i64 1, .int .i64 1, .int .i64 5, .int .i64 6, .int .i64 6, .int .i64 6, .int .i64 7, .int .i64 7, .int .i64 2, .int .i64 8, .int .i64 5] 27 (0, 0))
theorem Kb.later {W W' : World} {B : Nat} (h : Kb W B) (hb : Below W.heap.size W W') : Kb W' B :=
  ⟨(hb.block _ (lt_of_heap h.h0)).trans h.h0, (hb.block _ (lt_of_heap h.h2)).trans h.h2, (hb.block _ (lt_of_heap h.h3)).trans h.h3, (hb.block _ (lt_of_heap h.h4)).trans h.h4, (hb.block _ (lt_of_heap h.h5)).trans h.h5, (hb.block _ (lt_of_heap h.h6)).trans h.h6, (hb.block _ (lt_of_heap h.h7)).trans h.h7, (hb.block _ (lt_of_heap h.h8)).trans h.h8, (hb.block _ (lt_of_heap h.h9)).trans h.h9, (hb.block _ (lt_of_heap h.h10)).trans h.h10, (hb.block _ (lt_of_heap h.h11)).trans h.h11, (hb.block _ (lt_of_heap h.h12)).trans h.h12, (hb.block _ (lt_of_heap h.h13)).trans h.h13⟩
theorem below_new {w w0 : World} {o : Obj} {L : Nat} (h : Below L w w0) (hL : L ≤ w0.heap.size) : Below L w (w0.alloc o) := h.alloc hL o
theorem kb_made (w : World) : Below w.heap.size w (kbW w) ∧ Kb (kbW w) w.heap.size := by
  unfold kbW
  refine ⟨?_, ?_, ?_, ?_, ?_, ?_, ?_, ?_, ?_, ?_, ?_, ?_, ?_, ?_⟩
  · repeat' (first | exact Below.refl _ _ | refine below_new ?_ (by simp <;> omega))
  · rw [heap_alloc_old _ (by simp <;> omega), heap_alloc_old _ (by simp <;> omega), heap_alloc_old _ (by simp <;> omega), heap_alloc_old _ (by simp <;> omega), heap_alloc_old _ (by simp <;> omega), heap_alloc_old _ (by simp <;> omega), heap_alloc_old _ (by simp <;> omega), heap_alloc_old _ (by simp <;> omega), heap_alloc_old _ (by simp <;> omega), heap_alloc_old _ (by simp <;> omega), heap_alloc_old _ (by simp <;> omega), heap_alloc_old _ (by simp <;> omega), heap_alloc_old _ (by simp <;> omega)]
    exact heap_at _ (by simp)
  · rw [heap_alloc_old _ (by simp <;> omega), heap_alloc_old _ (by simp <;> omega), heap_alloc_old _ (by simp <;> omega), heap_alloc_old _ (by simp <;> omega), heap_alloc_old _ (by simp <;> omega), heap_alloc_old _ (by simp <;> omega), heap_alloc_old _ (by simp <;> omega), heap_alloc_old _ (by simp <;> omega), heap_alloc_old _ (by simp <;> omega), heap_alloc_old _ (by simp <;> omega), heap_alloc_old _ (by simp <;> omega)]
    exact heap_at _ (by simp)
  · rw [heap_alloc_old _ (by simp <;> omega), heap_alloc_old _ (by simp <;> omega), heap_alloc_old _ (by simp <;> omega), heap_alloc_old _ (by simp <;> omega), heap_alloc_old _ (by simp <;> omega), heap_alloc_old _ (by simp <;> omega), heap_alloc_old _ (by simp <;> omega), heap_alloc_old _ (by simp <;> omega), heap_alloc_old _ (by simp <;> omega), heap_alloc_old _ (by simp <;> omega)]
    exact heap_at _ (by simp)
  · rw [heap_alloc_old _ (by simp <;> omega), heap_alloc_old _ (by simp <;> omega), heap_alloc_old _ (by simp <;> omega), heap_alloc_old _ (by simp <;> omega), heap_alloc_old _ (by simp <;> omega), heap_alloc_old _ (by simp <;> omega), heap_alloc_old _ (by simp <;> omega), heap_alloc_old _ (by simp <;> omega), heap_alloc_old _ (by simp <;> omega)]
    exact heap_at _ (by simp)
  · rw [heap_alloc_old _ (by simp <;> omega), heap_alloc_old _ (by simp <;> omega), heap_alloc_old _ (by simp <;> omega), heap_alloc_old _ (by simp <;> omega), heap_alloc_old _ (by simp <;> omega), heap_alloc_old _ (by simp <;> omega), heap_alloc_old _ (by simp <;> omega), heap_alloc_old _ (by simp <;> omega)]
    exact heap_at _ (by simp)
  · rw [heap_alloc_old _ (by simp <;> omega), heap_alloc_old _ (by simp <;> omega), heap_alloc_old _ (by simp <;> omega), heap_alloc_old _ (by simp <;> omega), heap_alloc_old _ (by simp <;> omega), heap_alloc_old _ (by simp <;> omega), heap_alloc_old _ (by simp <;> omega)]
    exact heap_at _ (by simp)
  · rw [heap_alloc_old _ (by simp <;> omega), heap_alloc_old _ (by simp <;> omega), heap_alloc_old _ (by simp <;> omega), heap_alloc_old _ (by simp <;> omega), heap_alloc_old _ (by simp <;> omega), heap_alloc_old _ (by simp <;> omega)]
    exact heap_at _ (by simp)
  · rw [heap_alloc_old _ (by simp <;> omega), heap_alloc_old _ (by simp <;> omega), heap_alloc_old _ (by simp <;> omega), heap_alloc_old _ (by simp <;> omega), heap_alloc_old _ (by simp <;> omega)]
    exact heap_at _ (by simp)
  · rw [heap_alloc_old _ (by simp <;> omega), heap_alloc_old _ (by simp <;> omega), heap_alloc_old _ (by simp <;> omega), heap_alloc_old _ (by simp <;> omega)]
    exact heap_at _ (by simp)
  · rw [heap_alloc_old _ (by simp <;> omega), heap_alloc_old _ (by simp <;> omega), heap_alloc_old _ (by simp <;> omega)]
    exact heap_at _ (by simp)
  · rw [heap_alloc_old _ (by simp <;> omega), heap_alloc_old _ (by simp <;> omega)]
    exact heap_at _ (by simp)
  · rw [heap_alloc_old _ (by simp <;> omega)]
    exact heap_at _ (by simp)
  · exact heap_at _ (by simp)

theorem isl1 {W : World} {b : Nat} {x : Int} {t : TypeId} (h : W.heap[b]? = some (.cells #[.int .i64 x] t (0, 0))) : Isl W .i64 (some ⟨b, 0, none⟩) 1 1 [x] := by
  refine ⟨rfl, Nat.le_refl _, fun i hi => ?_⟩
  obtain rfl : i = 0 := by omega
  exact ⟨b, 0, rfl, cell_of_row W _ 0 _ _ _ h⟩
theorem isl2 {W : World} {b : Nat} {x y : Int} {t : TypeId} (h : W.heap[b]? = some (.cells #[.int .i64 x, .int .i64 y] t (0, 0))) : Isl W .i64 (some ⟨b, 0, none⟩) 2 2 [x, y] := by
  refine ⟨rfl, Nat.le_refl _, fun i hi => ?_⟩
  rcases (by omega : i = 0 ∨ i = 1) with rfl | rfl
  · exact ⟨b, 0, rfl, cell_of_row W _ 0 _ _ _ h⟩
  · exact ⟨b, 0, rfl, cell_of_row W _ 1 _ _ _ h⟩
theorem hks1 {W : World} {b : Nat} {x : Int} {y : Nat} {t : TypeId} (h : W.heap[b]? = some (.cells #[.int .i64 x, .float .f64 y] t (0, 0))) : Hks W (some ⟨b, 0, none⟩) 1 1 [(x, y)] := by
  refine ⟨rfl, Nat.le_refl _, fun i hi => ?_⟩
  obtain rfl : i = 0 := by omega
  exact ⟨b, 0, rfl, cell_of_row W _ 0 _ _ _ h, cell_of_row W _ 1 _ _ _ h⟩
theorem isl0 (W : World) : Isl W .i64 none 0 0 [] := ⟨rfl, Nat.le_refl _, fun _ hi => absurd hi (Nat.not_lt_zero _)⟩
theorem hks0 (W : World) : Hks W none 0 0 [] := ⟨rfl, Nat.le_refl _, fun _ hi => absurd hi (Nat.not_lt_zero _)⟩

def NK (B : Nat) : List Nd := [⟨0, none, 0, 0, [], none, 0, 0, 0, none, 0, 0, [], none, 0, 0, none, 0, 0, []⟩, ⟨17, some ⟨B + 1 + 1 + 1, 0, none⟩, 1, 1, [5], none, 0, 0, 0, none, 0, 0, [], none, 0, 0, none, 0, 0, []⟩, ⟨4, some ⟨B + 1 + 1 + 1 + 1, 0, none⟩, 1, 1, [0], none, 0, 0, 0, none, 0, 0, [], none, 0, 0, none, 0, 0, []⟩, ⟨3, none, 0, 0, [], none, 0, 0, 0, none, 0, 0, [], none, 0, 0, none, 0, 0, []⟩, ⟨8, some ⟨B + 1 + 1 + 1 + 1 + 1, 0, none⟩, 1, 1, [1], none, 0, 0, 0, none, 0, 0, [], none, 0, 0, none, 0, 0, []⟩, ⟨8, some ⟨B + 1 + 1 + 1 + 1 + 1 + 1, 0, none⟩, 1, 1, [(-1)], none, 0, 0, 0, none, 0, 0, [], none, 0, 0, none, 0, 0, []⟩, ⟨16, some ⟨B + 1 + 1 + 1 + 1 + 1 + 1 + 1, 0, none⟩, 1, 1, [0], none, 0, 0, 1, none, 0, 0, [], none, 0, 0, none, 0, 0, []⟩, ⟨16, some ⟨B + 1 + 1 + 1 + 1 + 1 + 1 + 1 + 1, 0, none⟩, 1, 1, [0], none, 0, 0, (-1), none, 0, 0, [], none, 0, 0, none, 0, 0, []⟩, ⟨1, none, 0, 0, [], none, 0, 0, 1, none, 0, 0, [], none, 0, 0, none, 0, 0, []⟩, ⟨1, none, 0, 0, [], none, 0, 0, (-1), none, 0, 0, [], none, 0, 0, none, 0, 0, []⟩, ⟨2, none, 0, 0, [], none, 0, 0, 0, none, 0, 0, [], none, 0, 0, none, 0, 0, []⟩, ⟨8, some ⟨B + 1 + 1 + 1 + 1 + 1 + 1 + 1 + 1 + 1, 0, none⟩, 1, 1, [0], none, 0, 0, 0, none, 0, 0, [], none, 0, 0, some ⟨B + 1 + 1 + 1 + 1 + 1 + 1 + 1 + 1 + 1 + 1, 0, none⟩, 1, 1, [(0, 0)]⟩, ⟨4, some ⟨B + 1 + 1 + 1 + 1 + 1 + 1 + 1 + 1 + 1 + 1 + 1, 0, none⟩, 2, 2, [(-1), 1], none, 0, 0, 0, none, 0, 0, [], none, 0, 0, none, 0, 0, []⟩]
def ndK (B : Nat) : Nd := ⟨2, none, 0, 0, [], none, 0, 0, 0, some ⟨B, 0, none⟩, 1, 1, [1], some ⟨B + 1, 0, none⟩, 1, 1, none, 0, 0, []⟩
def WK : List Int := [4, 4, 1, 1, 5, 6, 6, 6, 7, 7, 2, 8, 5]
theorem Kb.nds {W : World} {B : Nat} (h : Kb W B) : Nds W (some ⟨B + 1 + 1 + 1 + 1 + 1 + 1 + 1 + 1 + 1 + 1 + 1 + 1, 0, none⟩) 13 13 (NK B) := by
  refine ⟨rfl, Nat.le_refl _, fun i hi => ?_⟩
  rcases (by omega : i = 0 ∨ i = 1 ∨ i = 2 ∨ i = 3 ∨ i = 4 ∨ i = 5 ∨ i = 6 ∨ i = 7 ∨ i = 8 ∨ i = 9 ∨ i = 10 ∨ i = 11 ∨ i = 12) with rfl | rfl | rfl | rfl | rfl | rfl | rfl | rfl | rfl | rfl | rfl | rfl | rfl
  · exact ⟨B + 1 + 1 + 1 + 1 + 1 + 1 + 1 + 1 + 1 + 1 + 1 + 1, 0, rfl, ⟨cell_of_row W _ 0 _ _ _ h.h12, cell_of_row W _ 1 _ _ _ h.h12, cell_of_row W _ 2 _ _ _ h.h12, cell_of_row W _ 3 _ _ _ h.h12, cell_of_row W _ 4 _ _ _ h.h12, cell_of_row W _ 5 _ _ _ h.h12, cell_of_row W _ 6 _ _ _ h.h12⟩, ⟨(isl0 W), isl0 W, (hks0 W)⟩, ⟨by show (0 : Nat) ≤ 140737488355328; omega, Nat.zero_le _, by show (0 : Nat) ≤ 140737488355328; omega⟩⟩
  · exact ⟨B + 1 + 1 + 1 + 1 + 1 + 1 + 1 + 1 + 1 + 1 + 1 + 1, 0, rfl, ⟨cell_of_row W _ 7 _ _ _ h.h12, cell_of_row W _ 8 _ _ _ h.h12, cell_of_row W _ 9 _ _ _ h.h12, cell_of_row W _ 10 _ _ _ h.h12, cell_of_row W _ 11 _ _ _ h.h12, cell_of_row W _ 12 _ _ _ h.h12, cell_of_row W _ 13 _ _ _ h.h12⟩, ⟨(isl1 h.h3), isl0 W, (hks0 W)⟩, ⟨by show (1 : Nat) ≤ 140737488355328; omega, Nat.zero_le _, by show (0 : Nat) ≤ 140737488355328; omega⟩⟩
  · exact ⟨B + 1 + 1 + 1 + 1 + 1 + 1 + 1 + 1 + 1 + 1 + 1 + 1, 0, rfl, ⟨cell_of_row W _ 14 _ _ _ h.h12, cell_of_row W _ 15 _ _ _ h.h12, cell_of_row W _ 16 _ _ _ h.h12, cell_of_row W _ 17 _ _ _ h.h12, cell_of_row W _ 18 _ _ _ h.h12, cell_of_row W _ 19 _ _ _ h.h12, cell_of_row W _ 20 _ _ _ h.h12⟩, ⟨(isl1 h.h4), isl0 W, (hks0 W)⟩, ⟨by show (1 : Nat) ≤ 140737488355328; omega, Nat.zero_le _, by show (0 : Nat) ≤ 140737488355328; omega⟩⟩
  · exact ⟨B + 1 + 1 + 1 + 1 + 1 + 1 + 1 + 1 + 1 + 1 + 1 + 1, 0, rfl, ⟨cell_of_row W _ 21 _ _ _ h.h12, cell_of_row W _ 22 _ _ _ h.h12, cell_of_row W _ 23 _ _ _ h.h12, cell_of_row W _ 24 _ _ _ h.h12, cell_of_row W _ 25 _ _ _ h.h12, cell_of_row W _ 26 _ _ _ h.h12, cell_of_row W _ 27 _ _ _ h.h12⟩, ⟨(isl0 W), isl0 W, (hks0 W)⟩, ⟨by show (0 : Nat) ≤ 140737488355328; omega, Nat.zero_le _, by show (0 : Nat) ≤ 140737488355328; omega⟩⟩
  · exact ⟨B + 1 + 1 + 1 + 1 + 1 + 1 + 1 + 1 + 1 + 1 + 1 + 1, 0, rfl, ⟨cell_of_row W _ 28 _ _ _ h.h12, cell_of_row W _ 29 _ _ _ h.h12, cell_of_row W _ 30 _ _ _ h.h12, cell_of_row W _ 31 _ _ _ h.h12, cell_of_row W _ 32 _ _ _ h.h12, cell_of_row W _ 33 _ _ _ h.h12, cell_of_row W _ 34 _ _ _ h.h12⟩, ⟨(isl1 h.h5), isl0 W, (hks0 W)⟩, ⟨by show (1 : Nat) ≤ 140737488355328; omega, Nat.zero_le _, by show (0 : Nat) ≤ 140737488355328; omega⟩⟩
  · exact ⟨B + 1 + 1 + 1 + 1 + 1 + 1 + 1 + 1 + 1 + 1 + 1 + 1, 0, rfl, ⟨cell_of_row W _ 35 _ _ _ h.h12, cell_of_row W _ 36 _ _ _ h.h12, cell_of_row W _ 37 _ _ _ h.h12, cell_of_row W _ 38 _ _ _ h.h12, cell_of_row W _ 39 _ _ _ h.h12, cell_of_row W _ 40 _ _ _ h.h12, cell_of_row W _ 41 _ _ _ h.h12⟩, ⟨(isl1 h.h6), isl0 W, (hks0 W)⟩, ⟨by show (1 : Nat) ≤ 140737488355328; omega, Nat.zero_le _, by show (0 : Nat) ≤ 140737488355328; omega⟩⟩
  · exact ⟨B + 1 + 1 + 1 + 1 + 1 + 1 + 1 + 1 + 1 + 1 + 1 + 1, 0, rfl, ⟨cell_of_row W _ 42 _ _ _ h.h12, cell_of_row W _ 43 _ _ _ h.h12, cell_of_row W _ 44 _ _ _ h.h12, cell_of_row W _ 45 _ _ _ h.h12, cell_of_row W _ 46 _ _ _ h.h12, cell_of_row W _ 47 _ _ _ h.h12, cell_of_row W _ 48 _ _ _ h.h12⟩, ⟨(isl1 h.h7), isl0 W, (hks0 W)⟩, ⟨by show (1 : Nat) ≤ 140737488355328; omega, Nat.zero_le _, by show (0 : Nat) ≤ 140737488355328; omega⟩⟩
  · exact ⟨B + 1 + 1 + 1 + 1 + 1 + 1 + 1 + 1 + 1 + 1 + 1 + 1, 0, rfl, ⟨cell_of_row W _ 49 _ _ _ h.h12, cell_of_row W _ 50 _ _ _ h.h12, cell_of_row W _ 51 _ _ _ h.h12, cell_of_row W _ 52 _ _ _ h.h12, cell_of_row W _ 53 _ _ _ h.h12, cell_of_row W _ 54 _ _ _ h.h12, cell_of_row W _ 55 _ _ _ h.h12⟩, ⟨(isl1 h.h8), isl0 W, (hks0 W)⟩, ⟨by show (1 : Nat) ≤ 140737488355328; omega, Nat.zero_le _, by show (0 : Nat) ≤ 140737488355328; omega⟩⟩
  · exact ⟨B + 1 + 1 + 1 + 1 + 1 + 1 + 1 + 1 + 1 + 1 + 1 + 1, 0, rfl, ⟨cell_of_row W _ 56 _ _ _ h.h12, cell_of_row W _ 57 _ _ _ h.h12, cell_of_row W _ 58 _ _ _ h.h12, cell_of_row W _ 59 _ _ _ h.h12, cell_of_row W _ 60 _ _ _ h.h12, cell_of_row W _ 61 _ _ _ h.h12, cell_of_row W _ 62 _ _ _ h.h12⟩, ⟨(isl0 W), isl0 W, (hks0 W)⟩, ⟨by show (0 : Nat) ≤ 140737488355328; omega, Nat.zero_le _, by show (0 : Nat) ≤ 140737488355328; omega⟩⟩
  · exact ⟨B + 1 + 1 + 1 + 1 + 1 + 1 + 1 + 1 + 1 + 1 + 1 + 1, 0, rfl, ⟨cell_of_row W _ 63 _ _ _ h.h12, cell_of_row W _ 64 _ _ _ h.h12, cell_of_row W _ 65 _ _ _ h.h12, cell_of_row W _ 66 _ _ _ h.h12, cell_of_row W _ 67 _ _ _ h.h12, cell_of_row W _ 68 _ _ _ h.h12, cell_of_row W _ 69 _ _ _ h.h12⟩, ⟨(isl0 W), isl0 W, (hks0 W)⟩, ⟨by show (0 : Nat) ≤ 140737488355328; omega, Nat.zero_le _, by show (0 : Nat) ≤ 140737488355328; omega⟩⟩
  · exact ⟨B + 1 + 1 + 1 + 1 + 1 + 1 + 1 + 1 + 1 + 1 + 1 + 1, 0, rfl, ⟨cell_of_row W _ 70 _ _ _ h.h12, cell_of_row W _ 71 _ _ _ h.h12, cell_of_row W _ 72 _ _ _ h.h12, cell_of_row W _ 73 _ _ _ h.h12, cell_of_row W _ 74 _ _ _ h.h12, cell_of_row W _ 75 _ _ _ h.h12, cell_of_row W _ 76 _ _ _ h.h12⟩, ⟨(isl0 W), isl0 W, (hks0 W)⟩, ⟨by show (0 : Nat) ≤ 140737488355328; omega, Nat.zero_le _, by show (0 : Nat) ≤ 140737488355328; omega⟩⟩
  · exact ⟨B + 1 + 1 + 1 + 1 + 1 + 1 + 1 + 1 + 1 + 1 + 1 + 1, 0, rfl, ⟨cell_of_row W _ 77 _ _ _ h.h12, cell_of_row W _ 78 _ _ _ h.h12, cell_of_row W _ 79 _ _ _ h.h12, cell_of_row W _ 80 _ _ _ h.h12, cell_of_row W _ 81 _ _ _ h.h12, cell_of_row W _ 82 _ _ _ h.h12, cell_of_row W _ 83 _ _ _ h.h12⟩, ⟨(isl1 h.h9), isl0 W, (hks1 h.h10)⟩, ⟨by show (1 : Nat) ≤ 140737488355328; omega, Nat.zero_le _, by show (1 : Nat) ≤ 140737488355328; omega⟩⟩
  · exact ⟨B + 1 + 1 + 1 + 1 + 1 + 1 + 1 + 1 + 1 + 1 + 1 + 1, 0, rfl, ⟨cell_of_row W _ 84 _ _ _ h.h12, cell_of_row W _ 85 _ _ _ h.h12, cell_of_row W _ 86 _ _ _ h.h12, cell_of_row W _ 87 _ _ _ h.h12, cell_of_row W _ 88 _ _ _ h.h12, cell_of_row W _ 89 _ _ _ h.h12, cell_of_row W _ 90 _ _ _ h.h12⟩, ⟨(isl2 h.h11), isl0 W, (hks0 W)⟩, ⟨by show (2 : Nat) ≤ 140737488355328; omega, Nat.zero_le _, by show (0 : Nat) ≤ 140737488355328; omega⟩⟩
theorem Kb.want {W : World} {B : Nat} (h : Kb W B) : ∀ i, i < 13 → W.cell? ⟨B + 1 + 1 + 1 + 1 + 1 + 1 + 1 + 1 + 1 + 1 + 1 + 1 + 1, i, none⟩ = some (.int .i64 (WK.getD i 0)) := by
  intro i hi
  rcases (by omega : i = 0 ∨ i = 1 ∨ i = 2 ∨ i = 3 ∨ i = 4 ∨ i = 5 ∨ i = 6 ∨ i = 7 ∨ i = 8 ∨ i = 9 ∨ i = 10 ∨ i = 11 ∨ i = 12) with rfl | rfl | rfl | rfl | rfl | rfl | rfl | rfl | rfl | rfl | rfl | rfl | rfl
  · exact cell_of_row W _ 0 _ _ _ h.h13
  · exact cell_of_row W _ 1 _ _ _ h.h13
  · exact cell_of_row W _ 2 _ _ _ h.h13
  · exact cell_of_row W _ 3 _ _ _ h.h13
  · exact cell_of_row W _ 4 _ _ _ h.h13
  · exact cell_of_row W _ 5 _ _ _ h.h13
  · exact cell_of_row W _ 6 _ _ _ h.h13
  · exact cell_of_row W _ 7 _ _ _ h.h13
  · exact cell_of_row W _ 8 _ _ _ h.h13
  · exact cell_of_row W _ 9 _ _ _ h.h13
  · exact cell_of_row W _ 10 _ _ _ h.h13
  · exact cell_of_row W _ 11 _ _ _ h.h13
  · exact cell_of_row W _ 12 _ _ _ h.h13
theorem kn_check (B nb : Nat) : ∀ k, k < 13 → check 1 1 [[1]] [⟨some ⟨nb, 0, none⟩, 2, 2, [ndK B, (NK B).getD k default]⟩] = (0, 1, WK.getD k 0) := by
  intro i hi
  rcases (by omega : i = 0 ∨ i = 1 ∨ i = 2 ∨ i = 3 ∨ i = 4 ∨ i = 5 ∨ i = 6 ∨ i = 7 ∨ i = 8 ∨ i = 9 ∨ i = 10 ∨ i = 11 ∨ i = 12) with rfl | rfl | rfl | rfl | rfl | rfl | rfl | rfl | rfl | rfl | rfl | rfl | rfl <;> rfl
theorem isl_vs {W : World} {vb sb : Nat} {x : Int} {t : TypeId} (h1 : W.heap[vb]? = some (.cells #[.slice (some ⟨sb, 0, none⟩) 1 1] t (0, 0))) {t2 : TypeId} (h2 : W.heap[sb]? = some (.cells #[.int .i64 x] t2 (0, 0))) : Vs W (some ⟨vb, 0, none⟩) 1 1 [[x]] := by
  refine ⟨rfl, Nat.le_refl _, fun i hi => ?_⟩
  obtain rfl : i = 0 := by omega
  exact ⟨vb, 0, rfl, _, 1, 1, cell_of_row W _ 0 _ _ _ h1, isl1 h2, by omega⟩
theorem kn_Check {W : World} {B k : Nat} {n : Nd} (h : Kb W B) (hk : k < 13) (hn : (NK B).getD k default = n) (nb gb sb vb : Nat) (hg : W.heap[gb]? = some (.cells #[.slice (some ⟨nb, 0, none⟩) 2 2] 34 (0, 0)))
    (hnb : W.heap[nb]? = some (.cells #[.int .i64 2, .slice none 0 0, .slice none 0 0, .int .i64 0, .slice (some ⟨B, 0, none⟩) 1 1, .slice (some ⟨B + 1, 0, none⟩) 1 1, .slice none 0 0, .int .i64 n.op, .slice n.ia n.il n.ic, .slice n.ta n.tl n.tc, .int .i64 n.no, .slice n.sa n.sl n.sc, .slice n.da n.dl n.dc, .slice n.ha n.hl n.hc] 41 (0, 0)))
    (hv : W.heap[vb]? = some (.cells #[.slice (some ⟨sb, 0, none⟩) 1 1] 35 (0, 0))) (hs : W.heap[sb]? = some (.cells #[.int .i64 1] 3 (0, 0))) :
    Calls Try.prog 12 #[.slice (some ⟨gb, 0, none⟩) 1 1, .slice (some ⟨vb, 0, none⟩) 1 1] W fun e w2 => e = .returned (.tuple #[.int .i64 0, .int .i64 1, .int .i64 (WK.getD k 0)]) ∧ Below W.heap.size W w2 := by
  subst hn
  obtain ⟨_, _, _, _, hok, hsm⟩ := h.nds.2.2 k hk
  have hG : Grs W (some ⟨gb, 0, none⟩) 1 1 [⟨some ⟨nb, 0, none⟩, 2, 2, [ndK B, (NK B).getD k default]⟩] := by
    refine ⟨rfl, Nat.le_refl _, fun i hi => ?_⟩
    obtain rfl : i = 0 := by omega
    refine ⟨gb, 0, rfl, cell_of_row W _ 0 _ _ _ hg, rfl, Nat.le_refl _, fun i hi => ?_⟩
    rcases (by have : i < 2 := hi
               omega : i = 0 ∨ i = 1) with rfl | rfl
    · exact ⟨nb, 0, rfl, ⟨cell_of_row W _ 0 _ _ _ hnb, cell_of_row W _ 1 _ _ _ hnb, cell_of_row W _ 2 _ _ _ hnb, cell_of_row W _ 3 _ _ _ hnb, cell_of_row W _ 4 _ _ _ hnb, cell_of_row W _ 5 _ _ _ hnb, cell_of_row W _ 6 _ _ _ hnb⟩, ⟨isl0 W, isl1 h.h0, hks0 W⟩, ⟨Nat.zero_le _, by show (1 : Nat) ≤ 140737488355328; omega, Nat.zero_le _⟩⟩
    · exact ⟨nb, 0, rfl, ⟨cell_of_row W _ 7 _ _ _ hnb, cell_of_row W _ 8 _ _ _ hnb, cell_of_row W _ 9 _ _ _ hnb, cell_of_row W _ 10 _ _ _ hnb, cell_of_row W _ 11 _ _ _ hnb, cell_of_row W _ 12 _ _ _ hnb, cell_of_row W _ 13 _ _ _ hnb⟩, hok, hsm⟩
  have C := check_any (some ⟨gb, 0, none⟩) 1 1 (some ⟨vb, 0, none⟩) 1 1 [[1]] _ W hG (isl_vs hv hs)
  rw [kn_check B nb k hk] at C
  exact C
theorem vs0 (W : World) : Vs W none 0 0 [] := ⟨rfl, Nat.le_refl _, fun _ hi => absurd hi (Nat.not_lt_zero _)⟩
theorem grs0 (W : World) : Grs W none 0 0 [] := ⟨rfl, Nat.le_refl _, fun _ hi => absurd hi (Nat.not_lt_zero _)⟩
theorem kn_a (W : World) (b : Nat) (h : ∀ i, i < 17 → W.cell? ⟨b, i, none⟩ = some (.slice none 0 0)) : Calls Try.prog 12 #[.slice (some ⟨b, 0, none⟩) 17 17, .slice none 0 0] W fun e w2 => e = .returned (.tuple #[.int .i64 0, .int .i64 0, .int .i64 13]) ∧ Below W.heap.size W w2 := by
  refine check_any (some ⟨b, 0, none⟩) 17 17 none 0 0 [] (List.replicate 17 default) W ⟨by simp, Nat.le_refl _, fun i hi => ?_⟩ (vs0 W)
  have e : (List.replicate 17 (default : Gr)).getD i default = default := by rw [List.getD_eq_getElem?_getD, List.getElem?_replicate, if_pos hi]; rfl
  rw [e]
  exact ⟨b, 0, rfl, by rw [Nat.zero_add]; exact h i hi, rfl, Nat.le_refl _, fun _ hi => absurd hi (Nat.not_lt_zero _)⟩
theorem kn_b (W : World) (b : Nat) (h : ∀ i, i < 33 → W.cell? ⟨b, i, none⟩ = some (.slice none 0 0)) : Calls Try.prog 12 #[.slice none 0 0, .slice (some ⟨b, 0, none⟩) 33 33] W fun e w2 => e = .returned (.tuple #[.int .i64 0, .int .i64 0, .int .i64 13]) ∧ Below W.heap.size W w2 := by
  refine check_any none 0 0 (some ⟨b, 0, none⟩) 33 33 (List.replicate 33 []) [] W (grs0 W) ⟨by simp, Nat.le_refl _, fun i hi => ?_⟩
  have e : (List.replicate 33 ([] : List Int)).getD i [] = [] := by rw [List.getD_eq_getElem?_getD, List.getElem?_replicate, if_pos hi]; rfl
  rw [e]
  exact ⟨b, 0, rfl, _, 0, 0, by rw [Nat.zero_add]; exact h i hi, isl0 W, Nat.zero_le _⟩
theorem nds1 {W : World} {nb : Nat} (h : W.heap[nb]? = some (.cells #[.int .i64 1, .slice none 0 0, .slice none 0 0, .int .i64 0, .slice none 0 0, .slice none 0 0, .slice none 0 0] 41 (0, 0))) : Nds W (some ⟨nb, 0, none⟩) 1 1 [ndL] := by
  refine ⟨rfl, Nat.le_refl _, fun i hi => ?_⟩
  obtain rfl : i = 0 := by omega
  exact ⟨nb, 0, rfl, ⟨cell_of_row W _ 0 _ _ _ h, cell_of_row W _ 1 _ _ _ h, cell_of_row W _ 2 _ _ _ h, cell_of_row W _ 3 _ _ _ h, cell_of_row W _ 4 _ _ _ h, cell_of_row W _ 5 _ _ _ h, cell_of_row W _ 6 _ _ _ h⟩, ndL_ok W, ndL_small⟩
theorem kn_c {W : World} (nb gb sb vb : Nat) (hg : W.heap[gb]? = some (.cells #[.slice (some ⟨nb, 0, none⟩) 1 1, .slice none 0 0] 34 (0, 0))) (hn : W.heap[nb]? = some (.cells #[.int .i64 1, .slice none 0 0, .slice none 0 0, .int .i64 0, .slice none 0 0, .slice none 0 0, .slice none 0 0] 41 (0, 0)))
    (hv : W.heap[vb]? = some (.cells #[.slice (some ⟨sb, 0, none⟩) 1 1] 35 (0, 0))) (hs : W.heap[sb]? = some (.cells #[.int .i64 1] 3 (0, 0))) :
    Calls Try.prog 12 #[.slice (some ⟨gb, 0, none⟩) 2 2, .slice (some ⟨vb, 0, none⟩) 1 1] W fun e w2 => e = .returned (.tuple #[.int .i64 1, .int .i64 0, .int .i64 13]) ∧ Below W.heap.size W w2 := by
  refine check_any (some ⟨gb, 0, none⟩) 2 2 (some ⟨vb, 0, none⟩) 1 1 [[1]] [⟨some ⟨nb, 0, none⟩, 1, 1, [ndL]⟩, ⟨none, 0, 0, []⟩] W ⟨rfl, Nat.le_refl _, fun i hi => ?_⟩ (isl_vs hv hs)
  rcases (by omega : i = 0 ∨ i = 1) with rfl | rfl
  · exact ⟨gb, 0, rfl, cell_of_row W _ 0 _ _ _ hg, nds1 hn⟩
  · exact ⟨gb, 0, rfl, cell_of_row W _ 1 _ _ _ hg, rfl, Nat.le_refl _, fun _ hi => absurd hi (Nat.not_lt_zero _)⟩
theorem kn_d {W : World} (nb gb sb vb : Nat) (hg : W.heap[gb]? = some (.cells #[.slice (some ⟨nb, 0, none⟩) 1 1] 34 (0, 0))) (hn : W.heap[nb]? = some (.cells #[.int .i64 1, .slice none 0 0, .slice none 0 0, .int .i64 0, .slice none 0 0, .slice none 0 0, .slice none 0 0] 41 (0, 0)))
    (hv : W.heap[vb]? = some (.cells #[.slice (some ⟨sb, 0, none⟩) 1 1] 35 (0, 0))) (hs : W.heap[sb]? = some (.cells #[.int .i64 0] 3 (0, 0))) :
    Calls Try.prog 12 #[.slice (some ⟨gb, 0, none⟩) 1 1, .slice (some ⟨vb, 0, none⟩) 1 1] W fun e w2 => e = .returned (.tuple #[.int .i64 0, .int .i64 0, .int .i64 2]) ∧ Below W.heap.size W w2 := by
  refine check_any (some ⟨gb, 0, none⟩) 1 1 (some ⟨vb, 0, none⟩) 1 1 [[0]] [⟨some ⟨nb, 0, none⟩, 1, 1, [ndL]⟩] W ⟨rfl, Nat.le_refl _, fun i hi => ?_⟩ (isl_vs hv hs)
  obtain rfl : i = 0 := by omega
  exact ⟨gb, 0, rfl, cell_of_row W _ 0 _ _ _ hg, nds1 hn⟩
theorem kn_e (W : World) : Calls Try.prog 12 #[.slice none 0 0, .slice none 0 0] W fun e w2 => e = .returned (.tuple #[.int .i64 0, .int .i64 0, .int .i64 0]) ∧ Below W.heap.size W w2 :=
  check_any none 0 0 none 0 0 [] [] W (grs0 W) (vs0 W)
end Go.Proofs.Ytedpppkknmeheaa
