/-
  The law's awake: Check, Shapes, Work, Edges at two graphs by hand. No condition.
-/
import Derived.Test.YtedpppkknmeheaaGF
namespace Go.Proofs.Ytedpppkknmeheaa
open Go.RowKit

def ndL : Nd := ⟨1, none, 0, 0, [], none, 0, 0, 0, none, 0, 0, [], none, 0, 0, none, 0, 0, []⟩
def ndC (bB : Nat) : Nd := ⟨16, some ⟨bB, 0, none⟩, 1, 1, [0], none, 0, 0, 0, none, 0, 0, [], none, 0, 0, none, 0, 0, []⟩
def grA (bA : Nat) : Gr := ⟨some ⟨bA, 0, none⟩, 1, 1, [ndL]⟩
def grC (bB bC : Nat) : Gr := ⟨some ⟨bC, 0, none⟩, 2, 2, [ndL, ndC bB]⟩
def leafCells : Array Value := #[.int .i64 1, .slice none 0 0, .slice none 0 0, .int .i64 0, .slice none 0 0, .slice none 0 0, .slice none 0 0]
/-- The two graphs, as they lie. -/
structure Aw (W : World) (bA bB bC bL : Nat) : Prop where
  hA : W.heap[bA]? = some (.cells #[.int .i64 1, .slice none 0 0, .slice none 0 0, .int .i64 0, .slice none 0 0, .slice none 0 0, .slice none 0 0] 41 (0, 0))
  hB : W.heap[bB]? = some (.cells #[.int .i64 0] 3 (0, 0))
  hC : W.heap[bC]? = some (.cells #[.int .i64 1, .slice none 0 0, .slice none 0 0, .int .i64 0, .slice none 0 0, .slice none 0 0, .slice none 0 0, .int .i64 16, .slice (some ⟨bB, 0, none⟩) 1 1, .slice none 0 0, .int .i64 0, .slice none 0 0, .slice none 0 0, .slice none 0 0] 41 (0, 0))
  hL : W.heap[bL]? = some (.cells #[.slice (some ⟨bA, 0, none⟩) 1 1, .slice (some ⟨bC, 0, none⟩) 2 2] 34 (0, 0))
theorem lt_of_heap {W : World} {b : Nat} {o : Obj} (h : W.heap[b]? = some o) : b < W.heap.size := (Array.getElem?_eq_some_iff.1 h).1
theorem Aw.later {W W' : World} {bA bB bC bL : Nat} (h : Aw W bA bB bC bL) (hb : Below W.heap.size W W') : Aw W' bA bB bC bL :=
  ⟨(hb.block _ (lt_of_heap h.hA)).trans h.hA, (hb.block _ (lt_of_heap h.hB)).trans h.hB, (hb.block _ (lt_of_heap h.hC)).trans h.hC, (hb.block _ (lt_of_heap h.hL)).trans h.hL⟩
theorem ndL_ok (W : World) : ndL.ok W := ⟨⟨rfl, Nat.le_refl _, fun _ hi => absurd hi (Nat.not_lt_zero _)⟩, ⟨rfl, Nat.le_refl _, fun _ hi => absurd hi (Nat.not_lt_zero _)⟩, ⟨rfl, Nat.le_refl _, fun _ hi => absurd hi (Nat.not_lt_zero _)⟩⟩
theorem ndL_small : ndL.small := ⟨Nat.zero_le _, Nat.zero_le _, Nat.zero_le _⟩
theorem Aw.grs {W : World} {bA bB bC bL : Nat} (h : Aw W bA bB bC bL) : Grs W (some ⟨bL, 0, none⟩) 2 2 [grA bA, grC bB bC] := by
  refine ⟨rfl, Nat.le_refl _, fun i hi => ?_⟩
  rcases (by omega : i = 0 ∨ i = 1) with rfl | rfl
  · refine ⟨bL, 0, rfl, cell_of_row W _ 0 _ _ _ h.hL, rfl, Nat.le_refl _, fun i hi => ?_⟩
    obtain rfl : i = 0 := by have : i < 1 := hi
                             omega
    exact ⟨bA, 0, rfl, ⟨cell_of_row W _ 0 _ _ _ h.hA, cell_of_row W _ 1 _ _ _ h.hA, cell_of_row W _ 2 _ _ _ h.hA, cell_of_row W _ 3 _ _ _ h.hA, cell_of_row W _ 4 _ _ _ h.hA, cell_of_row W _ 5 _ _ _ h.hA, cell_of_row W _ 6 _ _ _ h.hA⟩, ndL_ok W, ndL_small⟩
  · refine ⟨bL, 0, rfl, cell_of_row W _ 1 _ _ _ h.hL, rfl, Nat.le_refl _, fun i hi => ?_⟩
    rcases (by have : i < 2 := hi
               omega : i = 0 ∨ i = 1) with rfl | rfl
    · exact ⟨bC, 0, rfl, ⟨cell_of_row W _ 0 _ _ _ h.hC, cell_of_row W _ 1 _ _ _ h.hC, cell_of_row W _ 2 _ _ _ h.hC, cell_of_row W _ 3 _ _ _ h.hC, cell_of_row W _ 4 _ _ _ h.hC, cell_of_row W _ 5 _ _ _ h.hC, cell_of_row W _ 6 _ _ _ h.hC⟩, ndL_ok W, ndL_small⟩
    · refine ⟨bC, 0, rfl, ⟨cell_of_row W _ 7 _ _ _ h.hC, cell_of_row W _ 8 _ _ _ h.hC, cell_of_row W _ 9 _ _ _ h.hC, cell_of_row W _ 10 _ _ _ h.hC, cell_of_row W _ 11 _ _ _ h.hC, cell_of_row W _ 12 _ _ _ h.hC, cell_of_row W _ 13 _ _ _ h.hC⟩, ⟨⟨rfl, Nat.le_refl _, fun i hi => ?_⟩, ⟨rfl, Nat.le_refl _, fun _ hi => absurd hi (Nat.not_lt_zero _)⟩, ⟨rfl, Nat.le_refl _, fun _ hi => absurd hi (Nat.not_lt_zero _)⟩⟩, ⟨by show 1 ≤ _; omega, Nat.zero_le _, Nat.zero_le _⟩⟩
      obtain rfl : i = 0 := by have : i < 1 := hi
                               omega
      exact ⟨bB, 0, rfl, cell_of_row W _ 0 _ _ _ h.hB⟩
theorem aw_check (bA bB bC : Nat) : check 2 1 [[2]] [grA bA, grC bB bC] = (0, 0, 0) := by rfl
theorem aw_fits (bA bB bC : Nat) : Fits 2 [grA bA, grC bB bC] := by
  refine ⟨by omega, fun i hi => ?_⟩
  rcases (by omega : i = 0 ∨ i = 1) with rfl | rfl
  · show 1 ≤ _; omega
  · show 2 ≤ _; omega
theorem aw_work (bA bB bC : Nat) : wkR 2 [grA bA, grC bB bC] 1 = (3, 0) := by
  have c0 : cs [grA bA, grC bB bC] 0 = [] := rfl
  have c1 : cs [grA bA, grC bB bC] 1 = [0] := rfl
  have l0 : ln [grA bA, grC bB bC] 0 = 1 := rfl
  have l1 : ln [grA bA, grC bB bC] 1 = 2 := rfl
  unfold wkR Wk.work
  generalize cs [grA bA, grC bB bC] = C at c0 c1 ⊢
  generalize ln [grA bA, grC bB bC] = L at l0 l1 ⊢
  have hl0 : ∀ x, Wk.Lv C 1 0 x → x = 1 := fun x h => h.symm
  have hl1 : ∀ x, Wk.Lv C 1 1 x → x = 0 := by
    rintro x ⟨y, hy, hx⟩
    rw [hl0 y hy, c1, List.mem_singleton] at hx
    omega
  have hl2 : ∀ k x, ¬ Wk.Lv C 1 (k + 2) x := by
    intro k
    induction k with
    | zero =>
      rintro x ⟨y, hy, hx⟩
      rw [hl1 y hy, c0] at hx
      simp at hx
    | succ k ih =>
      rintro x ⟨y, hy, _⟩
      exact ih y hy
  have hcl : Wk.Closed 2 C 1 := by
    rintro x ⟨k, hk⟩
    rcases k with _ | _ | k
    · rw [hl0 x hk]
      intro c hc
      rw [c1, List.mem_singleton] at hc
      subst hc
      omega
    · rw [hl1 x hk]
      intro c hc
      rw [c0] at hc
      simp at hc
    · exact absurd hk (hl2 k x)
  have hnp : Wk.NP C 9 1 := fun x => hl2 7 x
  have hw : Wk.W L C 9 1 = 3 := by
    simp [Wk.W, c0, c1, l0, l1]
  rw [if_neg (by intro h; rcases h with h | h | h; · omega
                 · omega
                 · exact h hcl), if_neg (fun h => h hnp), show (1 : Int).toNat = 1 from rfl, hw, if_neg (by omega)]
  rfl

/-! ### the calls -/
theorem aw_vs {W : World} {vb vs : Nat} (h1 : W.cell? ⟨vb, 0, none⟩ = some (.slice (some ⟨vs, 0, none⟩) 1 1)) (h2 : W.cell? ⟨vs, 0, none⟩ = some (.int .i64 2)) : Vs W (some ⟨vb, 0, none⟩) 1 1 [[2]] ∧ Two W (some ⟨vs, 0, none⟩) 1 := by
  have hT : Two W (some ⟨vs, 0, none⟩) 1 := ⟨rfl, Nat.le_refl _, fun i hi => by
    obtain rfl : i = 0 := by omega
    exact ⟨vs, 0, rfl, h2⟩⟩
  refine ⟨⟨rfl, Nat.le_refl _, fun i hi => ?_⟩, hT⟩
  obtain rfl : i = 0 := by omega
  exact ⟨vb, 0, rfl, _, 1, 1, h1, hT, by omega⟩
theorem aw_Check {W : World} {bA bB bC bL vb vs : Nat} (h : Aw W bA bB bC bL) (h1 : W.cell? ⟨vb, 0, none⟩ = some (.slice (some ⟨vs, 0, none⟩) 1 1)) (h2 : W.cell? ⟨vs, 0, none⟩ = some (.int .i64 2)) :
    Calls Try.prog 12 #[.slice (some ⟨bL, 0, none⟩) 2 2, .slice (some ⟨vb, 0, none⟩) 1 1] W fun e w' => e = .returned (.tuple #[.int .i64 0, .int .i64 0, .int .i64 0]) ∧ Below W.heap.size W w' := by
  have C := check_any (some ⟨bL, 0, none⟩) 2 2 (some ⟨vb, 0, none⟩) 1 1 [[2]] _ W h.grs (aw_vs h1 h2).1
  rw [aw_check] at C
  exact C
theorem aw_Work {W : World} {bA bB bC bL : Nat} (h : Aw W bA bB bC bL) :
    Calls Try.prog 15 #[.slice (some ⟨bL, 0, none⟩) 2 2, .int .i64 1] W fun e w' => e = .returned (.tuple #[.int .i64 3, .int .i64 0]) ∧ Below W.heap.size W w' := by
  have C := work_any (some ⟨bL, 0, none⟩) 2 2 _ 1 W h.grs.c (aw_fits bA bB bC)
  rw [aw_work] at C
  exact C
set_option maxRecDepth 100000 in
set_option maxHeartbeats 4000000 in
theorem aw_Shapes {W : World} {bA bB bC bL vb vs : Nat} (h : Aw W bA bB bC bL) (h1 : W.cell? ⟨vb, 0, none⟩ = some (.slice (some ⟨vs, 0, none⟩) 1 1)) (h2 : W.cell? ⟨vs, 0, none⟩ = some (.int .i64 2)) :
    Calls Try.prog 17 #[.slice (some ⟨bL, 0, none⟩) 2 2, .slice (some ⟨vb, 0, none⟩) 1 1, .int .i64 1, .slice none 0 0] W (Shp3 W) := by
  have C1 := hide (aw_Check h h1 h2)
  have C2 : Hid (∀ w', Below W.heap.size W w' → Calls Try.prog 15 #[.slice (some ⟨bL, 0, none⟩) 2 2, .int .i64 1] w' fun e w2 => e = .returned (.tuple #[.int .i64 3, .int .i64 0]) ∧ Below W.heap.size W w2) := hide (fun w' hb => (aw_Work (h.later hb)).mono fun e w2 k => ⟨k.1, hb.trans (k.2.mono hb.size)⟩)
  have C3 : Hid (∀ w', Below W.heap.size W w' → Calls Try.prog 24 #[.slice (some ⟨bL, 0, none⟩) 2 2, .slice (some ⟨vb, 0, none⟩) 1 1, .int .i64 1, .slice none 0 0] w' fun e w2 => ∃ a cap, e = .returned (.tuple #[.slice a 2 cap, .int .i64 0]) ∧ Below W.heap.size W w2) := hide (fun w' hb => by
    have k := h.later hb
    have q1 := cell_later hb h1
    have q2 := cell_later hb h2
    refine (shapes1 bL 0 2 2 vb 0 1 1 none 0 0 bA 1 bB bC 2 (some ⟨vs, 0, none⟩) 1 w' (cell_of_row _ _ 0 _ _ _ k.hL) (cell_of_row _ _ 1 _ _ _ k.hL)
      ⟨cell_of_row _ _ 0 _ _ _ k.hA, cell_of_row _ _ 1 _ _ _ k.hA, cell_of_row _ _ 2 _ _ _ k.hA, cell_of_row _ _ 3 _ _ _ k.hA, cell_of_row _ _ 4 _ _ _ k.hA, cell_of_row _ _ 5 _ _ _ k.hA, cell_of_row _ _ 6 _ _ _ k.hA⟩
      ⟨cell_of_row _ _ 0 _ _ _ k.hC, cell_of_row _ _ 1 _ _ _ k.hC, cell_of_row _ _ 2 _ _ _ k.hC, cell_of_row _ _ 3 _ _ _ k.hC, cell_of_row _ _ 4 _ _ _ k.hC, cell_of_row _ _ 5 _ _ _ k.hC, cell_of_row _ _ 6 _ _ _ k.hC⟩
      ⟨cell_of_row _ _ 7 _ _ _ k.hC, cell_of_row _ _ 8 _ _ _ k.hC, cell_of_row _ _ 9 _ _ _ k.hC, cell_of_row _ _ 10 _ _ _ k.hC, cell_of_row _ _ 11 _ _ _ k.hC, cell_of_row _ _ 12 _ _ _ k.hC, cell_of_row _ _ 13 _ _ _ k.hC⟩
      (cell_of_row _ _ 0 _ _ _ k.hB) q1 (aw_vs q1 q2).2 (by omega) (by omega)).mono fun e w2 ⟨a, cap, e1, e2⟩ => ⟨a, cap, e1, hb.trans (e2.mono hb.size)⟩)
  clear h h1 h2
  go_enter Try.func17, Try.ntmps17
  go_wp2_with (first | (go_at_call 12; (with_reducible refine C1.out.mono ?_); rintro e w2 ⟨rfl, hb2⟩; have HB2 := hide hb2; clear hb2) | (go_at_call 15; (with_reducible refine (C2.out _ HB2.out).mono ?_); rintro e w3 ⟨rfl, hb3⟩; have HB3 := hide hb3; clear hb3) | (go_at_call 24; (with_reducible refine (C3.out _ HB3.out).mono ?_); rintro e w4 ⟨a4, c4, rfl, hb4⟩; have HB4 := hide hb4; clear hb4))
  go_ret2
  exact ⟨a4, c4, rfl, HB4.out⟩
theorem aw_Edges {W : World} {bA bB bC bL : Nat} (h : Aw W bA bB bC bL) :
    Calls Try.prog 14 #[.agg #[.slice (some ⟨bC, 0, none⟩) 2 2]] W fun e w' => e = .returned (.int .i64 1) ∧ Below W.heap.size W w' := by
  obtain ⟨_, _, _, _, hN⟩ := h.grs.c.2.2 1 (by omega)
  have C := edges_any (some ⟨bC, 0, none⟩) 2 2 [ndL, ndC bB] W hN (by omega)
  have e : edgF [ndL, ndC bB] = 1 := by
    show wrap64 (wrap64 (0 + ((0 : Nat) : Int)) + ((1 : Nat) : Int)) = 1
    unfold wrap64; omega
  rw [e] at C
  exact C
theorem heap_at {w : World} {k : Nat} (o : Obj) (h : k = w.heap.size) : (w.alloc o).heap[k]? = some o := by subst h; exact heap_alloc_new w o

theorem aw_made (w : World) : Below w.heap.size w ((((w.alloc (.cells #[.int .i64 1, .slice none 0 0, .slice none 0 0, .int .i64 0, .slice none 0 0, .slice none 0 0, .slice none 0 0] 41)).alloc (.cells #[.int .i64 0] 3)).alloc (.cells #[.int .i64 1, .slice none 0 0, .slice none 0 0, .int .i64 0, .slice none 0 0, .slice none 0 0, .slice none 0 0, .int .i64 16, .slice (some ⟨w.heap.size + 1, 0, none⟩) 1 1, .slice none 0 0, .int .i64 0, .slice none 0 0, .slice none 0 0, .slice none 0 0] 41)).alloc (.cells #[.slice (some ⟨w.heap.size, 0, none⟩) 1 1, .slice (some ⟨w.heap.size + 1 + 1, 0, none⟩) 2 2] 34)) ∧
    Aw ((((w.alloc (.cells #[.int .i64 1, .slice none 0 0, .slice none 0 0, .int .i64 0, .slice none 0 0, .slice none 0 0, .slice none 0 0] 41)).alloc (.cells #[.int .i64 0] 3)).alloc (.cells #[.int .i64 1, .slice none 0 0, .slice none 0 0, .int .i64 0, .slice none 0 0, .slice none 0 0, .slice none 0 0, .int .i64 16, .slice (some ⟨w.heap.size + 1, 0, none⟩) 1 1, .slice none 0 0, .int .i64 0, .slice none 0 0, .slice none 0 0, .slice none 0 0] 41)).alloc (.cells #[.slice (some ⟨w.heap.size, 0, none⟩) 1 1, .slice (some ⟨w.heap.size + 1 + 1, 0, none⟩) 2 2] 34)) w.heap.size (w.heap.size + 1) (w.heap.size + 1 + 1) (w.heap.size + 1 + 1 + 1) := by
  refine ⟨(((((Below.refl _ _).alloc (Nat.le_refl _) _).alloc (by simp) _).alloc (by simp; omega) _).alloc (by simp; omega) _), ?_, ?_, ?_, ?_⟩
  · rw [heap_alloc_old _ (by simp; omega), heap_alloc_old _ (by simp; omega), heap_alloc_old _ (by simp), heap_alloc_new]
  · rw [heap_alloc_old _ (by simp), heap_alloc_old _ (by simp)]
    exact heap_at _ (by simp)
  · rw [heap_alloc_old _ (by simp)]
    exact heap_at _ (by simp)
  · exact heap_at _ (by simp)
set_option maxRecDepth 100000 in
set_option maxHeartbeats 16000000 in
theorem awake_any (w : World) : Calls Try.prog 9 #[] w fun e w' => e = .returned (.bool true) ∧ Below w.heap.size w w' := by
  obtain ⟨hb0, hA0⟩ := aw_made w
  have hs : w.heap.size + 1 + 1 + 1 + 1 = ((((w.alloc (.cells #[.int .i64 1, .slice none 0 0, .slice none 0 0, .int .i64 0, .slice none 0 0, .slice none 0 0, .slice none 0 0] 41)).alloc (.cells #[.int .i64 0] 3)).alloc (.cells #[.int .i64 1, .slice none 0 0, .slice none 0 0, .int .i64 0, .slice none 0 0, .slice none 0 0, .slice none 0 0, .int .i64 16, .slice (some ⟨w.heap.size + 1, 0, none⟩) 1 1, .slice none 0 0, .int .i64 0, .slice none 0 0, .slice none 0 0, .slice none 0 0] 41)).alloc (.cells #[.slice (some ⟨w.heap.size, 0, none⟩) 1 1, .slice (some ⟨w.heap.size + 1 + 1, 0, none⟩) 2 2] 34)).heap.size := by simp
  have HM := hide (And.intro hb0 (And.intro hA0 hs))
  clear hb0 hA0 hs
  go_enter Try.func9, Try.ntmps9
  go_wp2_with fail
  obtain ⟨hb0, hA0, hs⟩ := HM.out
  clear HM
  rw [hs]
  generalize ((((w.alloc (.cells #[.int .i64 1, .slice none 0 0, .slice none 0 0, .int .i64 0, .slice none 0 0, .slice none 0 0, .slice none 0 0] 41)).alloc (.cells #[.int .i64 0] 3)).alloc (.cells #[.int .i64 1, .slice none 0 0, .slice none 0 0, .int .i64 0, .slice none 0 0, .slice none 0 0, .slice none 0 0, .int .i64 16, .slice (some ⟨w.heap.size + 1, 0, none⟩) 1 1, .slice none 0 0, .int .i64 0, .slice none 0 0, .slice none 0 0, .slice none 0 0] 41)).alloc (.cells #[.slice (some ⟨w.heap.size, 0, none⟩) 1 1, .slice (some ⟨w.heap.size + 1 + 1, 0, none⟩) 2 2] 34)) = W at hb0 hA0 hs ⊢
  generalize w.heap.size + 1 + 1 + 1 = bL at hA0 ⊢
  generalize w.heap.size + 1 + 1 = bC at hA0 ⊢
  generalize w.heap.size + 1 = bB at hA0 ⊢
  have C1 : Hid (∀ w' vb vs, Below W.heap.size W w' → w'.cell? ⟨vb, 0, none⟩ = some (.slice (some ⟨vs, 0, none⟩) 1 1) → w'.cell? ⟨vs, 0, none⟩ = some (.int .i64 2) → Calls Try.prog 12 #[.slice (some ⟨bL, 0, none⟩) 2 2, .slice (some ⟨vb, 0, none⟩) 1 1] w' fun e w2 => e = .returned (.tuple #[.int .i64 0, .int .i64 0, .int .i64 0]) ∧ Below W.heap.size W w2) := hide (fun w' vb vs hb h1 h2 => (aw_Check (hA0.later hb) h1 h2).mono fun e w2 k => ⟨k.1, hb.trans (k.2.mono hb.size)⟩)
  have C2 : Hid (∀ w' vb vs, Below W.heap.size W w' → w'.cell? ⟨vb, 0, none⟩ = some (.slice (some ⟨vs, 0, none⟩) 1 1) → w'.cell? ⟨vs, 0, none⟩ = some (.int .i64 2) → Calls Try.prog 17 #[.slice (some ⟨bL, 0, none⟩) 2 2, .slice (some ⟨vb, 0, none⟩) 1 1, .int .i64 1, .slice none 0 0] w' fun e w2 => ∃ a cap, e = .returned (.tuple #[.slice a 2 cap, .int .i64 0]) ∧ Below W.heap.size W w2) := hide (fun w' vb vs hb h1 h2 => (aw_Shapes (hA0.later hb) h1 h2).mono fun e w2 ⟨a, cap, k1, k2⟩ => ⟨a, cap, k1, hb.trans (k2.mono hb.size)⟩)
  have C3 : Hid (∀ w', Below W.heap.size W w' → Calls Try.prog 15 #[.slice (some ⟨bL, 0, none⟩) 2 2, .int .i64 1] w' fun e w2 => e = .returned (.tuple #[.int .i64 3, .int .i64 0]) ∧ Below W.heap.size W w2) := hide (fun w' hb => (aw_Work (hA0.later hb)).mono fun e w2 k => ⟨k.1, hb.trans (k.2.mono hb.size)⟩)
  have C4 : Hid (∀ w', Below W.heap.size W w' → Calls Try.prog 14 #[.agg #[.slice (some ⟨bC, 0, none⟩) 2 2]] w' fun e w2 => e = .returned (.int .i64 1) ∧ Below W.heap.size W w2) := hide (fun w' hb => (aw_Edges (hA0.later hb)).mono fun e w2 k => ⟨k.1, hb.trans (k.2.mono hb.size)⟩)
  have HL1 : Hid (∀ w', Below W.heap.size W w' → w'.cell? ⟨bL, 1, none⟩ = some (.slice (some ⟨bC, 0, none⟩) 2 2)) := hide (fun w' hb => cell_of_row w' _ 1 _ _ _ (hA0.later hb).hL)
  have HB0 := hide hb0
  have HW0 := hide ((((Below.refl _ W).alloc (Nat.le_refl _) (.cells #[.int .i64 2] 3)).alloc (by simp) (.cells #[.slice (some ⟨W.heap.size, 0, none⟩) 1 1] 35)))
  clear hb0 hA0 hs
  refine (C1.out _ _ W.heap.size HW0.out ?_ ?_).mono ?_
  · go_simp
  · go_simp
  rintro e w2 ⟨rfl, hb2⟩
  have hs2 := hb2.size
  have HB2 := hide hb2
  have HW2 := hide ((hb2.alloc hb2.size (.cells #[.int .i64 2] 3)).alloc (by simp; omega) (.cells #[.slice (some ⟨w2.heap.size, 0, none⟩) 1 1] 35))
  clear hb2
  go_wp2_with fail
  refine (C2.out _ _ w2.heap.size HW2.out ?_ ?_).mono ?_
  · go_simp
  · go_simp
  rintro e w3 ⟨a3, c3, rfl, hb3⟩
  have HB3 := hide hb3
  clear hb3 hs2
  go_wp2_with (go_at_call 15; (with_reducible refine (C3.out _ HB3.out).mono ?_); rintro e w4 ⟨rfl, hb4⟩; have HB4 := hide hb4; have hl4 := HL1.out _ hb4; clear hb4)
  refine (C4.out _ HB4.out).mono ?_
  rintro e w5 ⟨rfl, hb5⟩
  have HB5 := hide hb5
  clear hb5
  go_wp2_with fail
  go_ret
  exact ⟨rfl, HB0.out.trans (HB5.out.mono HB0.out.size)⟩
end Go.Proofs.Ytedpppkknmeheaa
