/-
  A graph that is built node by node in a variable of the call's own. No condition.
-/
import Derived.Test.YtedpppkknmeheaaGL
namespace Go.Proofs.Ytedpppkknmeheaa
open Go.RowKit

theorem src_row7 (w : World) (cs : Array Value) (t : TypeId) (m c size : Nat) (b : Nat) (hb : b = w.heap.size) (h : cs.toList.length = m * size) : Src (w.alloc (.cells cs t)) (some ⟨b, 0, none⟩) m c size cs.toList := by
  subst hb
  refine ⟨h, .inr ⟨_, rfl, fun j u hj => ?_⟩⟩
  rw [Go.WideShapes.add_plain, Nat.zero_add, World.cell?_alloc_new, ← Array.getElem?_toList]
  exact hj
theorem ndc_one (n : Nd) : ∀ u ∈ ndc n, u.oneCell' = true := by
  intro u hu
  simp [ndc] at hu
  rcases hu with rfl | rfl | rfl | rfl | rfl | rfl | rfl <;> rfl
/-- What the variable's block, and its nodes, look like: the variable lies in block b; its nodes in another one, from base on. -/
structure Inn (base b : Nat) (wr : World) (m : Nat) (cl : List Int) (a : Option Addr) (c : Nat) (NL : List Nd) : Prop where
  g : wr.heap[b]? = some (.cells #[.slice a m c] 34 (0, 0))
  own : wr.ownsRow base 41 7 (.slice a m c) m (ndv NL)
  ne : (Value.slice a m c).ownBlock ≠ some b
  calls : csl NL = cl
  le : base ≤ b
theorem Inn.cell {base b : Nat} {wr : World} {m : Nat} {cl : List Int} {a : Option Addr} {c : Nat} {NL : List Nd} (h : Inn base b wr m cl a c NL) : wr.cell? ⟨b, 0, none⟩ = some (.slice a m c) := cell_of_row wr b 0 _ _ _ h.g
theorem Inn.kept {base b : Nat} {wr w' : World} {m : Nat} {cl : List Int} {a : Option Addr} {c : Nat} {NL : List Nd} {row : Option Nat} (h : Inn base b wr m cl a c NL) (hg : wr.grownBy w' row) (hr : ∀ k, row = some k → k < base) : Inn base b w' m cl a c NL := by
  have hb := (Array.getElem?_eq_some_iff.1 h.g).1
  have hle := h.le
  refine ⟨(hg.block b hb (fun e => ?_)).trans h.g, h.own.kept hg ?_, h.ne, h.calls, h.le⟩
  · have := hr b e.symm
    omega
  · cases hv : (Value.slice a m c).ownBlock with
    | none => exact .inl rfl
    | some k => exact .inr (fun e => by have h1 := (h.own.lt k hv).1; have h2 := hr k e.symm; omega)
theorem csl_add (l : List Nd) (n : Nd) (h : n.op = 16) : csl (l ++ [n]) = csl l ++ [n.no] := by
  unfold csl
  rw [List.filter_append, List.map_append]
  simp [h]
theorem ndv_add (l : List Nd) (n : Nd) : ndv l ++ ndc n = ndv (l ++ [n]) := by
  rw [ndv_append]; simp [ndv]
/-- One node more. -/
theorem Inn.append {base b : Nat} {wr w2 w' : World} {m : Nat} {cl : List Int} {a : Option Addr} {c : Nat} {NL : List Nd} (h : Inn base b wr m cl a c NL) (hw2 : wr.grownBy w2 none) (nd : Nd) (hop : nd.op = 16) {v' : Value}
    (hown : w'.ownsRow base 41 7 v' (m + 1) (ndv NL ++ ndc nd)) (hgr : w2.grownBy w' (Value.slice a m c).ownBlock) (hloc : v'.ownBlock = (Value.slice a m c).ownBlock ∨ v'.ownBlock = some w2.heap.size) :
    ∃ a' c', v' = .slice a' (m + 1) c' ∧ w'.cell? ⟨b, 0, none⟩ = some (.slice a m c) ∧ w'.frozen? ⟨b, 0, none⟩ = false ∧
      Inn base b (w'.setCell ⟨b, 0, none⟩ v') (m + 1) (cl ++ [nd.no]) a' c' (NL ++ [nd]) ∧ (∀ k, k < base → (w'.setCell ⟨b, 0, none⟩ v').heap[k]? = wr.heap[k]?) ∧ wr.heap.size ≤ (w'.setCell ⟨b, 0, none⟩ v').heap.size ∧
      (w'.setCell ⟨b, 0, none⟩ v').os = wr.os ∧ (w'.setCell ⟨b, 0, none⟩ v').tape = wr.tape ∧ (w'.setCell ⟨b, 0, none⟩ v').output = wr.output := by
  have hb := (Array.getElem?_eq_some_iff.1 h.g).1
  have hle := h.le
  have hs2 := hw2.size
  have hs' := hgr.size
  rw [ndv_add] at hown
  obtain ⟨a', c', rfl, _⟩ := ndw_own hown
  have hg2 : w2.heap[b]? = some (.cells #[.slice a m c] 34 (0, 0)) := (hw2.block b hb (by simp)).trans h.g
  have hg' : w'.heap[b]? = some (.cells #[.slice a m c] 34 (0, 0)) := (hgr.block b (by omega) (fun e => h.ne e.symm)).trans hg2
  have hne : (Value.slice a' (m + 1) c').ownBlock ≠ some b := by
    rcases hloc with e | e
    · rw [e]; exact h.ne
    · rw [e]; intro e2; cases e2; omega
  have hset := setCells_grown b [.slice a' (m + 1) c'] 0 w'
  have hold : ∀ k, k < base → (w'.setCell ⟨b, 0, none⟩ (.slice a' (m + 1) c')).heap[k]? = wr.heap[k]? := by
    intro k hk
    have e1 : (w'.setCell ⟨b, 0, none⟩ (.slice a' (m + 1) c')).heap[k]? = w'.heap[k]? := Below.heap_setCell _ _ _ _ (by show k ≠ b; omega)
    rw [e1, hgr.block k (by omega) (fun e => by have := (h.own.lt k e.symm).1; omega), hw2.block k (by omega) (by simp)]
  refine ⟨a', c', rfl, cell_of_row w' b 0 _ _ _ hg', frozen_of_row w' b 0 _ _ hg', ⟨?_, hown.kept hset (.inr hne), hne, by rw [csl_add _ _ hop, h.calls], h.le⟩, hold, ?_, ?_, ?_, ?_⟩
  · simp [World.setCell, Array.getElem?_modify, hg']
  · have := hset.size
    have e2 : w'.heap.size ≤ (w'.setCell ⟨b, 0, none⟩ (.slice a' (m + 1) c')).heap.size := this
    omega
  · exact hset.os.trans (hgr.os.trans hw2.os)
  · exact hset.tape.trans (hgr.tape.trans hw2.tape)
  · exact hset.output.trans (hgr.output.trans hw2.output)
theorem grown_two (w : World) (x y : Obj) : w.grownBy ((w.alloc x).alloc y) none := (World.grownBy_alloc w x none).andThen (World.grownBy_alloc _ y none) (fun _ h => by cases h)
/-- A graph of one leaf, in a variable of its own. -/
theorem Inn.start (w : World) : Inn w.heap.size (w.heap.size + 1) ((w.alloc (.cells #[.int .i64 1, .slice none 0 0, .slice none 0 0, .int .i64 0, .slice none 0 0, .slice none 0 0, .slice none 0 0] 41)).alloc (.cells #[.slice (some ⟨w.heap.size, 0, none⟩) 1 1] 34)) 1 [] (some ⟨w.heap.size, 0, none⟩) 1 [ndL] := by
  obtain ⟨_, h1, h2⟩ := two_new w (.cells #[.int .i64 1, .slice none 0 0, .slice none 0 0, .int .i64 0, .slice none 0 0, .slice none 0 0, .slice none 0 0] 41) (.cells #[.slice (some ⟨w.heap.size, 0, none⟩) 1 1] 34)
  refine ⟨h2, ⟨rfl, .inr ⟨w.heap.size, 1, _, rfl, Nat.le_refl _, h1, Nat.le_refl _, by unfold maxLen; omega, rfl, rfl⟩⟩, by simp [Value.ownBlock], rfl, by omega⟩
/-- A row of slices of the call's own, as something to be appended. -/
theorem src_own {w : World} {base : Nat} {e : TypeId} {v : Value} {n : Nat} {xs : List Value} (h : w.ownsRow base e 1 v n xs) : ∃ a c, v = .slice a n c ∧ Src w a n c 1 xs := by
  rcases h.2 with ⟨rfl, rfl⟩ | ⟨g, cap, cur, rfl, _, hg, hn, _, hs, ht⟩
  · exact ⟨none, 0, rfl, h.1, .inl ⟨rfl, rfl, rfl⟩⟩
  · exact ⟨_, cap, rfl, h.1, .inr ⟨_, rfl, fun j u hj => h.cells (g := g) rfl j u hj⟩⟩
theorem own_new1 (w : World) (base : Nat) (v : Value) (t : TypeId) (hb : base ≤ w.heap.size) : (w.alloc (.cells #[v] t)).ownsRow base t 1 (.slice (some ⟨w.heap.size, 0, none⟩) 1 1) 1 [v] :=
  ⟨rfl, .inr ⟨w.heap.size, 1, #[v], rfl, hb, heap_alloc_new w _, Nat.le_refl _, by unfold maxLen; omega, rfl, rfl⟩⟩
end Go.Proofs.Ytedpppkknmeheaa
