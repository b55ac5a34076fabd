/-
  The row of a pile in memory; container/heap's up, over it. No condition.
-/
import Derived.Test.YtlakffjodlandaaPile1
import Derived.Test.YtlakffjodlandaaMeth
import Derived.Laws.Rows
namespace Go.Proofs.Ytlakffjodlandaa
open Go.RowKit

/-- A world that has turned in the blocks of S alone, and grown. -/
structure Only (S : Nat → Prop) (w w' : World) : Prop where
  os : w'.os = w.os
  tape : w'.tape = w.tape
  output : w'.output = w.output
  size : w.heap.size ≤ w'.heap.size
  block : ∀ k, k < w.heap.size → ¬ S k → w'.heap[k]? = w.heap[k]?
theorem Only.refl (S : Nat → Prop) (w : World) : Only S w w := ⟨rfl, rfl, rfl, Nat.le_refl _, fun _ _ _ => rfl⟩
theorem Only.trans {S : Nat → Prop} {a b c : World} (h : Only S a b) (k : Only S b c) : Only S a c :=
  ⟨k.os.trans h.os, k.tape.trans h.tape, k.output.trans h.output, Nat.le_trans h.size k.size, fun i hi hs => (k.block i (Nat.lt_of_lt_of_le hi h.size) hs).trans (h.block i hi hs)⟩
theorem Only.mono {S T : Nat → Prop} {a b : World} (h : Only S a b) (hst : ∀ k, k < a.heap.size → S k → T k) : Only T a b :=
  ⟨h.os, h.tape, h.output, h.size, fun i hi hs => h.block i hi fun h' => hs (hst i hi h')⟩
theorem Only.of_below {S : Nat → Prop} {a b : World} (h : Below a.heap.size a b) : Only S a b := ⟨h.os, h.tape, h.output, h.size, fun i hi _ => h.block i hi⟩
theorem Only.drew {S : Nat → Prop} {a b : World} (h : Only S a b) : Only S a b.drew := ⟨h.os, h.tape, h.output, h.size, h.block⟩
theorem Only.drewN {S : Nat → Prop} {a b : World} (h : Only S a b) (n : Nat) : Only S a (b.drewN n) := ⟨h.os, h.tape, h.output, h.size, h.block⟩
theorem Only.setCell {S : Nat → Prop} {a b : World} (h : Only S a b) {p : Addr} (hp : S p.block ∨ a.heap.size ≤ p.block) (u : Value) : Only S a (b.setCell p u) :=
  ⟨h.os, h.tape, h.output, by simpa [World.setCell] using h.size, fun i hi hs => (Below.heap_setCell b p u i (by
    rintro rfl
    rcases hp with hp | hp
    · exact hs hp
    · omega)).trans (h.block i hi hs)⟩
theorem Only.alloc {S : Nat → Prop} {a b : World} (h : Only S a b) (o : Obj) : Only S a (b.alloc o) :=
  ⟨h.os, h.tape, h.output, Nat.le_trans h.size (by simp), fun i hi hs => (Below.heap_alloc b o i (Nat.lt_of_lt_of_le hi h.size)).trans (h.block i hi hs)⟩
theorem Only.below {S : Nat → Prop} {B : Nat} {a b : World} (h : Only S a b) (hB : B ≤ a.heap.size) (hs : ∀ k, S k → B ≤ k) : Below B a b :=
  ⟨h.os, h.tape, h.output, h.size, fun k hk => h.block k (by omega) fun hS => by have := hs k hS; omega⟩
theorem Only.cell {S : Nat → Prop} {a b : World} (h : Only S a b) {p : Addr} {v : Value} (hc : a.cell? p = some v) (hs : ¬ S p.block) : b.cell? p = some v :=
  (World.cell?_of_block (h.block p.block (World.block_lt_of_cell? a p hc) hs)).trans hc

/-- The row in block h: its items. -/
def RowM (w : World) (h cap : Nat) (xs : List It) : Prop :=
  ∃ cur : Array Value, w.heap[h]? = some (.cells cur 60 (0, 0)) ∧ cur.size = cap * 3 ∧ xs.length ≤ cap ∧
    ∀ k, k < xs.length → cur[k * 3]? = some (.int .i64 (fn xs k).id) ∧ cur[k * 3 + 1]? = some (.int .i64 (fn xs k).rank) ∧ cur[k * 3 + 2]? = some (.int .i64 (fn xs k).at_)

section
variable {w w' : World} {h cap : Nat} {xs : List It}
theorem RowM.lt (r : RowM w h cap xs) : h < w.heap.size := by
  obtain ⟨cur, hc, _⟩ := r
  rcases Nat.lt_or_ge h w.heap.size with hlt | hge
  · exact hlt
  · rw [Array.getElem?_eq_none hge] at hc; cases hc
theorem RowM.at_ (r : RowM w h cap xs) {k : Nat} (hk : k < xs.length) : At w h k (fn xs k) := by
  obtain ⟨cur, hc, _, _, hx⟩ := r
  obtain ⟨h1, h2, h3⟩ := hx k hk
  exact ⟨by rw [cell_of_row w h _ cur _ (0, 0) hc]; exact h1, by rw [cell_of_row w h _ cur _ (0, 0) hc]; exact h2, by rw [cell_of_row w h _ cur _ (0, 0) hc]; exact h3⟩
theorem RowM.frozen (r : RowM w h cap xs) (k : Nat) : w.frozen? ⟨h, k, none⟩ = false := by
  obtain ⟨cur, hc, _⟩ := r
  simp [World.frozen?, hc]
theorem RowM.keep (r : RowM w h cap xs) (hb : w'.heap[h]? = w.heap[h]?) : RowM w' h cap xs := by
  obtain ⟨cur, hc, rest⟩ := r
  exact ⟨cur, hb.trans hc, rest⟩
theorem RowM.below (r : RowM w h cap xs) (hb : Below w.heap.size w w') : RowM w' h cap xs := r.keep (hb.block h r.lt)
theorem RowM.drew (r : RowM w h cap xs) : RowM w.drew h cap xs := r.keep rfl
theorem RowM.drewN (r : RowM w h cap xs) (n : Nat) : RowM (w.drewN n) h cap xs := r.keep rfl
theorem heap_set (w : World) (h k : Nat) (v : Value) (cur : Array Value) (t : TypeId) (hc : w.heap[h]? = some (.cells cur t (0, 0))) :
    (w.setCell ⟨h, k, none⟩ v).heap[h]? = some (.cells (cur.setIfInBounds k v) t (0, 0)) := by
  simp [World.setCell, Array.getElem?_modify, hc]
theorem RowM.set3 (r : RowM w h cap xs) {k : Nat} (hk : k < xs.length) (x : It) : RowM (set3 w h k x) h cap (xs.set k x) := by
  obtain ⟨cur, hc, hs, hl, hx⟩ := r
  refine ⟨((cur.setIfInBounds (k * 3) (.int .i64 x.id)).setIfInBounds (k * 3 + 1) (.int .i64 x.rank)).setIfInBounds (k * 3 + 2) (.int .i64 x.at_), ?_, by simpa using hs, by simpa using hl, fun i hi => ?_⟩
  · exact heap_set _ _ _ _ _ _ (heap_set _ _ _ _ _ _ (heap_set _ _ _ _ _ _ hc))
  · rw [List.length_set] at hi
    obtain ⟨h1, h2, h3⟩ := hx i hi
    by_cases hik : k = i
    · subst hik
      have e : fn (xs.set k x) k = x := by simp [fn, List.getD, hi]
      have s0 : k * 3 < cur.size := by omega
      have s1 : k * 3 + 1 < cur.size := by omega
      have s2 : k * 3 + 2 < cur.size := by omega
      rw [e]
      simp [s0, s1, s2]
    · have e : fn (xs.set k x) i = fn xs i := by simp [fn, List.getD, hik]
      rw [e]
      have n0 : ∀ a b, a < 3 → b < 3 → k * 3 + a ≠ i * 3 + b := fun a b ha hb => by omega
      simp [show ¬ k * 3 = i * 3 from by omega, show ¬ k * 3 + 1 = i * 3 from by omega, show ¬ k * 3 + 2 = i * 3 from by omega, show ¬ k * 3 = i * 3 + 1 from by omega,
        show ¬ k * 3 + 2 = i * 3 + 1 from by omega, show ¬ k * 3 = i * 3 + 2 from by omega, h1, h2, h3]
theorem only_set3 (S : Nat → Prop) (hS : S h) (w : World) (k : Nat) (x : It) : Only S w (Go.Proofs.Ytlakffjodlandaa.set3 w h k x) :=
  (((Only.refl S w).setCell (.inl hS) _).setCell (.inl hS) _).setCell (.inl hS) _
end

theorem row_info (w : World) : (isAgg 54).run Try.prog w = .ok false w := by have h := Try.isAgg54; simp only [h]
theorem i_less : (Try.prog.info? 58).bind (fun i => (i.methods.find? (·.name == "Less")).map fun m => (m.func, m.path.toList)) = some (some (43, false), []) := by kernel_rfl
theorem i_swap : (Try.prog.info? 58).bind (fun i => (i.methods.find? (·.name == "Swap")).map fun m => (m.func, m.path.toList)) = some (some (44, false), []) := by kernel_rfl
theorem i_len : (Try.prog.info? 58).bind (fun i => (i.methods.find? (·.name == "Len")).map fun m => (m.func, m.path.toList)) = some (some (42, false), []) := by kernel_rfl
theorem i_push : (Try.prog.info? 58).bind (fun i => (i.methods.find? (·.name == "Push")).map fun m => (m.func, m.path.toList)) = some (some (46, true), []) := by kernel_rfl
theorem i_pop : (Try.prog.info? 58).bind (fun i => (i.methods.find? (·.name == "Pop")).map fun m => (m.func, m.path.toList)) = some (some (45, true), []) := by kernel_rfl
theorem m_less {f : Nat} {a : Addr} {v : Value} {W : World} (hf : 0 < f) (hc : W.cell? a = some v) : (method f 58 (.pointer (some a)) "Less").run Try.prog W = .ok (43, v) W :=
  run_method_load hf i_less Try.underlying58 row_info hc
theorem m_swap {f : Nat} {a : Addr} {v : Value} {W : World} (hf : 0 < f) (hc : W.cell? a = some v) : (method f 58 (.pointer (some a)) "Swap").run Try.prog W = .ok (44, v) W :=
  run_method_load hf i_swap Try.underlying58 row_info hc
theorem m_len {f : Nat} {a : Addr} {v : Value} {W : World} (hf : 0 < f) (hc : W.cell? a = some v) : (method f 58 (.pointer (some a)) "Len").run Try.prog W = .ok (42, v) W :=
  run_method_load hf i_len Try.underlying58 row_info hc
theorem m_push {f : Nat} {a : Addr} {W : World} (hf : 0 < f) : (method f 58 (.pointer (some a)) "Push").run Try.prog W = .ok (46, .pointer (some a)) W :=
  run_method_ptr hf i_push Try.underlying58
theorem m_pop {f : Nat} {a : Addr} {W : World} (hf : 0 < f) : (method f 58 (.pointer (some a)) "Pop").run Try.prog W = .ok (45, .pointer (some a)) W :=
  run_method_ptr hf i_pop Try.underlying58

/-- Less, over a row. -/
theorem less_row {h n cap : Nat} {I J : Int} (i j : Nat) {xs : List It} {w : World} (hI : I = i) (hJ : J = j) (r : RowM w h cap xs) (hl : xs.length = n) (hi : i < n) (hj : j < n) (b : Bool) (hb : lessB (fn xs i) (fn xs j) = b) :
    Calls Try.prog 43 #[.slice (some ⟨h, 0, none⟩) n cap, .int .i64 I, .int .i64 J] w fun e w' => e = .returned (.bool b) ∧ Below w.heap.size w w' := by
  subst hb hI hJ
  exact less_any h n cap i j _ _ w hi hj (r.at_ (by omega)) (r.at_ (by omega)) r.lt
/-- Swap, over a row. -/
theorem swap_row {h n cap : Nat} {I J : Int} (i j : Nat) {xs : List It} {w : World} (hI : I = i) (hJ : J = j) (r : RowM w h cap xs) (hl : xs.length = n) (hi : i < n) (hj : j < n) (hij : i ≠ j) :
    Calls Try.prog 44 #[.slice (some ⟨h, 0, none⟩) n cap, .int .i64 I, .int .i64 J] w fun e w' => e = .returned (.tuple #[]) ∧ RowM w' h cap (swl xs i j) ∧ Only (· = h) w w' := by
  subst hI hJ
  refine (swap_any h n cap i j _ _ w hi hj hij (r.at_ (by omega)) (r.at_ (by omega)) r.frozen).mono ?_
  rintro e w' ⟨rfl, rfl⟩
  refine ⟨rfl, ?_, ((only_set3 (· = h) rfl w i _).trans (only_set3 (· = h) rfl _ j _)).drew⟩
  exact ((r.set3 (k := i) (by omega) (fn xs j)).set3 (k := j) (by simp; omega) (fn xs i)).drew
end Go.Proofs.Ytlakffjodlandaa
