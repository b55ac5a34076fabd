/-
  A pile beside a block of the caller's: the pile's calls leave it alone. No condition.
-/
import Derived.Test.YtlakffjodlandaaPile8
namespace Go.Proofs.Ytlakffjodlandaa
open Go.RowKit

/-- A pile's own blocks bear its own types. -/
theorem PileM.types {w : World} {g : Nat} {t : Int} {xs : List It} (p : PileM w g t xs) {k : Nat} (h : Of w g k) : ∃ c e, w.heap[k]? = some (.cells c e (0, 0)) ∧ (e = 56 ∨ e = 60) := by
  obtain ⟨A, cap, hg, _, hr⟩ := p
  rcases h with rfl | ⟨n, c, hk⟩
  · exact ⟨_, _, hg, .inl rfl⟩
  · rw [cell_of_row w g 0 _ _ (0, 0) hg] at hk
    rcases hr with ⟨rfl, _, _⟩ | ⟨h, rfl, _, cur, hh, _⟩
    · simp at hk
    · have e : h = k := slice_block hk
      subst e
      exact ⟨cur, _, hh, .inr rfl⟩
/-- A block of another type is none of a pile's. -/
theorem PileM.other {w : World} {g k e : Nat} {t : Int} {xs : List It} {c : Array Value} (p : PileM w g t xs) (hk : w.heap[k]? = some (.cells c e (0, 0))) (h1 : e ≠ 56) (h2 : e ≠ 60) : ¬ Of w g k := by
  intro h
  obtain ⟨c', e', h3, h4⟩ := p.types h
  rw [hk] at h3
  injection h3 with h3
  injection h3 with _ h5
  rcases h4 with h4 | h4
  · exact h1 (h5.trans h4)
  · exact h2 (h5.trans h4)

/-- A block of integers: its numbers. -/
def IntsM (w : World) (g e n : Nat) (f : Nat → Int) : Prop := ∃ c : Array Value, w.heap[g]? = some (.cells c e (0, 0)) ∧ c.size = n ∧ ∀ i, i < n → c[i]? = some (.int .i64 (f i))
section
variable {w w' : World} {g e n : Nat} {f : Nat → Int}
theorem IntsM.cell (h : IntsM w g e n f) {i : Nat} (hi : i < n) : w.cell? ⟨g, i, none⟩ = some (.int .i64 (f i)) := by
  obtain ⟨c, hc, _, hx⟩ := h
  rw [cell_of_row w g i c _ (0, 0) hc]; exact hx i hi
theorem IntsM.frozen (h : IntsM w g e n f) (i : Nat) : w.frozen? ⟨g, i, none⟩ = false := by
  obtain ⟨c, hc, _⟩ := h
  simp [World.frozen?, hc]
theorem IntsM.lt (h : IntsM w g e n f) : g < w.heap.size := by
  obtain ⟨c, hc, _⟩ := h
  rcases Nat.lt_or_ge g w.heap.size with hlt | hge
  · exact hlt
  · rw [Array.getElem?_eq_none hge] at hc; cases hc
theorem IntsM.keep (h : IntsM w g e n f) (hb : w'.heap[g]? = w.heap[g]?) : IntsM w' g e n f := by
  obtain ⟨c, hc, rest⟩ := h
  exact ⟨c, hb.trans hc, rest⟩
theorem IntsM.set (h : IntsM w g e n f) (i : Nat) (v : Int) : IntsM (w.setCell ⟨g, i, none⟩ (.int .i64 v)) g e n (fun k => if k = i then v else f k) := by
  obtain ⟨c, hc, hs, hx⟩ := h
  refine ⟨_, heap_set _ _ _ _ _ _ hc, by simpa using hs, fun k hk => ?_⟩
  by_cases hki : k = i
  · subst hki; simp [show k < c.size by omega]
  · simp [Ne.symm hki, hki, hx k hk]
theorem IntsM.other {t : Int} {q : Nat} {xs : List It} (h : IntsM w g e n f) (p : PileM w q t xs) (h1 : e ≠ 56) (h2 : e ≠ 60) (ho : Only (Of w q) w w') : IntsM w' g e n f := by
  obtain ⟨c, hc, rest⟩ := h
  exact ⟨c, (ho.block g (IntsM.lt ⟨c, hc, rest⟩) (p.other hc h1 h2)).trans hc, rest⟩
end

theorem Mine.setOther {B : Nat} {w : World} {g q e n i : Nat} {t : Int} {xs : List It} {f : Nat → Int} (m : Mine B w g t xs) (h : IntsM w q e n f) (h1 : e ≠ 56) (h2 : e ≠ 60) (v : Value) : Mine B (w.setCell ⟨q, i, none⟩ v) g t xs := by
  obtain ⟨c, hc, _⟩ := h
  have hno := m.1.1.other hc h1 h2
  have hk : ∀ k, Of w g k → (w.setCell ⟨q, i, none⟩ v).heap[k]? = w.heap[k]? := fun k hk => Below.heap_setCell _ _ _ _ (fun e => hno (by rw [← show k = q from e]; exact hk))
  refine ⟨⟨m.1.1.keep fun k _ ho => hk k ho, m.1.2⟩, fun k ho => m.2 k ?_⟩
  exact (Of.keep (hk g (.inl rfl)) k).1 ho

theorem mpushO (B g : Nat) (t : Int) (xs : List It) (id rank : Int) (w : World) (m : Mine B w g t xs) (hB : B ≤ w.heap.size) (hm : xs.length ≤ 549755813888) (ht0 : 0 ≤ t) (ht : t ≤ 549755813888) :
    Calls Try.prog 11 #[.pointer (some ⟨g, 0, none⟩), .int .i64 id, .int .i64 rank] w fun e w' => e = .returned (.tuple #[]) ∧
      ∃ ys, Mine B w' g (t + 1) ys ∧ Below B w w' ∧ ys.Perm (xs ++ [⟨id, rank, t⟩]) ∧ Only (Of w g) w w' :=
  (push_any g t xs id rank w m.1 hm ht0 ht).mono fun _ _ ⟨he, ys, h1, h2⟩ => ⟨he, ys, (m.turned hB h1).1, (m.turned hB h1).2, h2, h1.2.1⟩
theorem mpopO (B g : Nat) (t : Int) (xs : List It) (w : World) (m : Mine B w g t xs) (hB : B ≤ w.heap.size) (h0 : 0 < xs.length) (hm : xs.length ≤ 549755813888) :
    Calls Try.prog 12 #[.pointer (some ⟨g, 0, none⟩)] w fun e w' => ∃ x, e = .returned (.tuple #[.int .i64 x.id, .int .i64 x.rank, .bool true]) ∧
      ∃ ys, Mine B w' g t ys ∧ Below B w w' ∧ (x :: ys).Perm xs ∧ (∀ y ∈ xs, Bf x y) ∧ Only (Of w g) w w' :=
  (pop_some g t xs w m.1 h0 hm).mono fun _ _ ⟨he, ys, h1, h2⟩ => ⟨_, he, ys, (m.turned hB h1).1, (m.turned hB h1).2, h2, fun y hy => by
    obtain ⟨k, hk, rfl⟩ := List.getElem_of_mem hy
    have := heap_first m.1.2 k hk
    rwa [fn_get xs k hk] at this, h1.2.1⟩
end Go.Proofs.Ytlakffjodlandaa
