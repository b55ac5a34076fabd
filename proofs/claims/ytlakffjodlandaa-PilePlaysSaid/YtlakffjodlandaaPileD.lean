/-
  Two piles side by side; a block of bools beside them. No condition.
-/
import Derived.Test.YtlakffjodlandaaPileC
namespace Go.Proofs.Ytlakffjodlandaa
open Go.RowKit

def Two (B : Nat) (w : World) (p q : Nat) (t u : Int) (xs ys : List It) : Prop :=
  Pl w p t xs ∧ Pl w q u ys ∧ (∀ k, Of w p k → B ≤ k) ∧ (∀ k, Of w q k → B ≤ k) ∧ ∀ k, Of w p k → ¬ Of w q k
theorem PileM.of_lt {w : World} {g : Nat} {t : Int} {xs : List It} (p : PileM w g t xs) {k : Nat} (h : Of w g k) : k < w.heap.size := by
  obtain ⟨c, e, hc, _⟩ := p.types h
  rcases Nat.lt_or_ge k w.heap.size with hlt | hge
  · exact hlt
  · rw [Array.getElem?_eq_none hge] at hc; cases hc
theorem Pl.far {w w' : World} {p q : Nat} {u : Int} {ys : List It} (h : Pl w q u ys) (ho : Only (Of w p) w w') (hd : ∀ k, Of w p k → ¬ Of w q k) : Pl w' q u ys ∧ ∀ k, Of w' q k ↔ Of w q k := by
  have hk : ∀ k, k < w.heap.size → Of w q k → w'.heap[k]? = w.heap[k]? := fun k hlt hq => ho.block k hlt fun hp => hd k hp hq
  exact ⟨⟨h.1.keep hk, h.2⟩, fun k => Of.keep (hk q h.1.lt (.inl rfl)) k⟩
theorem Two.left {B : Nat} {w w' : World} {p q : Nat} {t u t' : Int} {xs ys xs' : List It} (h : Two B w p q t u xs ys) (hB : B ≤ w.heap.size) (ht : Turned w p w' t' xs') : Two B w' p q t' u xs' ys ∧ Below B w w' := by
  obtain ⟨h1, h2, h3, h4, h5⟩ := h
  obtain ⟨k1, k2⟩ := h2.far ht.2.1 h5
  refine ⟨⟨ht.1, k1, fun k hk => (ht.2.2 k hk).elim (h3 k) (by omega), fun k hk => h4 k ((k2 k).1 hk), fun k hk hq => ?_⟩, ht.2.1.below hB h3⟩
  rcases ht.2.2 k hk with h | h
  · exact h5 k h ((k2 k).1 hq)
  · have := h2.1.of_lt ((k2 k).1 hq); omega
theorem Two.right {B : Nat} {w w' : World} {p q : Nat} {t u u' : Int} {xs ys ys' : List It} (h : Two B w p q t u xs ys) (hB : B ≤ w.heap.size) (ht : Turned w q w' u' ys') : Two B w' p q t u' xs ys' ∧ Below B w w' := by
  obtain ⟨h1, h2, h3, h4, h5⟩ := h
  have hs : Two B w q p u t ys xs := ⟨h2, h1, h4, h3, fun k a b => h5 k b a⟩
  obtain ⟨⟨g1, g2, g3, g4, g5⟩, hb⟩ := hs.left hB ht
  exact ⟨⟨g2, g1, g4, g3, fun k a b => g5 k b a⟩, hb⟩
theorem Two.keep {B : Nat} {w w' : World} {p q : Nat} {t u : Int} {xs ys : List It} (h : Two B w p q t u xs ys) (hk : ∀ k, k < w.heap.size → Of w p k ∨ Of w q k → w'.heap[k]? = w.heap[k]?) : Two B w' p q t u xs ys := by
  obtain ⟨h1, h2, h3, h4, h5⟩ := h
  have e1 : ∀ k, Of w' p k ↔ Of w p k := fun k => Of.keep (hk p h1.1.lt (.inl (.inl rfl))) k
  have e2 : ∀ k, Of w' q k ↔ Of w q k := fun k => Of.keep (hk q h2.1.lt (.inr (.inl rfl))) k
  exact ⟨⟨h1.1.keep fun k a b => hk k a (.inl b), h1.2⟩, ⟨h2.1.keep fun k a b => hk k a (.inr b), h2.2⟩, fun k a => h3 k ((e1 k).1 a), fun k a => h4 k ((e2 k).1 a), fun k a b => h5 k ((e1 k).1 a) ((e2 k).1 b)⟩
theorem Two.drewN {B : Nat} {w : World} {p q : Nat} {t u : Int} {xs ys : List It} (h : Two B w p q t u xs ys) (n : Nat) : Two B (w.drewN n) p q t u xs ys := h.keep fun _ _ _ => rfl
theorem Two.below {B : Nat} {w w' : World} {p q : Nat} {t u : Int} {xs ys : List It} (h : Two B w p q t u xs ys) (hb : Below w.heap.size w w') : Two B w' p q t u xs ys := h.keep fun k hk _ => hb.block k hk
theorem two_new {B : Nat} {w : World} (hB : B ≤ w.heap.size) :
    Two B ((w.alloc (.cells #[.slice none 0 0, .int .i64 0] 56)).alloc (.cells #[.slice none 0 0, .int .i64 0] 56)) w.heap.size (w.heap.size + 1) 0 0 [] [] := by
  have a := (mine_new (B := B) hB).below ((Below.refl _ _).alloc (Nat.le_refl _) (.cells #[.slice none 0 0, .int .i64 0] 56))
  have b := mine_new (B := B) (w := w.alloc (.cells #[.slice none 0 0, .int .i64 0] 56)) (by simp; omega)
  have e : (w.alloc (.cells #[.slice none 0 0, .int .i64 0] 56)).heap.size = w.heap.size + 1 := by simp
  rw [e] at b
  refine ⟨a.1, b.1, a.2, b.2, fun k h1 h2 => ?_⟩
  have none_of : ∀ g, (∀ n c h, ((w.alloc (.cells #[.slice none 0 0, .int .i64 0] 56)).alloc (.cells #[.slice none 0 0, .int .i64 0] 56)).cell? ⟨g, 0, none⟩ ≠ some (.slice (some ⟨h, 0, none⟩) n c)) → Of ((w.alloc (.cells #[.slice none 0 0, .int .i64 0] 56)).alloc (.cells #[.slice none 0 0, .int .i64 0] 56)) g k → k = g := by
    intro g hg h
    rcases h with h | ⟨n, c, h⟩
    · exact h
    · exact absurd h (hg n c k)
  have k1 := none_of w.heap.size (fun n c h => by simp) h1
  have k2 := none_of (w.heap.size + 1) (fun n c h => by
    have := World.cell?_alloc_new (w.alloc (.cells #[.slice none 0 0, .int .i64 0] 56)) #[.slice none 0 0, .int .i64 0] 56 0
    rw [e] at this
    rw [this]; simp) h2
  omega

/-- A block of bools. -/
def BoolsM (w : World) (g e n : Nat) (f : Nat → Bool) : Prop := ∃ c : Array Value, w.heap[g]? = some (.cells c e (0, 0)) ∧ c.size = n ∧ ∀ i, i < n → c[i]? = some (.bool (f i))
section
variable {w w' : World} {g e n : Nat} {f : Nat → Bool}
theorem BoolsM.cell (h : BoolsM w g e n f) {i : Nat} (hi : i < n) : w.cell? ⟨g, i, none⟩ = some (.bool (f i)) := by
  obtain ⟨c, hc, _, hx⟩ := h
  rw [cell_of_row w g i c _ (0, 0) hc]; exact hx i hi
theorem BoolsM.frozen (h : BoolsM w g e n f) (i : Nat) : w.frozen? ⟨g, i, none⟩ = false := by
  obtain ⟨c, hc, _⟩ := h
  simp [World.frozen?, hc]
theorem BoolsM.lt (h : BoolsM w g e n f) : g < w.heap.size := by
  obtain ⟨c, hc, _⟩ := h
  rcases Nat.lt_or_ge g w.heap.size with hlt | hge
  · exact hlt
  · rw [Array.getElem?_eq_none hge] at hc; cases hc
theorem BoolsM.keep (h : BoolsM w g e n f) (hb : w'.heap[g]? = w.heap[g]?) : BoolsM w' g e n f := by
  obtain ⟨c, hc, rest⟩ := h
  exact ⟨c, hb.trans hc, rest⟩
theorem BoolsM.set (h : BoolsM w g e n f) (i : Nat) (v : Bool) : BoolsM (w.setCell ⟨g, i, none⟩ (.bool v)) g e n (fun k => if k = i then v else f k) := by
  obtain ⟨c, hc, hs, hx⟩ := h
  refine ⟨_, heap_set _ _ _ _ _ _ hc, by simpa using hs, fun k hk => ?_⟩
  by_cases hki : k = i
  · subst hki; simp [show k < c.size by omega]
  · simp [Ne.symm hki, hki, hx k hk]
theorem BoolsM.other {t : Int} {q : Nat} {xs : List It} (h : BoolsM w g e n f) (p : PileM w q t xs) (h1 : e ≠ 56) (h2 : e ≠ 60) (ho : Only (Of w q) w w') : BoolsM w' g e n f := by
  obtain ⟨c, hc, rest⟩ := h
  exact ⟨c, (ho.block g (BoolsM.lt ⟨c, hc, rest⟩) (p.other hc h1 h2)).trans hc, rest⟩
theorem Two.setBool {B : Nat} {p q i : Nat} {t u : Int} {xs ys : List It} (m : Two B w p q t u xs ys) (h : BoolsM w g e n f) (h1 : e ≠ 56) (h2 : e ≠ 60) (v : Value) : Two B (w.setCell ⟨g, i, none⟩ v) p q t u xs ys := by
  obtain ⟨c, hc, _⟩ := h
  refine m.keep fun k _ ho => Below.heap_setCell _ _ _ _ (fun e => ?_)
  rcases ho with ho | ho
  · exact m.1.1.other hc h1 h2 (by rw [← show k = g from e]; exact ho)
  · exact m.2.1.1.other hc h1 h2 (by rw [← show k = g from e]; exact ho)
end

def prs (x : It) : Int × Int := (x.id, x.rank)
/-- The best of two piles that hold the same: it is the same. -/
theorem best_same {xs ys : List It} {x y : It} (h : (xs.map prs).Perm (ys.map prs)) (hx : x ∈ xs) (hy : y ∈ ys) (bx : ∀ z ∈ xs, Bf x z) (by_ : ∀ z ∈ ys, Bf y z) : x.id = y.id ∧ x.rank = y.rank := by
  have h1 := h.subset (List.mem_map_of_mem hx)
  have h2 := h.symm.subset (List.mem_map_of_mem hy)
  obtain ⟨y', hy', e1⟩ := List.mem_map.1 h1
  obtain ⟨x', hx', e2⟩ := List.mem_map.1 h2
  have i1 : y'.id = x.id := congrArg Prod.fst e1
  have r1 : y'.rank = x.rank := congrArg Prod.snd e1
  have i2 : x'.id = y.id := congrArg Prod.fst e2
  have r2 : x'.rank = y.rank := congrArg Prod.snd e2
  have b1 := (bf_iff _ _).1 (by_ y' hy')
  have b2 := (bf_iff _ _).1 (bx x' hx')
  omega
theorem rest_same {xs ys xs' ys' : List It} {x y : It} (h : (xs.map prs).Perm (ys.map prs)) (hx : (x :: xs').Perm xs) (hy : (y :: ys').Perm ys) (e : x.id = y.id ∧ x.rank = y.rank) : (xs'.map prs).Perm (ys'.map prs) := by
  have h1 := ((hx.map prs).trans h).trans (hy.map prs).symm
  rw [List.map_cons, List.map_cons, show prs x = prs y from Prod.ext e.1 e.2] at h1
  exact h1.cons_inv
theorem kept_prs (id : Int) (xs : List It) : (kept id xs).map prs = (xs.map prs).filter fun p => p.1 != id := by
  unfold kept
  rw [List.filter_map]
  rfl
end Go.Proofs.Ytlakffjodlandaa
