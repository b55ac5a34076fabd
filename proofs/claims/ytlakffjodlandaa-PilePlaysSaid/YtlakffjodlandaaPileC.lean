/-
  A pile of the call's own: every method, in the words of its callers. No condition.
-/
import Derived.Test.YtlakffjodlandaaPileB
import Derived.Test.YtlakffjodlandaaPile9
namespace Go.Proofs.Ytlakffjodlandaa
open Go.RowKit

theorem Turned.of_below {w w' : World} {g : Nat} {t : Int} {xs : List It} (p : Pl w g t xs) (hb : Below w.heap.size w w') : Turned w g w' t xs :=
  ⟨⟨p.1.below hb, p.2⟩, Only.of_below hb, fun k hk => .inl ((Of.keep (hb.block g p.1.lt) k).1 hk)⟩
/-- What a pile says when it is popped, or looked at: nothing; or its best, with its rank. -/
def Said (xs : List It) (e : Ending) : Prop :=
  (xs = [] ∧ e = .returned (.tuple #[.int .i64 0, .int .i64 0, .bool false])) ∨ ∃ x, x ∈ xs ∧ (∀ y ∈ xs, Bf x y) ∧ e = .returned (.tuple #[.int .i64 x.id, .int .i64 x.rank, .bool true])

theorem drop_turned (g : Nat) (t id : Int) (xs : List It) (w : World) (p : Pl w g t xs) (hn : xs.length ≤ 549755813888) :
    Calls Try.prog 17 #[.pointer (some ⟨g, 0, none⟩), .int .i64 id] w fun e w' => ∃ ys, e = .returned (.int .i64 (xs.length - ys.length)) ∧ Turned w g w' t ys ∧ ys.Perm (kept id xs) := by
  by_cases h0 : xs = []
  · subst h0
    exact (drop_none g t id w p.1).mono fun _ _ ⟨he, hb⟩ => ⟨[], he, Turned.of_below p hb, .refl _⟩
  · exact drop_some g t id xs w p (List.length_pos_iff.2 h0) hn
theorem mdrop (B g : Nat) (t id : Int) (xs : List It) (w : World) (m : Mine B w g t xs) (hB : B ≤ w.heap.size) (hn : xs.length ≤ 549755813888) :
    Calls Try.prog 17 #[.pointer (some ⟨g, 0, none⟩), .int .i64 id] w fun e w' => ∃ ys, e = .returned (.int .i64 (xs.length - ys.length)) ∧ Mine B w' g t ys ∧ Below B w w' ∧ ys.Perm (kept id xs) :=
  (drop_turned g t id xs w m.1 hn).mono fun _ _ ⟨ys, he, h1, h2⟩ => ⟨ys, he, (m.turned hB h1).1, (m.turned hB h1).2, h2⟩
theorem mtop (B g : Nat) (t : Int) (xs : List It) (w : World) (m : Mine B w g t xs) (_hB : B ≤ w.heap.size) :
    Calls Try.prog 15 #[.pointer (some ⟨g, 0, none⟩)] w fun e w' => Mine B w' g t xs ∧ Below B w w' ∧ Said xs e := by
  by_cases h0 : xs = []
  · subst h0
    exact (top_none g t w m.1.1).mono fun _ _ ⟨he, hw⟩ => by subst hw; exact ⟨m, Below.refl _ _, .inl ⟨rfl, he⟩⟩
  · have hl := List.length_pos_iff.2 h0
    exact (top_some g t xs w m.1.1 hl).mono fun _ _ ⟨he, n, hw⟩ => by
      subst hw
      refine ⟨m.drewN n, below_drewN (Below.refl _ _) n, .inr ⟨fn xs 0, by rw [fn_get xs 0 hl]; exact List.getElem_mem hl, fun y hy => ?_, he⟩⟩
      obtain ⟨k, hk, rfl⟩ := List.getElem_of_mem hy
      have := heap_first m.1.2 k hk
      rwa [fn_get xs k hk] at this
theorem mpop' (B g : Nat) (t : Int) (xs : List It) (w : World) (m : Mine B w g t xs) (hB : B ≤ w.heap.size) (hm : xs.length ≤ 549755813888) :
    Calls Try.prog 12 #[.pointer (some ⟨g, 0, none⟩)] w fun e w' => ∃ ys, Mine B w' g t ys ∧ Below B w w' ∧
      ((xs = [] ∧ ys = [] ∧ e = .returned (.tuple #[.int .i64 0, .int .i64 0, .bool false])) ∨ ∃ x, (x :: ys).Perm xs ∧ (∀ y ∈ xs, Bf x y) ∧ e = .returned (.tuple #[.int .i64 x.id, .int .i64 x.rank, .bool true])) := by
  by_cases h0 : xs = []
  · subst h0
    exact (pop_none g t w m.1.1).mono fun _ _ ⟨he, hw⟩ => by subst hw; exact ⟨[], m, Below.refl _ _, .inl ⟨rfl, rfl, he⟩⟩
  · exact (mpop B g t xs w m hB (List.length_pos_iff.2 h0) hm).mono fun _ _ ⟨x, he, ys, h1, h2, h3, h4⟩ => ⟨ys, h1, h2, .inr ⟨x, h3, h4, he⟩⟩
end Go.Proofs.Ytlakffjodlandaa
