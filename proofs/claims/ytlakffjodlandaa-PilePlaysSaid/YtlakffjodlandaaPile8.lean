/-
  The contract of awake: it returns true, and writes nothing that was there. No condition.
-/
import Derived.Test.YtlakffjodlandaaPile7
namespace Go.Proofs.Ytlakffjodlandaa
open Go.RowKit

/-- A pile of the call's own: its blocks are new. -/
def Mine (B : Nat) (w : World) (g : Nat) (t : Int) (xs : List It) : Prop := Pl w g t xs ∧ (∀ k, Of w g k → B ≤ k)
theorem Mine.turned {B : Nat} {w w' : World} {g : Nat} {t t' : Int} {xs ys : List It} (m : Mine B w g t xs) (hB : B ≤ w.heap.size) (h : Turned w g w' t' ys) : Mine B w' g t' ys ∧ Below B w w' :=
  ⟨⟨h.1, fun k hk => (h.2.2 k hk).elim (m.2 k) (fun h => by omega)⟩, h.2.1.below hB m.2⟩
theorem mine_new {B : Nat} {w : World} (hB : B ≤ w.heap.size) : Mine B (w.alloc (.cells #[.slice none 0 0, .int .i64 0] 56)) w.heap.size 0 [] := by
  refine ⟨pl_new w, ?_⟩
  rintro k (rfl | ⟨n, c, h⟩)
  · exact hB
  · rw [World.cell?_alloc_new] at h
    simp at h
theorem Mine.drewN {B : Nat} {w : World} {g : Nat} {t : Int} {xs : List It} (m : Mine B w g t xs) (n : Nat) : Mine B (w.drewN n) g t xs := ⟨⟨m.1.1.drewN n, m.1.2⟩, m.2⟩
theorem Mine.below {B : Nat} {w w' : World} {g : Nat} {t : Int} {xs : List It} (m : Mine B w g t xs) (hb : Below w.heap.size w w') : Mine B w' g t xs := by
  refine ⟨⟨m.1.1.below hb, m.1.2⟩, fun k hk => m.2 k ?_⟩
  exact (Of.keep (hb.block g m.1.1.lt) k).1 hk

theorem mpush (B g : Nat) (t : Int) (xs : List It) (id rank : Int) (w : World) (m : Mine B w g t xs) (hB : B ≤ w.heap.size) (hm : xs.length ≤ 549755813888) (ht0 : 0 ≤ t) (ht : t ≤ 549755813888) :
    Calls Try.prog 11 #[.pointer (some ⟨g, 0, none⟩), .int .i64 id, .int .i64 rank] w fun e w' => e = .returned (.tuple #[]) ∧
      ∃ ys, Mine B w' g (t + 1) ys ∧ Below B w w' ∧ ys.Perm (xs ++ [⟨id, rank, t⟩]) :=
  (push_any g t xs id rank w m.1 hm ht0 ht).mono fun _ _ ⟨he, ys, h1, h2⟩ => ⟨he, ys, (m.turned hB h1).1, (m.turned hB h1).2, h2⟩
theorem mpop (B g : Nat) (t : Int) (xs : List It) (w : World) (m : Mine B w g t xs) (hB : B ≤ w.heap.size) (h0 : 0 < xs.length) (hm : xs.length ≤ 549755813888) :
    Calls Try.prog 12 #[.pointer (some ⟨g, 0, none⟩)] w fun e w' => ∃ x, e = .returned (.tuple #[.int .i64 x.id, .int .i64 x.rank, .bool true]) ∧
      ∃ ys, Mine B w' g t ys ∧ Below B w w' ∧ (x :: ys).Perm xs ∧ ∀ y ∈ xs, Bf x y :=
  (pop_some g t xs w m.1 h0 hm).mono fun _ _ ⟨he, ys, h1, h2⟩ => ⟨_, he, ys, (m.turned hB h1).1, (m.turned hB h1).2, h2, fun y hy => by
    obtain ⟨k, hk, rfl⟩ := List.getElem_of_mem hy
    have := heap_first m.1.2 k hk
    rwa [fn_get xs k hk] at this⟩

set_option maxHeartbeats 2000000 in
theorem awake_any (w : World) : Calls Try.prog 9 #[] w fun e w' => e = .returned (.bool true) ∧ Below w.heap.size w w' := by
  go_enter Try.func9, Try.ntmps9
  go_wp2_with fail
  refine (new_any w).mono ?_
  rintro e w1 ⟨rfl, rfl⟩
  go_wp2_with fail
  refine (mpush w.heap.size w.heap.size 0 [] 1 5 _ (mine_new (Nat.le_refl _)) (by simp) (by simp) (by omega) (by omega)).mono ?_
  rintro e w2 ⟨rfl, y2, m2, b2, p2⟩
  have B2 := hide (((Below.refl w.heap.size w).alloc (Nat.le_refl _) _).trans b2)
  have M2 := hide m2
  have P2 := hide p2
  clear m2 b2 p2
  go_wp2_with fail
  refine (mpush w.heap.size w.heap.size _ y2 3 9 _ M2.out B2.out.size (by rw [P2.out.length_eq]; simp) (by omega) (by omega)).mono ?_
  rintro e w3 ⟨rfl, y3, m3, b3, p3⟩
  have B3 := hide (B2.out.trans b3)
  have M3 := hide m3
  have P3 := hide (p3.trans (P2.out.append_right _))
  clear m3 b3 p3 B2 M2 P2
  go_wp2_with fail
  refine (mpush w.heap.size w.heap.size _ y3 2 9 _ M3.out B3.out.size (by rw [P3.out.length_eq]; simp) (by omega) (by omega)).mono ?_
  rintro e w4 ⟨rfl, y4, m4, b4, p4⟩
  have B4 := hide (B3.out.trans b4)
  have M4 := hide m4
  have P4 := hide (p4.trans (P3.out.append_right _))
  clear m4 b4 p4 B3 M3 P3
  go_wp2_with fail
  refine (mpop w.heap.size w.heap.size _ y4 _ M4.out B4.out.size (by rw [P4.out.length_eq]; simp) (by rw [P4.out.length_eq]; simp)).mono ?_
  rintro e w5 ⟨x, rfl, y5, m5, b5, p5, hx⟩
  have hxx : x.id = 2 ∧ x.rank = 9 := by
    have hmem := p5.subset (List.mem_cons_self ..)
    have h1 := hx ⟨2, 9, 0 + 1 + 1⟩ (P4.out.mem_iff.2 (by simp))
    have h2 := P4.out.subset hmem
    simp at h2
    rw [bf_iff] at h1
    rcases h2 with rfl | rfl | rfl <;> simp at h1 ⊢
  have hlen : y5.length = 2 := by
    have h1 := p5.length_eq
    rw [P4.out.length_eq] at h1
    simpa using h1
  obtain ⟨xid, xrank, xat⟩ := x
  obtain ⟨rfl, rfl⟩ := hxx
  have B5 := hide (B4.out.trans b5)
  have C := hide (plen_any w.heap.size _ y5 w5 m5.1.1)
  rw [hlen] at C
  clear hx p5 m5 b5 hlen
  go_wp2_with (go_at_call 13; (with_reducible refine C.out.mono ?_); rintro e w6 ⟨rfl, rfl⟩)
  go_ret
  exact ⟨rfl, B5.out⟩
end Go.Proofs.Ytlakffjodlandaa
