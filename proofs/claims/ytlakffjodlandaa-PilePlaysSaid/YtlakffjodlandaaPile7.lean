/-
  Package pile's New, Len, Push, Top, Pop by their contracts. No condition.
-/
import Derived.Test.YtlakffjodlandaaPile6
import Derived.StillTailTactics
namespace Go.Proofs.Ytlakffjodlandaa
open Go.RowKit

/-- A pile, as its callers see it: what is in it (in some order), how many were pushed; a heap. -/
def Pl (w : World) (g : Nat) (t : Int) (xs : List It) : Prop := PileM w g t xs ∧ HeapI xs.length (fn xs)

theorem new_any (w : World) : Calls Try.prog 10 #[] w fun e w' => e = .returned (.pointer (some ⟨w.heap.size, 0, none⟩)) ∧ w.alloc (.cells #[.slice none 0 0, .int .i64 0] 56) = w' := by
  go_enter Try.func10, Try.ntmps10
  go_wp2_with fail
  go_ret
  exact ⟨rfl, rfl⟩
theorem pl_new (w : World) : Pl (w.alloc (.cells #[.slice none 0 0, .int .i64 0] 56)) w.heap.size 0 [] :=
  ⟨⟨none, 0, heap_alloc_new w _, Nat.zero_le _, .inl ⟨rfl, rfl, rfl⟩⟩, fun k _ hk => by simp at hk⟩

theorem PileM.slice {w : World} {g : Nat} {t : Int} {xs : List It} (p : PileM w g t xs) : ∃ A cap, w.cell? ⟨g, 0, none⟩ = some (.slice A xs.length cap) ∧ w.cell? ⟨g, 1, none⟩ = some (.int .i64 t) ∧ w.frozen? ⟨g, 1, none⟩ = false := by
  obtain ⟨A, cap, hg, _⟩ := p
  exact ⟨A, cap, by rw [cell_of_row w g 0 _ _ (0, 0) hg]; rfl, by rw [cell_of_row w g 1 _ _ (0, 0) hg]; rfl, by simp [World.frozen?, hg]⟩

theorem plen_any (g : Nat) (t : Int) (xs : List It) (w : World) (p : PileM w g t xs) :
    Calls Try.prog 13 #[.pointer (some ⟨g, 0, none⟩)] w fun e w' => e = .returned (.int .i64 xs.length) ∧ w = w' := by
  obtain ⟨A, cap, h1, _, _⟩ := p.slice
  clear p
  go_enter Try.func13, Try.ntmps13
  go_wp2_with fail
  go_ret
  exact ⟨rfl, rfl⟩

set_option maxHeartbeats 2000000 in
theorem top_some (g : Nat) (t : Int) (xs : List It) (w : World) (p : PileM w g t xs) (h0 : 0 < xs.length) :
    Calls Try.prog 15 #[.pointer (some ⟨g, 0, none⟩)] w fun e w' => e = .returned (.tuple #[.int .i64 (fn xs 0).id, .int .i64 (fn xs 0).rank, .bool true]) ∧ ∃ n, w.drewN n = w' := by
  have C := hide (fun W (q : PileM W g t xs) => plen_any g t xs W q)
  obtain ⟨A, cap, hg, hcap, hr⟩ := p
  have P := hide (show PileM w g t xs from ⟨A, cap, hg, hcap, hr⟩)
  obtain ⟨h, rfl, hng, r⟩ : ∃ h, A = some ⟨h, 0, none⟩ ∧ h ≠ g ∧ RowM w h cap xs := by
    rcases hr with ⟨_, rfl, _⟩ | hr
    · simp at h0
    · exact hr
  have hs : w.cell? ⟨g, 0, none⟩ = some (.slice (some ⟨h, 0, none⟩) xs.length cap) := by rw [cell_of_row w g 0 _ _ (0, 0) hg]; rfl
  obtain ⟨x1, x2, x3⟩ := r.at_ h0
  rw [Nat.zero_mul] at x1 x2 x3
  have hz : ((xs.length : Int) == 0) = false := by rw [beq_eq_false_iff_ne]; omega
  have hi : (0 : Int) < (xs.length : Int) := by omega
  clear hg hcap hr r hng x3
  go_enter Try.func15, Try.ntmps15
  go_wp2_with fail
  refine (C.out _ P.out).mono ?_
  rintro e w' ⟨rfl, rfl⟩
  go_wp2_with fail
  go_quiet (fail)
  go_wp2_with fail
  go_ret3
  exact ⟨rfl, _, rfl⟩
theorem top_none (g : Nat) (t : Int) (w : World) (p : PileM w g t []) :
    Calls Try.prog 15 #[.pointer (some ⟨g, 0, none⟩)] w fun e w' => e = .returned (.tuple #[.int .i64 0, .int .i64 0, .bool false]) ∧ w = w' := by
  have C := hide (plen_any g t [] w p)
  clear p
  go_enter Try.func15, Try.ntmps15
  go_wp2_with fail
  refine C.out.mono ?_
  rintro e w' ⟨rfl, rfl⟩
  go_wp2_with fail
  go_ret3
  exact ⟨rfl, rfl⟩

/-- What happened to a pile: it is ys now, and only its own blocks have turned. -/
def Turned (w : World) (g : Nat) (w' : World) (t' : Int) (ys : List It) : Prop :=
  Pl w' g t' ys ∧ Only (Of w g) w w' ∧ ∀ k, Of w' g k → Of w g k ∨ w.heap.size ≤ k

theorem Only.of_drewN {S : Nat → Prop} {w w' : World} {n : Nat} (h : Only S (w.drewN n) w') : Only S w w' := ⟨h.os, h.tape, h.output, h.size, h.block⟩

set_option maxHeartbeats 2000000 in
theorem pop_some (g : Nat) (t : Int) (xs : List It) (w : World) (p : Pl w g t xs) (h0 : 0 < xs.length) (hm : xs.length ≤ 549755813888) :
    Calls Try.prog 12 #[.pointer (some ⟨g, 0, none⟩)] w fun e w' => e = .returned (.tuple #[.int .i64 (fn xs 0).id, .int .i64 (fn xs 0).rank, .bool true]) ∧
      ∃ ys, Turned w g w' t ys ∧ (fn xs 0 :: ys).Perm xs := by
  have C := hide (top_some g t xs w p.1 h0)
  have D := hide (fun n => heap_pop g (xs.length - 1) t xs (w.drewN n) (p.1.drewN n) p.2 (by omega) (by omega))
  clear p
  go_enter Try.func12, Try.ntmps12
  go_wp2_with fail
  refine C.out.mono ?_
  rintro e w' ⟨rfl, n, rfl⟩
  go_wp2_with fail
  refine (D.out n).mono ?_
  rintro e w1 ⟨rfl, ys, h1, h2, h3, h4, h5⟩
  have H := hide (show Popped (w.drewN n) g t xs w1 from ⟨ys, h1, h2, h3, h4, h5⟩)
  clear h1 h2 h3 h4 h5
  go_wp2_with fail
  go_ret3
  obtain ⟨zs, h1, h2, h3, h4, h5⟩ := H.out
  exact ⟨rfl, zs, ⟨⟨h1, h3⟩, h4.of_drewN, h5⟩, h2⟩
theorem pop_none (g : Nat) (t : Int) (w : World) (p : PileM w g t []) :
    Calls Try.prog 12 #[.pointer (some ⟨g, 0, none⟩)] w fun e w' => e = .returned (.tuple #[.int .i64 0, .int .i64 0, .bool false]) ∧ w = w' := by
  have C := hide (top_none g t w p)
  clear p
  go_enter Try.func12, Try.ntmps12
  go_wp2_with fail
  refine C.out.mono ?_
  rintro e w' ⟨rfl, rfl⟩
  go_wp2_with fail
  go_ret3
  exact ⟨rfl, rfl⟩

theorem PileM.tick {w : World} {g : Nat} {t u : Int} {xs : List It} (p : PileM w g t xs) : PileM (w.setCell ⟨g, 1, none⟩ (.int .i64 u)) g u xs := by
  obtain ⟨A, cap, hg, hcap, hr⟩ := p
  refine ⟨A, cap, heap_set _ _ _ _ _ _ hg, hcap, hr.imp id ?_⟩
  rintro ⟨h, rfl, hng, r⟩
  exact ⟨h, rfl, hng, r.keep (Below.heap_setCell _ _ _ _ hng)⟩
theorem Of.tick {w : World} {g k : Nat} {u : Value} (h : Of (w.setCell ⟨g, 1, none⟩ u) g k) : Of w g k := by
  rcases h with h | ⟨n, c, h⟩
  · exact .inl h
  · exact .inr ⟨n, c, by rwa [World.cell?_setCell_other _ _ _ _ (by simp)] at h⟩

set_option maxHeartbeats 2000000 in
theorem push_any (g : Nat) (t : Int) (xs : List It) (id rank : Int) (w : World) (p : Pl w g t xs) (hm : xs.length ≤ 549755813888) (ht0 : 0 ≤ t) (ht : t ≤ 549755813888) :
    Calls Try.prog 11 #[.pointer (some ⟨g, 0, none⟩), .int .i64 id, .int .i64 rank] w fun e w' => e = .returned (.tuple #[]) ∧
      ∃ ys, Turned w g w' (t + 1) ys ∧ ys.Perm (xs ++ [⟨id, rank, t⟩]) := by
  have D := hide (fun W (q : PileM W g t xs) => heap_push g t xs ⟨id, rank, t⟩ W q p.2 hm)
  have P := hide p
  obtain ⟨A, cap, _, ha, hf⟩ := p.1.slice
  clear p
  go_enter Try.func11, Try.ntmps11
  go_wp2_with fail
  go_region_with (go_at_call 18; (with_reducible refine (D.out _ ?_).mono ?_); exact P.out.1.drew; rintro e w1 ⟨rfl, ys, h1, h2, h3, h4, h5⟩; have H := hide (show Pushed w.drew g t xs ⟨id, rank, t⟩ w1 from ⟨ys, h1, h2, h3, h4, h5⟩); clear h2 h3 h4 h5)
  obtain ⟨A1, cap1, _, ha1, hf1⟩ := h1.slice
  clear h1
  go_wp2_with fail
  go_end0
  obtain ⟨zs, h1, h2, h3, h4, h5⟩ := H.out
  refine ⟨rfl, zs, ⟨⟨h1.tick, h3⟩, ?_, fun k hk => h5 k (Of.tick hk)⟩, h2⟩
  have h6 : Only (Of w g) w w1 := ⟨h4.os, h4.tape, h4.output, h4.size, h4.block⟩
  exact h6.setCell (.inl (.inl rfl)) _
end Go.Proofs.Ytlakffjodlandaa
