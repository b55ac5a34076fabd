/-
  PileOne: what was pushed comes out; top tells it ahead; a pile of one is empty then. No condition.
-/
import Derived.Test.YtlakffjodlandaaPileC
namespace Go.Proofs.Ytlakffjodlandaa.PileOne
open Go.RowKit

set_option maxHeartbeats 4000000 in
theorem walk (id rank : Int) (w : World) (_h1 : (Lit.int .i64 id).wf = true) (_h2 : (Lit.int .i64 rank).wf = true) :
    Calls Try.prog 8 #[.int .i64 id, .int .i64 rank] w fun e w' => e = .returned (.bool true) ∧ Below w.heap.size w w' := by
  clear _h1 _h2
  go_enter Try.func8, Try.ntmps8
  go_wp2_with fail
  refine (awake_any w).mono ?_
  rintro e w1 ⟨rfl, hb⟩
  have HB := hide hb
  clear hb
  go_wp2_with fail
  refine (new_any w1).mono ?_
  rintro e w2 ⟨rfl, rfl⟩
  go_wp2_with fail
  refine (mpush w1.heap.size w1.heap.size 0 [] id rank _ (mine_new (Nat.le_refl _)) (by simp) (by simp) (by omega) (by omega)).mono ?_
  rintro e w2 ⟨rfl, y2, m2, b2, p2⟩
  obtain rfl : y2 = [⟨id, rank, 0⟩] := List.perm_singleton.1 p2
  have B2 := hide (((Below.refl w1.heap.size w1).alloc (Nat.le_refl _) _).trans b2)
  have M2 := hide m2
  clear m2 b2 p2
  go_wp2_with fail
  refine (mtop _ _ _ _ _ M2.out B2.out.size).mono ?_
  rintro e w3 ⟨m3, b3, s3⟩
  obtain ⟨x, hx, _, rfl⟩ : ∃ x, x ∈ [(⟨id, rank, 0⟩ : It)] ∧ (∀ y ∈ [(⟨id, rank, 0⟩ : It)], Bf x y) ∧ e = .returned (.tuple #[.int .i64 x.id, .int .i64 x.rank, .bool true]) := by
    rcases s3 with ⟨h, _⟩ | h
    · cases h
    · exact h
  obtain rfl : x = ⟨id, rank, 0⟩ := by simpa using hx
  have B3 := hide (B2.out.trans b3)
  have M3 := hide m3
  clear m3 b3 s3 hx M2 B2
  go_wp2_with fail
  refine (mpop _ _ _ _ _ M3.out B3.out.size (by simp) (by simp)).mono ?_
  rintro e w4 ⟨x, rfl, y4, m4, b4, p4, _⟩
  have hx : x = ⟨id, rank, 0⟩ := by have := p4.subset (List.mem_cons_self ..); simpa using this
  obtain rfl : y4 = [] := by have := p4.length_eq; simpa using this
  subst hx
  have B4 := hide (B3.out.trans b4)
  have M4 := hide m4
  clear m4 b4 p4 M3 B3
  go_wp2_with fail
  refine (top_none _ _ _ M4.out.1.1).mono ?_
  rintro e w5 ⟨rfl, rfl⟩
  go_wp2_with fail
  refine (mpush w1.heap.size w1.heap.size _ [] id rank _ M4.out B4.out.size (by simp) (by omega) (by omega)).mono ?_
  rintro e w5 ⟨rfl, y5, m5, b5, p5⟩
  obtain rfl : y5 = [⟨id, rank, 0 + 1⟩] := List.perm_singleton.1 p5
  have B5 := hide (B4.out.trans b5)
  have M5 := hide m5
  clear m5 b5 p5 M4 B4
  go_wp2_with fail
  refine (mdrop w1.heap.size w1.heap.size _ id _ _ M5.out B5.out.size (by simp)).mono ?_
  rintro e w6 ⟨y6, rfl, m6, b6, p6⟩
  obtain rfl : y6 = [] := by have := p6.length_eq; simpa [kept] using this
  have B6 := hide (B5.out.trans b6)
  have C := hide (plen_any w1.heap.size _ [] w6 m6.1.1)
  clear m6 b6 p6 M5 B5
  go_wp2_with (go_at_call 13; (with_reducible refine C.out.mono ?_); rintro e w7 ⟨rfl, rfl⟩)
  go_ret
  exact ⟨rfl, HB.out.trans (B6.out.mono HB.out.size)⟩
end Go.Proofs.Ytlakffjodlandaa.PileOne
