/-
  PileKnown: piles by hand: ties, drops, nothing. No condition.
-/
import Derived.Test.YtlakffjodlandaaPileC
namespace Go.Proofs.Ytlakffjodlandaa.PileKnown
open Go.RowKit

theorem kept_perm (id : Int) {xs ys : List It} (h : xs.Perm ys) : (kept id xs).Perm (kept id ys) := h.filter _

set_option maxHeartbeats 8000000 in
theorem walk (w : World) :
    Calls Try.prog 6 #[] w fun e w' => e = .returned (.bool true) ∧ Below w.heap.size w w' := by
  go_enter Try.func6, Try.ntmps6
  go_wp2_with fail
  refine (awake_any w).mono ?_
  rintro e w1 ⟨rfl, hb⟩
  have HB := hide hb
  clear hb
  go_wp2_with fail
  refine (new_any w1).mono ?_
  rintro e w2 ⟨rfl, rfl⟩
  go_wp2_with fail
  refine (pop_none w1.heap.size 0 _ (mine_new (B := w1.heap.size) (Nat.le_refl _)).1.1).mono ?_
  rintro e w2 ⟨rfl, rfl⟩
  go_wp2_with fail
  refine (mpush w1.heap.size w1.heap.size 0 [] 7 (-3) _ (mine_new (Nat.le_refl _)) (by simp) (by simp) (by omega) (by omega)).mono ?_
  rintro e v1 ⟨rfl, y1, m, b, p⟩
  have B1 := hide (((Below.refl w1.heap.size w1).alloc (Nat.le_refl _) _).trans b)
  have M1 := hide m
  have P1 := hide (show y1.Perm [⟨7, -3, 0⟩] from p)
  clear m b p
  go_wp2_with fail
  refine (mpush w1.heap.size w1.heap.size _ y1 2 4 _ M1.out B1.out.size (by rw [P1.out.length_eq]; simp) (by omega) (by omega)).mono ?_
  rintro e v2 ⟨rfl, y2, m, b, p⟩
  have B2 := hide (B1.out.trans b)
  have M2 := hide m
  have P2 := hide (show y2.Perm [⟨7, -3, 0⟩, ⟨2, 4, 0 + 1⟩] from p.trans (P1.out.append_right _))
  clear m b p
  go_wp2_with fail
  refine (mpush w1.heap.size w1.heap.size _ y2 7 4 _ M2.out B2.out.size (by rw [P2.out.length_eq]; simp) (by omega) (by omega)).mono ?_
  rintro e v3 ⟨rfl, y3, m, b, p⟩
  have B3 := hide (B2.out.trans b)
  have M3 := hide m
  have P3 := hide (show y3.Perm [⟨7, -3, 0⟩, ⟨2, 4, 0 + 1⟩, ⟨7, 4, 0 + 1 + 1⟩] from p.trans (P2.out.append_right _))
  clear m b p
  go_wp2_with fail
  refine (mpush w1.heap.size w1.heap.size _ y3 (-1) 4 _ M3.out B3.out.size (by rw [P3.out.length_eq]; simp) (by omega) (by omega)).mono ?_
  rintro e v4 ⟨rfl, y4, m, b, p⟩
  have B4 := hide (B3.out.trans b)
  have M4 := hide m
  have P4 := hide (show y4.Perm [⟨7, -3, 0⟩, ⟨2, 4, 0 + 1⟩, ⟨7, 4, 0 + 1 + 1⟩, ⟨-1, 4, 0 + 1 + 1 + 1⟩] from p.trans (P3.out.append_right _))
  clear m b p
  go_wp2_with fail
  refine (mtop _ _ _ _ _ M4.out B4.out.size).mono ?_
  rintro e w3 ⟨m, b, s⟩
  obtain rfl : e = .returned (.tuple #[.int .i64 (-1), .int .i64 4, .bool true]) := by
    rcases s with ⟨h, _⟩ | ⟨x, hx, hm, he⟩
    · have := P4.out.length_eq; rw [h] at this; simp at this
    · have h2 := P4.out.subset hx
      have h3 := (bf_iff _ _).1 (hm ⟨-1, 4, 0 + 1 + 1 + 1⟩ (P4.out.mem_iff.2 (by simp)))
      simp at h2
      rcases h2 with rfl | rfl | rfl | rfl <;> simp at h3
      exact he
  have B5 := hide (B4.out.trans b)
  have M5 := hide m
  clear m b s
  go_wp2_with fail
  refine (mdrop w1.heap.size w1.heap.size _ 7 y4 _ M5.out B5.out.size (by rw [P4.out.length_eq]; simp)).mono ?_
  rintro e w6 ⟨y6, he6, m, b, p⟩
  have P6 := hide (show y6.Perm [⟨2, 4, 0 + 1⟩, ⟨-1, 4, 0 + 1 + 1 + 1⟩] from p.trans (kept_perm 7 P4.out))
  obtain rfl : e = .returned (.int .i64 2) := by rw [he6, P6.out.length_eq, P4.out.length_eq]; rfl
  have B6 := hide (B5.out.trans b)
  have M6 := hide m
  clear m b p he6
  go_wp2_with fail
  refine (mpop _ _ _ y6 _ M6.out B6.out.size (by rw [P6.out.length_eq]; simp) (by rw [P6.out.length_eq]; simp)).mono ?_
  rintro e w7 ⟨x, rfl, y7, m, b, p, hx⟩
  obtain rfl : x = ⟨-1, 4, 0 + 1 + 1 + 1⟩ := by
    have h2 := P6.out.subset (p.subset (List.mem_cons_self ..))
    have h3 := (bf_iff _ _).1 (hx ⟨-1, 4, 0 + 1 + 1 + 1⟩ (P6.out.mem_iff.2 (by simp)))
    simp at h2
    rcases h2 with rfl | rfl <;> simp at h3 ⊢
  have P7 := hide (show y7.Perm [⟨2, 4, 0 + 1⟩] from ((p.trans P6.out).trans (List.Perm.swap _ _ [])).cons_inv)
  have B7 := hide (B6.out.trans b)
  have M7 := hide m
  clear m b p hx
  go_wp2_with fail
  refine (mpop _ _ _ y7 _ M7.out B7.out.size (by rw [P7.out.length_eq]; simp) (by rw [P7.out.length_eq]; simp)).mono ?_
  rintro e w8 ⟨x, rfl, y8, m, b, p, hx⟩
  obtain rfl : x = ⟨2, 4, 0 + 1⟩ := by
    have h2 := P7.out.subset (p.subset (List.mem_cons_self ..))
    simpa using h2
  obtain rfl : y8 = [] := by have := p.length_eq; rw [P7.out.length_eq] at this; simpa using this
  have B8 := hide (B7.out.trans b)
  have M8 := hide m
  clear m b p hx
  have C := hide (plen_any w1.heap.size _ [] w8 M8.out.1.1)
  have D := hide (drop_none w1.heap.size _ 7 w8 M8.out.1.1)
  go_wp2_with (first | (go_at_call 13; (with_reducible refine C.out.mono ?_); rintro e w9 ⟨rfl, rfl⟩) | (go_at_call 17; (with_reducible refine D.out.mono ?_); rintro e w9 ⟨rfl, hb9⟩))
  go_ret
  exact ⟨rfl, HB.out.trans ((B8.out.trans (hb9.mono B8.out.size)).mono HB.out.size)⟩
end Go.Proofs.Ytlakffjodlandaa.PileKnown
