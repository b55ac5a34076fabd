/-
  GraphKnown: the walk. It answers true. No condition.
-/
import Derived.Test.YtedpppkknmeheaaGO
import Derived.Deep.RegionHeld3
import Derived.Deep.RegionLaw
namespace Go.Proofs.Ytedpppkknmeheaa.GraphKnown
open Go.RowKit

theorem bel_alloc {W X : World} {o : Obj} (h : Below W.heap.size W X) : Below W.heap.size W (X.alloc o) := h.alloc h.size _
theorem heap_drew {w : World} {k : Nat} {o : Option Obj} (h : w.heap[k]? = o) : w.drew.heap[k]? = o := h
theorem make17 (w : World) : (Instr.makeSlice 22 (.int .i64 17) (.int .i64 17)).run Try.prog w = .ok (.slice (some ⟨w.heap.size, 0, none⟩) 17 17) (w.alloc (.cells (madeCells #[.slice none 0 0] 17) 34)) := by
  obtain ⟨i0, hi, hz0, hz1, hz2⟩ := parts_of graph_info
  have h := run_make (P := Try.prog) w 22 34 i0 (.agg #[.slice none 0 0]) Try.underlying22 hi hz0 .i64 .i64 17 17 (by omega) (by omega) (by rw [hz2]; decide) (by omega)
  rw [hz1] at h
  exact h
theorem rows_info : (Try.prog.info? 35).map (fun i => (i.zero, i.size, i.bytes)) = some (some (.slice none 0 0), 1, 24) := by kernel_rfl
theorem make33 (w : World) : (Instr.makeSlice 23 (.int .i64 33) (.int .i64 33)).run Try.prog w = .ok (.slice (some ⟨w.heap.size, 0, none⟩) 33 33) (w.alloc (.cells (madeCells #[.slice none 0 0] 33) 35)) :=
  run_make_row' (P := Try.prog) 23 35 (.slice none 0 0) 24 Try.underlying23 rows_info rfl .i64 .i64 33 (by omega) (by omega) w
theorem made_cells (w : World) (z : Value) (n : Nat) (t : TypeId) (i : Nat) (hi : i < n) : (w.alloc (.cells (madeCells #[z] n) t)).cell? ⟨w.heap.size, i, none⟩ = some z := (World.rowIs_made w z n t).cell hi
set_option maxRecDepth 100000 in
set_option maxHeartbeats 16000000 in
theorem walk (W : World) :
    Calls Try.prog 5 #[] W fun e w' => e = .returned (.bool true) ∧ Below W.heap.size W w' := by
  have C1 := hide (awake_any W)
  go_enter Try.func5, Try.ntmps5
  go_wp2_with (go_at_call 9; (with_reducible refine C1.out.mono ?_); rintro e w1 ⟨rfl, hb1⟩; have HB1 := hide hb1; have HM := hide (kb_made w1); clear hb1)
  obtain ⟨hbm, hk0⟩ := HM.out
  obtain ⟨Wn, hWn⟩ : ∃ Wn, kbW w1 = Wn := ⟨_, rfl⟩
  rw [hWn] at hbm hk0
  unfold kbW at hWn
  rw [hWn]
  have hb2 := HB1.out.trans (hbm.mono HB1.out.size)
  clear hWn HM hbm HB1 C1
  generalize w1.heap.size = B at hk0 ⊢
  have HK := hide hk0
  have HB := hide hb2
  clear hk0 hb2
  go_loopw [4] (fun i wr => ∃ k : Nat, k ≤ 13 ∧ i = .int .i64 k ∧ Hid (Below Wn.heap.size Wn wr)) (fun i _ => 13 - (intOf i).toNat)
  case atStart => exact ⟨0, Nat.zero_le _, rfl, Below.refl _ _⟩
  case round =>
    obtain ⟨k, hk, rfl, HBR⟩ := hrel
    by_cases hlt : k < 13
    · have hkb := HK.out.later HBR.out
      have hwant := hkb.want k hlt
      obtain ⟨e, hwe⟩ : ∃ e, WK.getD k 0 = e := ⟨_, rfl⟩
      rw [hwe] at hwant
      obtain ⟨b2, off2, he2, ⟨c0, c1, c2, c3, c4, c5, c6⟩, -⟩ := hkb.nds.2.2 k hlt
      cases he2
      have d0 := cell_of_row wr _ 0 _ _ _ hkb.h2
      have d1 := cell_of_row wr _ 1 _ _ _ hkb.h2
      simp only [List.getElem?_toArray, List.getElem?_cons_zero, List.getElem?_cons_succ] at d0 d1
      obtain ⟨n, hn⟩ : ∃ n, (NK B).getD k default = n := ⟨_, rfl⟩
      rw [hn] at c0 c1 c2 c3 c4 c5 c6
      have C2 : Hid (∀ w', Below wr.heap.size wr w' → ∀ gb vb, (∃ nb, w'.heap[gb]? = some (.cells #[.slice (some ⟨nb, 0, none⟩) 2 2] 34 (0, 0)) ∧
          w'.heap[nb]? = some (.cells #[.int .i64 2, .slice none 0 0, .slice none 0 0, .int .i64 0, .slice (some ⟨B, 0, none⟩) 1 1, .slice (some ⟨B + 1, 0, none⟩) 1 1, .slice none 0 0, .int .i64 n.op, .slice n.ia n.il n.ic, .slice n.ta n.tl n.tc, .int .i64 n.no, .slice n.sa n.sl n.sc, .slice n.da n.dl n.dc, .slice n.ha n.hl n.hc] 41 (0, 0))) →
          (∃ sb, w'.heap[vb]? = some (.cells #[.slice (some ⟨sb, 0, none⟩) 1 1] 35 (0, 0)) ∧ w'.heap[sb]? = some (.cells #[.int .i64 1] 3 (0, 0))) →
          Calls Try.prog 12 #[.slice (some ⟨gb, 0, none⟩) 1 1, .slice (some ⟨vb, 0, none⟩) 1 1] w' fun e' w2 => e' = .returned (.tuple #[.int .i64 0, .int .i64 1, .int .i64 e]) ∧ Below wr.heap.size wr w2) :=
        hide (fun w' hb gb vb ⟨nb, h1, h2⟩ ⟨sb, h3, h4⟩ => (kn_Check (hkb.later hb) hlt hn nb gb sb vb h1 h2 h3 h4).mono fun e' w2 h => ⟨by rw [h.1, hwe], hb.trans (h.2.mono hb.size)⟩)
      rw [Nat.zero_add] at c0 c1 c2 c3 c4 c5 c6
      clear hn hwe hkb HK
      obtain ⟨op, ia, il, ic, ins, ta, tl, tc, no, sa, sl, sc, S, da, dl, dc, ha, hl, hc, hs⟩ := n
      simp only at c0 c1 c2 c3 c4 c5 c6 C2
      have hkeep : ∀ w' : World, Below wr.heap.size wr w' → w'.cell? ⟨B + 1 + 1, 0, none⟩ = some (.slice (some ⟨B, 0, none⟩) 1 1) ∧ w'.cell? ⟨B + 1 + 1, 1, none⟩ = some (.slice (some ⟨B + 1, 0, none⟩) 1 1) ∧ w'.cell? ⟨B + 1 + 1 + 1 + 1 + 1 + 1 + 1 + 1 + 1 + 1 + 1 + 1, k * 7, none⟩ = some (.int .i64 op) ∧ w'.cell? ⟨B + 1 + 1 + 1 + 1 + 1 + 1 + 1 + 1 + 1 + 1 + 1 + 1, k * 7 + 1, none⟩ = some (.slice ia il ic) ∧ w'.cell? ⟨B + 1 + 1 + 1 + 1 + 1 + 1 + 1 + 1 + 1 + 1 + 1 + 1, k * 7 + 2, none⟩ = some (.slice ta tl tc) ∧ w'.cell? ⟨B + 1 + 1 + 1 + 1 + 1 + 1 + 1 + 1 + 1 + 1 + 1 + 1, k * 7 + 3, none⟩ = some (.int .i64 no) ∧ w'.cell? ⟨B + 1 + 1 + 1 + 1 + 1 + 1 + 1 + 1 + 1 + 1 + 1 + 1, k * 7 + 4, none⟩ = some (.slice sa sl sc) ∧ w'.cell? ⟨B + 1 + 1 + 1 + 1 + 1 + 1 + 1 + 1 + 1 + 1 + 1 + 1, k * 7 + 5, none⟩ = some (.slice da dl dc) ∧ w'.cell? ⟨B + 1 + 1 + 1 + 1 + 1 + 1 + 1 + 1 + 1 + 1 + 1 + 1, k * 7 + 6, none⟩ = some (.slice ha hl hc) ∧ Below wr.heap.size wr w' := fun w' hb => ⟨cell_later hb d0, cell_later hb d1, cell_later hb c0, cell_later hb c1, cell_later hb c2, cell_later hb c3, cell_later hb c4, cell_later hb c5, cell_later hb c6, hb⟩
      have hbr := Below.refl wr.heap.size wr
      go_upto_region 9 with fail
      go_region_held3 (fun w' => w'.cell? ⟨B + 1 + 1, 0, none⟩ = some (.slice (some ⟨B, 0, none⟩) 1 1) ∧ w'.cell? ⟨B + 1 + 1, 1, none⟩ = some (.slice (some ⟨B + 1, 0, none⟩) 1 1) ∧ w'.cell? ⟨B + 1 + 1 + 1 + 1 + 1 + 1 + 1 + 1 + 1 + 1 + 1 + 1, k * 7, none⟩ = some (.int .i64 op) ∧ w'.cell? ⟨B + 1 + 1 + 1 + 1 + 1 + 1 + 1 + 1 + 1 + 1 + 1 + 1, k * 7 + 1, none⟩ = some (.slice ia il ic) ∧ w'.cell? ⟨B + 1 + 1 + 1 + 1 + 1 + 1 + 1 + 1 + 1 + 1 + 1 + 1, k * 7 + 2, none⟩ = some (.slice ta tl tc) ∧ w'.cell? ⟨B + 1 + 1 + 1 + 1 + 1 + 1 + 1 + 1 + 1 + 1 + 1 + 1, k * 7 + 3, none⟩ = some (.int .i64 no) ∧ w'.cell? ⟨B + 1 + 1 + 1 + 1 + 1 + 1 + 1 + 1 + 1 + 1 + 1 + 1, k * 7 + 4, none⟩ = some (.slice sa sl sc) ∧ w'.cell? ⟨B + 1 + 1 + 1 + 1 + 1 + 1 + 1 + 1 + 1 + 1 + 1 + 1, k * 7 + 5, none⟩ = some (.slice da dl dc) ∧ w'.cell? ⟨B + 1 + 1 + 1 + 1 + 1 + 1 + 1 + 1 + 1 + 1 + 1 + 1, k * 7 + 6, none⟩ = some (.slice ha hl hc) ∧ Below wr.heap.size wr w')
        ((refine hkeep _ ?_; repeat' (first | with_reducible assumption | with_reducible exact Below.refl _ _ | with_reducible apply bel_drew | with_reducible apply bel_alloc)))
        ((go_at_call 12; with_reducible refine (C2.out _ ?_ _ _ ?_ ?_).mono ?_; (repeat' (first | with_reducible assumption | with_reducible exact Below.refl _ _ | with_reducible apply bel_drew | with_reducible apply bel_alloc)); (apply Exists.intro; apply And.intro; (focus (repeat (first | exact heap_at _ (by simp) | (with_reducible refine heap_drew ?_) | (refine (heap_alloc_old _ (by simp <;> omega)).trans ?_)))); (focus (repeat (first | exact heap_at _ (by simp) | (with_reducible refine heap_drew ?_) | (refine (heap_alloc_old _ (by simp <;> omega)).trans ?_))))); (apply Exists.intro; apply And.intro; (focus (repeat (first | exact heap_at _ (by simp) | (with_reducible refine heap_drew ?_) | (refine (heap_alloc_old _ (by simp <;> omega)).trans ?_)))); (focus (repeat (first | exact heap_at _ (by simp) | (with_reducible refine heap_drew ?_) | (refine (heap_alloc_old _ (by simp <;> omega)).trans ?_))))); rintro e' w2 ⟨rfl, hb2⟩))
      all_goals (
        have hw2 := cell_later hb2 hwant
        have HB2 := hide (HBR.out.trans (hb2.mono HBR.out.size))
        clear hkeep hb2 hbr
        go_wp2_with fail
        go_roundw
        case rel => exact ⟨k + 1, by omega, by go_num, HB2.out⟩
        case measure => simp [intOf]; omega)
    · obtain rfl : 13 = k := by omega
      have HB2 := hide (HB.out.trans (HBR.out.mono HB.out.size))
      clear HBR HK HB
      have hmk1 := make17
      have hmk2 := make33
      have hs17 := fun (w : World) => hide (made_cells w (.slice none 0 0) 17 34)
      have hs33 := fun (w : World) => hide (made_cells w (.slice none 0 0) 33 35)
      have C3 : Hid (∀ (b : Nat) (w' : World), (∀ i, i < 17 → w'.cell? ⟨b, i, none⟩ = some (.slice none 0 0)) → Calls Try.prog 12 #[.slice (some ⟨b, 0, none⟩) 17 17, .slice none 0 0] w' fun e w2 => e = .returned (.tuple #[.int .i64 0, .int .i64 0, .int .i64 13]) ∧ Below w'.heap.size w' w2) := hide (fun b w' h => kn_a w' b h)
      have C4 : Hid (∀ (b : Nat) (w' : World), (∀ i, i < 33 → w'.cell? ⟨b, i, none⟩ = some (.slice none 0 0)) → Calls Try.prog 12 #[.slice none 0 0, .slice (some ⟨b, 0, none⟩) 33 33] w' fun e w2 => e = .returned (.tuple #[.int .i64 0, .int .i64 0, .int .i64 13]) ∧ Below w'.heap.size w' w2) := hide (fun b w' h => kn_b w' b h)
      go_wp2_with fail
      refine (C3.out _ _ (hs17 _).out).mono ?_
      rintro e w3 ⟨rfl, hb3⟩
      have HB3 := hide ((HB2.out.alloc HB2.out.size _).trans (hb3.mono (by have := HB2.out.size; simp; omega)))
      clear hb3 hmk1 hs17 C3
      go_wp2_with fail
      have hsz3 : w3.heap.size ≤ (w3.alloc (.cells (madeCells #[.slice none 0 0] 33) 35)).heap.size := by simp
      refine (C4.out _ _ (hs33 _).out).mono ?_
      rintro e w4 ⟨rfl, hb4⟩
      have HB4 := hide ((HB3.out.alloc HB3.out.size _).trans (hb4.mono (by have := HB3.out.size; omega)))
      clear hb4 hmk2 hs33 C4 HB2 HB3 hsz3
      have C5 : Hid (∀ (gb vb : Nat) (w' : World), (∃ nb, w'.heap[gb]? = some (.cells #[.slice (some ⟨nb, 0, none⟩) 1 1, .slice none 0 0] 34 (0, 0)) ∧ w'.heap[nb]? = some (.cells #[.int .i64 1, .slice none 0 0, .slice none 0 0, .int .i64 0, .slice none 0 0, .slice none 0 0, .slice none 0 0] 41 (0, 0))) →
          (∃ sb, w'.heap[vb]? = some (.cells #[.slice (some ⟨sb, 0, none⟩) 1 1] 35 (0, 0)) ∧ w'.heap[sb]? = some (.cells #[.int .i64 1] 3 (0, 0))) → Below w4.heap.size w4 w' →
          Calls Try.prog 12 #[.slice (some ⟨gb, 0, none⟩) 2 2, .slice (some ⟨vb, 0, none⟩) 1 1] w' fun e w2 => e = .returned (.tuple #[.int .i64 1, .int .i64 0, .int .i64 13]) ∧ Below W.heap.size W w2) :=
        hide (fun gb vb w' ⟨nb, h1, h2⟩ ⟨sb, h3, h4⟩ hb => (kn_c nb gb sb vb h1 h2 h3 h4).mono fun e w2 h => ⟨h.1, HB4.out.trans ((hb.trans (h.2.mono hb.size)).mono HB4.out.size)⟩)
      go_wp2_with fail
      refine (C5.out _ _ _ ?_ ?_ ?_).mono ?_
      · apply Exists.intro; apply And.intro; (focus (repeat (first | exact heap_at _ (by simp) | (with_reducible refine heap_drew ?_) | (refine (heap_alloc_old _ (by simp <;> omega)).trans ?_)))); (focus (repeat (first | exact heap_at _ (by simp) | (with_reducible refine heap_drew ?_) | (refine (heap_alloc_old _ (by simp <;> omega)).trans ?_))))
      · apply Exists.intro; apply And.intro; (focus (repeat (first | exact heap_at _ (by simp) | (with_reducible refine heap_drew ?_) | (refine (heap_alloc_old _ (by simp <;> omega)).trans ?_)))); (focus (repeat (first | exact heap_at _ (by simp) | (with_reducible refine heap_drew ?_) | (refine (heap_alloc_old _ (by simp <;> omega)).trans ?_))))
      · repeat' (first | with_reducible exact Below.refl _ _ | with_reducible apply bel_alloc)
      rintro e w5 ⟨rfl, hb5⟩
      have HB5 := hide hb5
      clear hb5 C5 HB4
      have C6 : Hid (∀ (gb vb : Nat) (w' : World), (∃ nb, w'.heap[gb]? = some (.cells #[.slice (some ⟨nb, 0, none⟩) 1 1] 34 (0, 0)) ∧ w'.heap[nb]? = some (.cells #[.int .i64 1, .slice none 0 0, .slice none 0 0, .int .i64 0, .slice none 0 0, .slice none 0 0, .slice none 0 0] 41 (0, 0))) →
          (∃ sb, w'.heap[vb]? = some (.cells #[.slice (some ⟨sb, 0, none⟩) 1 1] 35 (0, 0)) ∧ w'.heap[sb]? = some (.cells #[.int .i64 0] 3 (0, 0))) → Below w5.heap.size w5 w' →
          Calls Try.prog 12 #[.slice (some ⟨gb, 0, none⟩) 1 1, .slice (some ⟨vb, 0, none⟩) 1 1] w' fun e w2 => e = .returned (.tuple #[.int .i64 0, .int .i64 0, .int .i64 2]) ∧ Below W.heap.size W w2) :=
        hide (fun gb vb w' ⟨nb, h1, h2⟩ ⟨sb, h3, h4⟩ hb => (kn_d nb gb sb vb h1 h2 h3 h4).mono fun e w2 h => ⟨h.1, HB5.out.trans ((hb.trans (h.2.mono hb.size)).mono HB5.out.size)⟩)
      go_wp2_with fail
      refine (C6.out _ _ _ ?_ ?_ ?_).mono ?_
      · apply Exists.intro; apply And.intro; (focus (repeat (first | exact heap_at _ (by simp) | (with_reducible refine heap_drew ?_) | (refine (heap_alloc_old _ (by simp <;> omega)).trans ?_)))); (focus (repeat (first | exact heap_at _ (by simp) | (with_reducible refine heap_drew ?_) | (refine (heap_alloc_old _ (by simp <;> omega)).trans ?_))))
      · apply Exists.intro; apply And.intro; (focus (repeat (first | exact heap_at _ (by simp) | (with_reducible refine heap_drew ?_) | (refine (heap_alloc_old _ (by simp <;> omega)).trans ?_)))); (focus (repeat (first | exact heap_at _ (by simp) | (with_reducible refine heap_drew ?_) | (refine (heap_alloc_old _ (by simp <;> omega)).trans ?_))))
      · repeat' (first | with_reducible exact Below.refl _ _ | with_reducible apply bel_alloc)
      rintro e w6 ⟨rfl, hb6⟩
      have HB6 := hide hb6
      clear hb6 C6 HB5
      have C7 := hide (kn_e w6)
      go_wp2_with (go_at_call 12; (with_reducible refine C7.out.mono ?_); rintro e w7 ⟨rfl, hb7⟩; have HB7 := hide (HB6.out.trans (hb7.mono HB6.out.size)); clear hb7 C7 HB6)
      go_ret
      exact ⟨rfl, HB7.out⟩
end Go.Proofs.Ytedpppkknmeheaa.GraphKnown
