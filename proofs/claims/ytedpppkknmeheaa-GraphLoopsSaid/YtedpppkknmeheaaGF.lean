/-
  Package graph's shapes at the second graph of 'awake'. No condition.
-/
import Derived.Test.YtedpppkknmeheaaGE
namespace Go.Proofs.Ytedpppkknmeheaa
open Go.RowKit

def Shp3 (w : World) (e : Ending) (w' : World) : Prop := ∃ a cap, e = .returned (.tuple #[.slice a 2 cap, .int .i64 0]) ∧ Below w.heap.size w w'
theorem own_kept {w w' : World} {base : Nat} {e : TypeId} {size n g cap : Nat} {xs : List Value} (h : w.ownsRow base e size (.slice (some ⟨g, 0, none⟩) n cap) n xs) (hb : Below w.heap.size w w') : w'.ownsRow base e size (.slice (some ⟨g, 0, none⟩) n cap) n xs :=
  h.kept ⟨hb.os, hb.tape, hb.output, hb.size, fun k hk _ => hb.block k hk⟩ (row := none) (.inr (by simp [Value.ownBlock]))
set_option maxRecDepth 100000 in
set_option maxHeartbeats 16000000 in
theorem shapes1 (b off ll lc vb voff vl vc : Nat) (pa : Option Addr) (pl pc bA cap0 bB bC cap1 : Nat) (c : Option Addr) (d : Nat) (w : World) (h0 : w.cell? ⟨b, off, none⟩ = some (.slice (some ⟨bA, 0, none⟩) 1 cap0)) (h1 : w.cell? ⟨b, off + 1, none⟩ = some (.slice (some ⟨bC, 0, none⟩) 2 cap1))
    (hA : w.cell? ⟨bA, 0, none⟩ = some (.int .i64 1) ∧ w.cell? ⟨bA, 1, none⟩ = some (.slice none 0 0) ∧ w.cell? ⟨bA, 2, none⟩ = some (.slice none 0 0) ∧ w.cell? ⟨bA, 3, none⟩ = some (.int .i64 0) ∧ w.cell? ⟨bA, 4, none⟩ = some (.slice none 0 0) ∧ w.cell? ⟨bA, 5, none⟩ = some (.slice none 0 0) ∧ w.cell? ⟨bA, 6, none⟩ = some (.slice none 0 0))
    (hN : w.cell? ⟨bC, 0, none⟩ = some (.int .i64 1) ∧ w.cell? ⟨bC, 1, none⟩ = some (.slice none 0 0) ∧ w.cell? ⟨bC, 2, none⟩ = some (.slice none 0 0) ∧ w.cell? ⟨bC, 3, none⟩ = some (.int .i64 0) ∧ w.cell? ⟨bC, 4, none⟩ = some (.slice none 0 0) ∧ w.cell? ⟨bC, 5, none⟩ = some (.slice none 0 0) ∧ w.cell? ⟨bC, 6, none⟩ = some (.slice none 0 0))
    (hM : w.cell? ⟨bC, 7, none⟩ = some (.int .i64 16) ∧ w.cell? ⟨bC, 8, none⟩ = some (.slice (some ⟨bB, 0, none⟩) 1 1) ∧ w.cell? ⟨bC, 9, none⟩ = some (.slice none 0 0) ∧ w.cell? ⟨bC, 10, none⟩ = some (.int .i64 0) ∧ w.cell? ⟨bC, 11, none⟩ = some (.slice none 0 0) ∧ w.cell? ⟨bC, 12, none⟩ = some (.slice none 0 0) ∧ w.cell? ⟨bC, 13, none⟩ = some (.slice none 0 0))
    (hB : w.cell? ⟨bB, 0, none⟩ = some (.int .i64 0))
    (hv : w.cell? ⟨vb, voff, none⟩ = some (.slice c 1 d)) (hI : Two w c d) (hll : 1 < ll) (hvl : 0 < vl) :
    Calls Try.prog 24 #[.slice (some ⟨b, off, none⟩) ll lc, .slice (some ⟨vb, voff, none⟩) vl vc, .int .i64 1, .slice pa pl pc] w (Shp3 w) := by
  obtain ⟨i0, hi, hz0, hz1, hz2⟩ := parts_of slice_info
  have HI := hide hI
  have HV := hide hv
  have HC := hide hN
  have HM := hide hM
  have HA0 := hide hA
  have HH0 := hide h0
  have HBB := hide hB
  clear hI hv hN hM hA hB h0
  go_enter Try.func24, Try.ntmps24
  go_wp2_with fail
  go_loopw [10, 24] (fun o i wr => ∃ k : Nat, i = .int .i64 k ∧ Hid (Below w.heap.size w wr) ∧ ((k = 0 ∧ o = .slice none 0 0) ∨ (k = 1 ∧ ∃ g cap a c, o = .slice (some ⟨g, 0, none⟩) 1 cap ∧ Hid (wr.ownsRow w.heap.size 35 1 (.slice (some ⟨g, 0, none⟩) 1 cap) 1 [.slice a 1 c]) ∧ Hid (Two wr a c)) ∨ (k = 2 ∧ ∃ g cap, o = .slice (some ⟨g, 0, none⟩) 2 cap))) (fun _ i _ => 2 - (intOf i).toNat)
  case atStart => exact ⟨0, rfl, Below.refl _ _, .inl ⟨rfl, rfl⟩⟩
  case round =>
    obtain ⟨k, rfl, HB, hk⟩ := hrel
    rcases hk with ⟨rfl, rfl⟩ | ⟨rfl, g, cap, a, c2, rfl, HO, HT0⟩ | ⟨rfl, g, cap, rfl⟩
    · have hsz := HB.out.size
      obtain ⟨c0, c1, c2, c3, c4, c5, c6⟩ := HC.out
      have d0 := cell_later HB.out c0
      have d1 := cell_later HB.out c1
      have d2 := cell_later HB.out c2
      have d3 := cell_later HB.out c3
      have d4 := cell_later HB.out c4
      have d5 := cell_later HB.out c5
      have d6 := cell_later HB.out c6
      clear c0 c1 c2 c3 c4 c5 c6
      obtain ⟨wo, rfl⟩ : ∃ wo : World, wo = wr := ⟨_, rfl⟩
      have HB1 : Hid (Below w.heap.size w (wo.alloc (.cells #[.int .i64 1, .slice none 0 0, .slice none 0 0, .int .i64 0, .slice none 0 0, .slice none 0 0, .slice none 0 0] 41))) := HB.out.alloc hsz _
      have hrow : (wo.alloc (.cells #[.int .i64 1, .slice none 0 0, .slice none 0 0, .int .i64 0, .slice none 0 0, .slice none 0 0, .slice none 0 0] 41)).heap[wo.heap.size]? = some (.cells #[.int .i64 1, .slice none 0 0, .slice none 0 0, .int .i64 0, .slice none 0 0, .slice none 0 0, .slice none 0 0] 41 (0, 0)) := heap_alloc_new _ _
      have HROW := hide hrow
      clear hrow
      go_wp2_with fail
      go_loopw [13, 31] (fun o i w2 => o = .slice none 0 0 ∧ i = .int .i64 0 ∧ (wo.alloc (.cells #[.int .i64 1, .slice none 0 0, .slice none 0 0, .int .i64 0, .slice none 0 0, .slice none 0 0, .slice none 0 0] 41)) = w2) (fun _ _ _ => 0)
      case atStart => exact ⟨rfl, rfl, rfl⟩
      case round =>
        obtain ⟨rfl, rfl, hw2⟩ := hrel
        have HB2 : Hid (Below w.heap.size w wr) := by unfold Hid; rw [← hw2]; exact HB1.out
        have hg : wr.heap[wo.heap.size]? = some (.cells #[.int .i64 1, .slice none 0 0, .slice none 0 0, .int .i64 0, .slice none 0 0, .slice none 0 0, .slice none 0 0] 41 (0, 0)) := by rw [← hw2]; exact HROW.out
        clear hw2
        have y0 := cell_of_row wr _ 0 _ _ _ hg
        have y1 := cell_of_row wr _ 1 _ _ _ hg
        have y2 := cell_of_row wr _ 2 _ _ _ hg
        have y3 := cell_of_row wr _ 3 _ _ _ hg
        have y4 := cell_of_row wr _ 4 _ _ _ hg
        have y5 := cell_of_row wr _ 5 _ _ _ hg
        have y6 := cell_of_row wr _ 6 _ _ _ hg
        have hv2 := cell_later HB2.out HV.out
        have HI2 := hide (HI.out.later HB2.out)
        have C1 : Hid (∀ (qa : Option Addr) (ql qc : Nat), Calls Try.prog 37 #[.slice (some ⟨b, off, none⟩) ll lc, .slice (some ⟨vb, voff, none⟩) vl vc, .agg #[.int .i64 1, .slice none 0 0, .slice none 0 0, .int .i64 0, .slice none 0 0, .slice none 0 0, .slice none 0 0], .slice pa pl pc, .slice qa ql qc] wr fun e w' => e = .returned (.tuple #[.slice c 1 d, .int .i64 0]) ∧ Below wr.heap.size wr w') := hide (fun qa ql qc => one_leaf _ ll lc vb voff vl vc pa pl pc qa ql qc c 1 d wr hv2 hvl)
        have C2 : Hid (∀ w', Below wr.heap.size wr w' → Calls Try.prog 38 #[.slice c 1 d] w' fun e w2 => ∃ a' c', e = .returned (.slice a' 1 c') ∧ Hid (Two w2 a' c') ∧ Below wr.heap.size wr w2) := hide (fun w' hb => (clone_two c d w' (HI2.out.later hb)).mono fun e w2 ⟨a', c', h1, h2, h3⟩ => ⟨a', c', h1, h2, hb.trans (h3.mono hb.size)⟩)
        clear hg hv2
        go_wp2_with (first | (go_at_call 37; (with_reducible refine (C1.out _ _ _).mono ?_); rintro e w3 ⟨rfl, hb3⟩; have HB3 := hide hb3; clear hb3) | (go_at_call 38; (with_reducible refine (C2.out _ HB3.out).mono ?_); rintro e w4 ⟨a', c', rfl, HT, hb4⟩; have HB4 := hide (HB2.out.trans (hb4.mono HB2.out.size)); have hs4 := HB4.out.size; clear hb4) | (at_builtin; refine wpList_append_own _ rfl _ _ 23 rfl w.heap.size 35 i0 (.slice none 0 0) 1 24 Try.underlying23 hi hz0 hz1 hz2 rfl (by decide) _ _ _ rfl (World.ownsRow_nil _ _ _ _) ⟨w4.heap.size, 0, none⟩ 1 1 [.slice a' 1 c'] rfl rfl ?c1 ?c2 ?c3 ?c4 ?c5 ?_))
        case c1 => exact src_one _
        case c2 => exact own_one rfl
        case c3 => unfold maxLen; omega
        case c4 => omega
        case c5 => simp; omega
        intro v' w5 hown' hgrow _
        have hb5 : Below w4.heap.size w4 w5 := ((Below.refl _ _).alloc (Nat.le_refl _) _).grown hgrow (by simp) (fun g hg => by cases hg)
        have HT5 := hide (HT.out.later hb5)
        have HB5 := hide (HB4.out.trans (hb5.mono hs4))
        obtain ⟨g, cap, rfl, hg⟩ := own_cases hown' (by omega)
        have HO5 := hide hown'
        clear hown' hgrow hb5 hg
        go_wp2_with fail
        go_roundw
        case rel => exact ⟨1, rfl, HB5.out, .inr (.inl ⟨rfl, g, cap, a', c', rfl, HO5.out, HT5.out⟩)⟩
        case measure => simp [intOf]
    · have hsz := HB.out.size
      obtain ⟨c0, c1, c2', c3, c4, c5, c6⟩ := HM.out
      have d0 := cell_later HB.out c0
      have d1 := cell_later HB.out c1
      have d2 := cell_later HB.out c2'
      have d3 := cell_later HB.out c3
      have d4 := cell_later HB.out c4
      have d5 := cell_later HB.out c5
      have d6 := cell_later HB.out c6
      have dB := cell_later HB.out HBB.out
      have dO := own_cell HO.out (i := 0) (u := .slice a 1 c2) rfl
      clear c0 c1 c2' c3 c4 c5 c6
      obtain ⟨wo, rfl⟩ : ∃ wo : World, wo = wr := ⟨_, rfl⟩
      obtain ⟨W2, hW2⟩ : ∃ W2, W2 = (wo.alloc (.cells #[.int .i64 16, .slice (some ⟨bB, 0, none⟩) 1 1, .slice none 0 0, .int .i64 0, .slice none 0 0, .slice none 0 0, .slice none 0 0] 41)) := ⟨_, rfl⟩
      have hb0 : Below wo.heap.size wo W2 := by rw [hW2]; exact (Below.refl _ _).alloc (Nat.le_refl _) _
      have hg : W2.heap[wo.heap.size]? = some (.cells #[.int .i64 16, .slice (some ⟨bB, 0, none⟩) 1 1, .slice none 0 0, .int .i64 0, .slice none 0 0, .slice none 0 0, .slice none 0 0] 41 (0, 0)) := by rw [hW2]; exact heap_alloc_new _ _
      have HB2 := hide (HB.out.trans (hb0.mono hsz))
      have HO2 := hide (own_kept HO.out hb0)
      have HT2 := hide (HT0.out.later hb0)
      have hsz2 := HB2.out.size
      have y0 := cell_of_row W2 _ 0 _ _ _ hg
      have y1 := cell_of_row W2 _ 1 _ _ _ hg
      have y2 := cell_of_row W2 _ 2 _ _ _ hg
      have y3 := cell_of_row W2 _ 3 _ _ _ hg
      have y4 := cell_of_row W2 _ 4 _ _ _ hg
      have y5 := cell_of_row W2 _ 5 _ _ _ hg
      have y6 := cell_of_row W2 _ 6 _ _ _ hg
      have HY := hide (And.intro y0 (And.intro y1 (And.intro y2 (And.intro y3 (And.intro y4 (And.intro y5 y6))))))
      have zB := cell_later hb0 dB
      have zO := cell_later hb0 dO
      have HZ := hide (And.intro zB zO)
      have HW2 := hide hW2
      clear hb0 hg hW2 y0 y2 y3 y4 y5 y6 zB zO
      go_wp2_with fail
      rw [← HW2.out]
      clear d0 d1 d2 d3 d4 d5 d6 dB dO
      go_loopw [13, 31] (fun o i w2 => ∃ j : Nat, i = .int .i64 j ∧ Hid (Below W2.heap.size W2 w2) ∧ ((j = 0 ∧ o = .slice none 0 0) ∨ (j = 1 ∧ ∃ gq cq, o = .slice (some ⟨gq, 0, none⟩) 1 cq ∧ Hid (w2.cell? ⟨gq, 0, none⟩ = some (.slice a 1 c2))))) (fun _ i _ => 1 - (intOf i).toNat)
      case atStart => exact ⟨0, rfl, Below.refl _ _, .inl ⟨rfl, rfl⟩⟩
      case round =>
        obtain ⟨j, rfl, HBI, hj⟩ := hrel
        rcases hj with ⟨rfl, rfl⟩ | ⟨rfl, gq, cq, rfl, HQ⟩
        · have xB := cell_later HBI.out HZ.out.1
          have xO := cell_later HBI.out HZ.out.2
          have hs5 := HBI.out.size
          go_wp2_with (at_builtin; refine wpList_append_own _ rfl _ _ 23 rfl W2.heap.size 35 i0 (.slice none 0 0) 1 24 Try.underlying23 hi hz0 hz1 hz2 rfl (by decide) _ _ _ rfl (World.ownsRow_nil _ _ _ _) ⟨wr.heap.size, 0, none⟩ 1 1 [.slice a 1 c2] rfl rfl ?c1 ?c2 ?c3 ?c4 ?c5 ?_)
          case c1 => exact src_one _
          case c2 => exact own_one rfl
          case c3 => unfold maxLen; omega
          case c4 => omega
          case c5 => simp; omega
          intro v' w5 hown' hgrow _
          have HB5 := hide ((HBI.out.alloc hs5 _).grown hgrow (by simp; omega) (fun g hg => by cases hg))
          obtain ⟨gq, cq, rfl, _⟩ := own_cases hown' (by omega)
          have HC5 := hide (own_cell hown' (i := 0) (u := .slice a 1 c2) rfl)
          clear hown' hgrow
          go_wp2_with fail
          go_roundw
          case rel => (repeat apply Exists.intro); exact ⟨⟨1, rfl, HB5.out, .inr ⟨rfl, gq, cq, rfl, HC5.out⟩⟩, rfl⟩
          case measure => simp [intOf]
        · obtain ⟨y0, y1, y2, y3, y4, y5, y6⟩ := HY.out
          have x0 := cell_later HBI.out y0
          have x1 := cell_later HBI.out y1
          have x2 := cell_later HBI.out y2
          have x3 := cell_later HBI.out y3
          have x4 := cell_later HBI.out y4
          have x5 := cell_later HBI.out y5
          have x6 := cell_later HBI.out y6
          clear y0 y1 y2 y3 y4 y5 y6
          have HB6 := hide (HB2.out.trans (HBI.out.mono hsz2))
          have HO6 := hide (own_kept HO2.out HBI.out)
          have hs6 := HB6.out.size
          have C1 : Hid (Calls Try.prog 37 #[.slice (some ⟨b, off, none⟩) ll lc, .slice (some ⟨vb, voff, none⟩) vl vc, .agg #[.int .i64 16, .slice (some ⟨bB, 0, none⟩) 1 1, .slice none 0 0, .int .i64 0, .slice none 0 0, .slice none 0 0, .slice none 0 0], .slice pa pl pc, .slice (some ⟨gq, 0, none⟩) 1 cq] wr fun e w2 => ∃ a c, e = .returned (.tuple #[.slice a 1 c, .int .i64 0]) ∧ Hid (Two w2 a c) ∧ Below wr.heap.size wr w2) :=
            hide ((one_call _ ll lc _ vl vc pa pl pc gq cq (some ⟨bB, 0, none⟩) 1 a 1 c2 wr HQ.out (fun w' hb => by
              have hbw : Below w.heap.size w w' := HB6.out.trans (hb.mono hs6)
              obtain ⟨a0, a1, a2, a3, a4, a5, a6⟩ := HA0.out
              exact shapes0 b off ll lc vb voff vl vc a 1 c2 bA cap0 c d w' (cell_later hbw HH0.out) ⟨cell_later hbw a0, cell_later hbw a1, cell_later hbw a2, cell_later hbw a3, cell_later hbw a4, cell_later hbw a5, cell_later hbw a6⟩ (cell_later hbw HV.out) (HI.out.later hbw) (by omega) hvl)).mono fun e w2 ⟨a, c, h1, h2, h3⟩ => ⟨a, c, h1, h2, h3⟩)
          have C2 : Hid (∀ a c w', Two w' a c → Calls Try.prog 38 #[.slice a 1 c] w' fun e w2 => ∃ a' c', e = .returned (.slice a' 1 c') ∧ Below w'.heap.size w' w2) := hide (fun a c w' ht => (clone_two a c w' ht).mono fun e w2 ⟨a', c', h1, h2, h3⟩ => ⟨a', c', h1, h3⟩)
          go_wp2_with (first | (go_at_call 37; (with_reducible refine C1.out.mono ?_); rintro e w7 ⟨a7, c7, rfl, HT7, hb7⟩; have HB7 := hide hb7; have HO7 := hide (own_kept HO6.out hb7); clear hb7) | (go_at_call 38; (with_reducible refine (C2.out _ _ _ HT7.out).mono ?_); rintro e w8 ⟨a8, c8, rfl, hb8⟩; have HO8 := hide (own_kept HO7.out hb8); have HB8 := hide (HB6.out.trans ((HB7.out.mono hs6).trans (hb8.mono (Nat.le_trans hs6 HB7.out.size)))); have hs8 := HB8.out.size; clear hb8) | (at_builtin; refine wpList_append_own _ rfl _ _ 23 rfl w.heap.size 35 i0 (.slice none 0 0) 1 24 Try.underlying23 hi hz0 hz1 hz2 rfl (by decide) _ _ _ rfl (HO8.out.alloc _) ⟨w8.heap.size, 0, none⟩ 1 1 [.slice a8 1 c8] rfl rfl ?c1 ?c2 ?c3 ?c4 ?c5 ?_))
          case c1 => exact src_one _
          case c2 => exact own_one rfl
          case c3 => unfold maxLen; omega
          case c4 => omega
          case c5 => simp; omega
          intro v' w9 hown' hgrow _
          have HB9 := hide ((HB8.out.alloc hs8 _).grown hgrow (by simp; omega) (fun g hg => by exact (HO8.out.lt g hg).1))
          obtain ⟨g9, cap9, rfl, _⟩ := own_cases hown' (by omega)
          clear hown' hgrow
          go_wp2_with fail
          go_roundw
          case rel => exact ⟨2, rfl, HB9.out, .inr (.inr ⟨rfl, g9, cap9, rfl⟩)⟩
          case measure => simp [intOf]
    · go_wp2_with fail
      go_ret2
      exact ⟨_, cap, rfl, HB.out⟩
end Go.Proofs.Ytedpppkknmeheaa
