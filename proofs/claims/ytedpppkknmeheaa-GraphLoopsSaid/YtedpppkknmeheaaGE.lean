/-
  Package graph's shapes at the graphs of 'awake'. No condition.
-/
import Derived.Test.YtedpppkknmeheaaGD
namespace Go.Proofs.Ytedpppkknmeheaa
open Go.RowKit

theorem slice_info : (Try.prog.info? 35).map (fun i => (i.zero, i.size, i.bytes)) = some (some (.slice none 0 0), 1, 24) := by kernel_rfl
def Two (w : World) (a : Option Addr) (c : Nat) : Prop := Isl w .i64 a 1 c [2]
theorem Two.later {w w' : World} {a : Option Addr} {c : Nat} (h : Two w a c) (hb : Below w.heap.size w w') : Two w' a c := Isl.later h hb
theorem clone_two (a : Option Addr) (c : Nat) (w : World) (h : Two w a c) : Calls Try.prog 38 #[.slice a 1 c] w fun e w' => ∃ a' c', e = .returned (.slice a' 1 c') ∧ Two w' a' c' ∧ Below w.heap.size w w' := by
  obtain ⟨b, off, rfl, hc⟩ := h.2.2 0 (by omega)
  refine (Try.slices_Clone_int b off 1 c [2] w (Nat.le_refl _) (by omega) (fun j hj => (by obtain rfl : j = 0 := (by simpa using hj); exact hc))).mono fun e w' hw => ?_
  obtain ⟨v', rfl, hown, _, hb⟩ := hw
  obtain ⟨a', c', rfl, hI⟩ := Isl_of_own (zs := [2]) hown
  exact ⟨a', c', rfl, hI, hb⟩
theorem src_one {w : World} {v : Value} (t : TypeId) : ∀ j u, ([v] : List Value)[j]? = some u → (w.alloc (.cells #[v] t)).cell? ((⟨w.heap.size, 0, none⟩ : Addr).add j) = some u := by
  intro j u hj
  match j, hj with
  | 0, hj =>
    simp at hj; subst hj
    exact World.cell?_alloc_new w _ _ 0
theorem own_cell {w : World} {base : Nat} {e : TypeId} {g n cap : Nat} {xs : List Value} (h : w.ownsRow base e 1 (.slice (some ⟨g, 0, none⟩) n cap) n xs) {i : Nat} {u : Value} (hu : xs[i]? = some u) : w.cell? ⟨g, i, none⟩ = some u := by
  have := h.cells (g := g) rfl i u hu
  rwa [Go.WideShapes.add_plain, Nat.zero_add] at this

set_option maxRecDepth 100000 in
set_option maxHeartbeats 16000000 in
theorem shapes0 (b off ll lc vb voff vl vc : Nat) (pa : Option Addr) (pl pc bA cap0 : Nat) (c : Option Addr) (d : Nat) (w : World) (h0 : w.cell? ⟨b, off, none⟩ = some (.slice (some ⟨bA, 0, none⟩) 1 cap0))
    (hN : w.cell? ⟨bA, 0, none⟩ = some (.int .i64 1) ∧ w.cell? ⟨bA, 1, none⟩ = some (.slice none 0 0) ∧ w.cell? ⟨bA, 2, none⟩ = some (.slice none 0 0) ∧ w.cell? ⟨bA, 3, none⟩ = some (.int .i64 0) ∧ w.cell? ⟨bA, 4, none⟩ = some (.slice none 0 0) ∧ w.cell? ⟨bA, 5, none⟩ = some (.slice none 0 0) ∧ w.cell? ⟨bA, 6, none⟩ = some (.slice none 0 0))
    (hv : w.cell? ⟨vb, voff, none⟩ = some (.slice c 1 d)) (hI : Two w c d) (hll : 0 < ll) (hvl : 0 < vl) :
    Calls Try.prog 24 #[.slice (some ⟨b, off, none⟩) ll lc, .slice (some ⟨vb, voff, none⟩) vl vc, .int .i64 0, .slice pa pl pc] w (Shp1 w) := by
  obtain ⟨i0, hi, hz0, hz1, hz2⟩ := parts_of slice_info
  obtain ⟨c0, c1, c2, c3, c4, c5, c6⟩ := hN
  have HI := hide hI
  have HV := hide hv
  have HC := hide (And.intro c0 (And.intro c1 (And.intro c2 (And.intro c3 (And.intro c4 (And.intro c5 c6))))))
  clear hI hv c0 c1 c2 c3 c4 c5 c6
  go_enter Try.func24, Try.ntmps24
  go_wp2_with fail
  go_loopw [10, 24] (fun o i wr => ∃ k : Nat, i = .int .i64 k ∧ Hid (Below w.heap.size w wr) ∧ ((k = 0 ∧ o = .slice none 0 0) ∨ (k = 1 ∧ ∃ g cap a c, o = .slice (some ⟨g, 0, none⟩) 1 cap ∧ Hid (wr.cell? ⟨g, 0, none⟩ = some (.slice a 1 c)) ∧ Hid (Isl wr .i64 a 1 c [2])))) (fun _ i _ => 1 - (intOf i).toNat)
  case atStart => exact ⟨0, rfl, Below.refl _ _, .inl ⟨rfl, rfl⟩⟩
  case round =>
    obtain ⟨k, rfl, HB, hk⟩ := hrel
    rcases hk with ⟨rfl, rfl⟩ | ⟨rfl, g, cap, a, c', rfl, HG, HA⟩
    · have hsz := HB.out.size
      obtain ⟨c0, c1, c2, c3, c4, c5, c6⟩ := HC.out
      have d0 := cell_later HB.out c0
      have d1 := cell_later HB.out c1
      have d2 := cell_later HB.out c2
      have d3 := cell_later HB.out c3
      have d4 := cell_later HB.out c4
      have d5 := cell_later HB.out c5
      have d6 := cell_later HB.out c6
      clear c0 c1 c2 c3 c4 c5 c6
      obtain ⟨wo, rfl⟩ : ∃ wo : World, wo = wr := ⟨_, rfl⟩
      have HB1 : Hid (Below w.heap.size w (wo.alloc (.cells #[.int .i64 1, .slice none 0 0, .slice none 0 0, .int .i64 0, .slice none 0 0, .slice none 0 0, .slice none 0 0] 41))) := HB.out.alloc hsz _
      have hrow : (wo.alloc (.cells #[.int .i64 1, .slice none 0 0, .slice none 0 0, .int .i64 0, .slice none 0 0, .slice none 0 0, .slice none 0 0] 41)).heap[wo.heap.size]? = some (.cells #[.int .i64 1, .slice none 0 0, .slice none 0 0, .int .i64 0, .slice none 0 0, .slice none 0 0, .slice none 0 0] 41 (0, 0)) := heap_alloc_new _ _
      have HROW := hide hrow
      clear hrow
      go_wp2_with fail
      go_loopw [13, 31] (fun o i w2 => o = .slice none 0 0 ∧ i = .int .i64 0 ∧ (wo.alloc (.cells #[.int .i64 1, .slice none 0 0, .slice none 0 0, .int .i64 0, .slice none 0 0, .slice none 0 0, .slice none 0 0] 41)) = w2) (fun _ _ _ => 0)
      case atStart => exact ⟨rfl, rfl, rfl⟩
      case round =>
        obtain ⟨rfl, rfl, hw2⟩ := hrel
        have HB2 : Hid (Below w.heap.size w wr) := by unfold Hid; rw [← hw2]; exact HB1.out
        have hg : wr.heap[wo.heap.size]? = some (.cells #[.int .i64 1, .slice none 0 0, .slice none 0 0, .int .i64 0, .slice none 0 0, .slice none 0 0, .slice none 0 0] 41 (0, 0)) := by rw [← hw2]; exact HROW.out
        clear hw2
        have y0 := cell_of_row wr _ 0 _ _ _ hg
        have y1 := cell_of_row wr _ 1 _ _ _ hg
        have y2 := cell_of_row wr _ 2 _ _ _ hg
        have y3 := cell_of_row wr _ 3 _ _ _ hg
        have y4 := cell_of_row wr _ 4 _ _ _ hg
        have y5 := cell_of_row wr _ 5 _ _ _ hg
        have y6 := cell_of_row wr _ 6 _ _ _ hg
        have hv2 := cell_later HB2.out HV.out
        have HI2 := hide (HI.out.later HB2.out)
        have C1 : Hid (∀ (qa : Option Addr) (ql qc : Nat), Calls Try.prog 37 #[.slice (some ⟨b, off, none⟩) ll lc, .slice (some ⟨vb, voff, none⟩) vl vc, .agg #[.int .i64 1, .slice none 0 0, .slice none 0 0, .int .i64 0, .slice none 0 0, .slice none 0 0, .slice none 0 0], .slice pa pl pc, .slice qa ql qc] wr fun e w' => e = .returned (.tuple #[.slice c 1 d, .int .i64 0]) ∧ Below wr.heap.size wr w') := hide (fun qa ql qc => one_leaf _ ll lc vb voff vl vc pa pl pc qa ql qc c 1 d wr hv2 hvl)
        have C2 : Hid (∀ w', Below wr.heap.size wr w' → Calls Try.prog 38 #[.slice c 1 d] w' fun e w2 => ∃ a' c', e = .returned (.slice a' 1 c') ∧ Hid (Two w2 a' c') ∧ Below wr.heap.size wr w2) := hide (fun w' hb => (clone_two c d w' (HI2.out.later hb)).mono fun e w2 ⟨a', c', h1, h2, h3⟩ => ⟨a', c', h1, h2, hb.trans (h3.mono hb.size)⟩)
        clear hg hv2
        go_wp2_with (first | (go_at_call 37; (with_reducible refine (C1.out _ _ _).mono ?_); rintro e w3 ⟨rfl, hb3⟩; have HB3 := hide hb3; clear hb3) | (go_at_call 38; (with_reducible refine (C2.out _ HB3.out).mono ?_); rintro e w4 ⟨a', c', rfl, HT, hb4⟩; have HB4 := hide (HB2.out.trans (hb4.mono HB2.out.size)); have hs4 := HB4.out.size; clear hb4) | (at_builtin; refine wpList_append_own _ rfl _ _ 23 rfl w.heap.size 35 i0 (.slice none 0 0) 1 24 Try.underlying23 hi hz0 hz1 hz2 rfl (by decide) _ _ _ rfl (World.ownsRow_nil _ _ _ _) ⟨w4.heap.size, 0, none⟩ 1 1 [.slice a' 1 c'] rfl rfl ?c1 ?c2 ?c3 ?c4 ?c5 ?_))
        case c1 => exact src_one _
        case c2 => exact own_one rfl
        case c3 => unfold maxLen; omega
        case c4 => omega
        case c5 => simp; omega
        intro v' w5 hown' hgrow _
        have hb5 : Below w4.heap.size w4 w5 := ((Below.refl _ _).alloc (Nat.le_refl _) _).grown hgrow (by simp) (fun g hg => by cases hg)
        have HT5 := hide (HT.out.later hb5)
        have HB5 := hide (HB4.out.trans (hb5.mono hs4))
        obtain ⟨g, cap, rfl, hg⟩ := own_cases hown' (by omega)
        have HC5 := hide (own_cell hown' (i := 0) (u := .slice a' 1 c') rfl)
        clear hown' hgrow hb5 hg
        go_wp2_with fail
        go_roundw
        case rel => exact ⟨1, rfl, HB5.out, .inr ⟨rfl, g, cap, a', c', rfl, HC5.out, HT5.out⟩⟩
        case measure => simp [intOf]
    · go_wp2_with fail
      go_ret2
      exact ⟨g, cap, a, c', rfl, HG.out, HA.out, HB.out⟩
end Go.Proofs.Ytedpppkknmeheaa
