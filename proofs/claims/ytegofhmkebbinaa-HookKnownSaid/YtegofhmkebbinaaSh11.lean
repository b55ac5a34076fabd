/-
  The document's Hook. No condition.
-/
import Derived.Test.YtegofhmkebbinaaSh10
import Derived.Test.YtegofhmkebbinaaFlNeg
import Derived.Test.YtegofhmkebbinaaSh5F
import Derived.Deep.RegionLaw
import Derived.Deep.AppendLies
import Derived.ChangeSlices
namespace Go.Proofs.Ytegofhmkebbinaa
open Go.RowKit
attribute [local go_sem] run_store_float Fl.run_neg Fl.run_mul

namespace Fl
/-- Within -x and x, by two tests one behind the other. -/
def clipR (x y : Nat) : Nat := if gtB (if ltB y (negB x) then negB x else y) x then x else if ltB y (negB x) then negB x else y
theorem clipR_eq {x y : Nat} (h : oneB (2, x) = true) : clipR x y = clipB x y := by
  have hx : gtB (negB x) x = false := by
    unfold oneB at h
    rw [if_neg (show ¬ ((2 : Int) = 1) by omega), if_pos rfl, Bool.or_eq_true] at h
    exact not_above h
  unfold clipR clipB
  cases ltB y (negB x) with
  | true => simp [hx]
  | false => simp
end Fl
/-- A tensor, and an error's number: its shape may be another one's. -/
def Did2 (w' : World) (e : Ending) (r : Int × List Int × List (Option Nat)) : Prop :=
  ∃ a n c b m d D, e = .returned (.tuple #[.agg #[.slice a n c, .slice b m d], .int .i64 r.1]) ∧ Isl w' .i64 a n c r.2.1 ∧ Fl.Sl w' b m d D ∧ D.map Fl.can = r.2.2

theorem grown_cell {w w' : World} {row : Option Nat} (hg : w.grownBy w' row) {g k : Nat} (hl : g < w.heap.size) (hne : row ≠ some g) : w'.cell? ⟨g, k, none⟩ = w.cell? ⟨g, k, none⟩ ∧ w'.frozen? ⟨g, k, none⟩ = w.frozen? ⟨g, k, none⟩ :=
  ⟨World.cell?_of_block (hg.block g hl (fun e => hne e.symm)), World.frozen?_of_block (hg.block g hl (fun e => hne e.symm))⟩
theorem src_nums {w : World} {b : Option Addr} {m d : Nat} {D : List Nat} (h : Fl.Sl w b m d D) (hz : b = none → d = 0) : Src w b m d 1 (fvs D) := by
  cases b with
  | some ad => exact src_floats h
  | none =>
    have h0 : m = 0 := by
      have := h.2.1
      have := hz rfl
      omega
    exact ⟨by simp [fvs, h.1], .inl ⟨rfl, h0, hz rfl⟩⟩

theorem can_nought : Fl.can 0 = some 0 := by decide +kernel
theorem lt_of_row {w : World} {g : Nat} {o : Obj} (h : w.heap[g]? = some o) : g < w.heap.size := by
  rcases Nat.lt_or_ge g w.heap.size with h' | h'
  · exact h'
  · rw [Array.getElem?_eq_none h'] at h; cases h
theorem Fl.not_above_one {x : Nat} (h : oneB (2, x) = true) : Fl.gtB (Fl.negB x) x = false := by
  unfold oneB at h
  rw [if_neg (show ¬ ((2 : Int) = 1) by omega), if_pos rfl, Bool.or_eq_true] at h
  exact Fl.not_above h

set_option maxHeartbeats 8000000 in
theorem do_ref (p : Option Addr) (len cap : Nat) (hs : List (Int × Nat)) (a : Option Addr) (n c : Nat) (b : Option Addr) (m d : Nat) (S : List Int) (D : List Nat) (w : World) (hH : Hks w p len cap hs) (hS : Isl w .i64 a n c S) (hD : Fl.Sl w b m d D) (hl : len ≤ 1099511627776) (hn : n ≤ 1099511627776) (hm : m ≤ 1099511627776) (hz : b = none → d = 0) :
    Calls Try.prog 10 #[.slice p len cap, .agg #[.slice a n c, .slice b m d]] w fun e w' => Did2 w' e (resC hs S (D.map Fl.can)) ∧ Below w.heap.size w w' := by
  have hb0 : Below w.heap.size w ((w.alloc (.cells #[.slice a n c, .slice b m d] 26)).alloc (.cells #[.slice none 0 0, .slice none 0 0] 26)) := ((Below.refl _ _).alloc (Nat.le_refl _) _).alloc (by simp) _
  have x0 : ((w.alloc (.cells #[.slice a n c, .slice b m d] 26)).alloc (.cells #[.slice none 0 0, .slice none 0 0] 26)).cell? ⟨w.heap.size, 0, none⟩ = some (.slice a n c) := by simp
  have x1 : ((w.alloc (.cells #[.slice a n c, .slice b m d] 26)).alloc (.cells #[.slice none 0 0, .slice none 0 0] 26)).cell? ⟨w.heap.size, 1, none⟩ = some (.slice b m d) := by simp
  have r0 : ((w.alloc (.cells #[.slice a n c, .slice b m d] 26)).alloc (.cells #[.slice none 0 0, .slice none 0 0] 26)).heap[w.heap.size + 1]? = some (.cells #[.slice none 0 0, .slice none 0 0] 26 (0, 0)) := by
    have := heap_alloc_new (w.alloc (.cells #[.slice a n c, .slice b m d] 26)) (.cells #[.slice none 0 0, .slice none 0 0] 26)
    simpa using this
  have l0 : ((w.alloc (.cells #[.slice a n c, .slice b m d] 26)).alloc (.cells #[.slice none 0 0, .slice none 0 0] 26)).heap.size = w.heap.size + 2 := by simp
  have rb0 : ((w.alloc (.cells #[.slice a n c, .slice b m d] 26)).alloc (.cells #[.slice none 0 0, .slice none 0 0] 26)).heap[w.heap.size]? = some (.cells #[.slice a n c, .slice b m d] 26 (0, 0)) :=
    (((Below.refl _ _).alloc (Nat.le_refl _) (.cells #[.slice none 0 0, .slice none 0 0] 26)).block w.heap.size (by simp)).trans (heap_alloc_new w _)
  have HH := hide (hH.later hb0)
  have HS := hide (hS.later hb0)
  have HD := hide (hD.later hb0)
  have HHL := hide hH.1
  have HH0 := hide hH
  have HS0 := hide hS
  have HDL := hide hD.1
  clear hH hS hD
  go_enter Try.func10, Try.ntmps10
  go_wp2_with fail
  generalize (w.alloc (.cells #[.slice a n c, .slice b m d] 26)).alloc (.cells #[.slice none 0 0, .slice none 0 0] 26) = W0 at hb0 x0 x1 r0 l0 rb0 HH HS HD ⊢
  have HRB := hide rb0
  clear rb0
  have HB0 := hide hb0
  have HR0 := hide r0
  have HL0 := hide l0
  have HX := hide (And.intro x0 x1)
  clear hb0 r0 l0 x0 x1
  cases hmy : maysB hs with
  | false =>
    have C := hide (mays_ref p len cap hs W0 HH.out hl)
    rw [hmy] at C
    refine C.out.mono ?_
    rintro e w1 ⟨rfl, hb1⟩
    obtain ⟨o0, o1, o2, o3⟩ := two_cells ((hb1.block (w.heap.size + 1) (by rw [HL0.out]; omega)).trans HR0.out)
    have HB1 := hide (HB0.out.trans (hb1.mono HB0.out.size))
    have HRES := hide (show resC hs S (D.map Fl.can) = (8, [], []) by unfold resC; rw [if_pos hmy])
    clear hb1
    go_wp2_with fail
    (try simp only [Exit.inBlock, Exit.then])
    refine bodyPost_ret (v := .tuple #[.agg #[.slice none 0 0, .slice none 0 0], .int .i64 8]) (by simp [results, Try.results10, go_sem, o0, o1]) rfl ?_
    rw [HRES.out]
    exact ⟨⟨none, 0, 0, none, 0, 0, [], rfl, (ten_none 0 _).isl, (ten_none 0 _).sl, rfl⟩, (HB1.out.setCell (by simp) _).setCell (by simp) _⟩
  | true =>
    have C := hide (mays_ref p len cap hs W0 HH.out hl)
    rw [hmy] at C
    refine C.out.mono ?_
    rintro e w1 ⟨rfl, hb1⟩
    have y0 := cell_later hb1 HX.out.1
    have y1 := cell_later hb1 HX.out.2
    have HB1 := hide hb1
    have HS1 := hide (HS.out.later hb1)
    have HD1 := hide (HD.out.later hb1)
    have HMY := hide hmy
    clear hb1 hmy
    go_wp2_with fail
    have C2 := hide (may_ref a n c b m d S w1 HS1.out hn)
    cases hmt : mayB S m with
    | false =>
      rw [hmt] at C2
      refine C2.out.mono ?_
      rintro e w2 ⟨rfl, hb2⟩
      obtain ⟨o0, o1, o2, o3⟩ := two_cells (((HB1.out.trans (hb2.mono HB1.out.size)).block (w.heap.size + 1) (by rw [HL0.out]; omega)).trans HR0.out)
      have HB2 := hide (HB0.out.trans ((HB1.out.trans (hb2.mono HB1.out.size)).mono HB0.out.size))
      have HRES := hide (show resC hs S (D.map Fl.can) = (2, [], []) by unfold resC; rw [if_neg (by rw [HMY.out]; simp), List.length_map, HDL.out, if_pos hmt])
      clear hb2 y0 y1
      go_wp2_with fail
      (try simp only [Exit.inBlock, Exit.then])
      refine bodyPost_ret (v := .tuple #[.agg #[.slice none 0 0, .slice none 0 0], .int .i64 2]) (by simp [results, Try.results10, go_sem, o0, o1]) rfl ?_
      rw [HRES.out]
      exact ⟨⟨none, 0, 0, none, 0, 0, [], rfl, (ten_none 0 _).isl, (ten_none 0 _).sl, rfl⟩, (HB2.out.setCell (by simp) _).setCell (by simp) _⟩
    | true =>
      rw [hmt] at C2
      refine C2.out.mono ?_
      rintro e w2 ⟨rfl, hb2⟩
      have z0 := cell_later hb2 y0
      have z1 := cell_later hb2 y1
      have HB2 := hide (HB1.out.trans (hb2.mono HB1.out.size))
      have HMT := hide hmt
      have HS2 := hide (HS1.out.later hb2)
      have HD2 := hide (HD1.out.later hb2)
      clear hb2 hmt y0 y1
      obtain ⟨i0, hi, hz0, hz1, hz2⟩ := parts_of float_info
      have hl2 : w.heap.size + 2 ≤ w2.heap.size := by have := HB2.out.size; have := HL0.out; omega
      have HR3 := hide ((HB2.out.block w.heap.size (by rw [HL0.out]; omega)).trans HRB.out)
      obtain ⟨-, -, f0, f1⟩ := two_cells HR3.out
      have HZ := hide hz
      go_wp2_with fail
      go_region_law (refine step_append_at (o := ⟨some 22, _, _, _, _, _⟩) rfl (.const (.slice none 0 0)) (.tmp 21) 24 rfl (w.heap.size + 2) 43 i0 (.float .f64 0) 1 8 Try.underlying24 hi hz0 hz1 hz2 rfl (by decide) (.slice none 0 0) 0 [] (by first | (simp [Act.eval]; done) | simp [Act.eval, Act.put]) (World.ownsRow_nil _ _ _ 1) b m d (fvs D) (by first | (simp [Act.eval]; done) | simp [Act.eval, Act.put]) (src_nums HD2.out HZ.out) (fvs_one _) (by unfold maxLen; omega) (by omega) (by simpa using hl2) ?_; intro v3 w3 hown3 hgrow3 hat3; obtain ⟨b3, d3, rfl, -⟩ := Fl.Sl_of_own hown3; have q0 := (grown_cell (k := 0) hgrow3 (by simp; omega : w.heap.size < _) (by simp [Value.ownBlock])); have q1 := (grown_cell (k := 1) hgrow3 (by simp; omega : w.heap.size < _) (by simp [Value.ownBlock])); have c0 : w3.cell? ⟨w.heap.size, 0, none⟩ = some (.slice a n c) := q0.1.trans z0; have c1 : w3.cell? ⟨w.heap.size, 1, none⟩ = some (.slice b m d) := q1.1.trans z1; have HO3 := hide hown3; have HG3 := hide hgrow3; clear hown3 hgrow3 hat3)
      all_goals (
        have HT3 : Hid (Ten (w.heap.size + 2) w3 none 0 0 b3 m d3 [] D) := ⟨World.ownsRow_nil _ _ _ 1, by have h9 := HO3.out; rw [Nat.zero_add, List.nil_append] at h9; exact h9⟩
        have HR3' := hide ((HG3.out.block w.heap.size (show w.heap.size < w2.heap.size by omega) (by simp [Value.ownBlock])).trans HR3.out)
        have HB3 := hide (Below.own (below_drewN HB2.out 1) (World.ownsRow_nil _ W0.heap.size 43 1) HG3.out HB2.out.size)
        clear q0 q1 c0 c1 z0 z1 f0 f1
        -- TAIL
        have hzero3 := (HB3.out.block (w.heap.size + 1) (by rw [HL0.out]; omega)).trans HR0.out
        have ht4 : Ten (w.heap.size + 2) ((w3.setCell ⟨w.heap.size, 0, none⟩ (.slice a n c)).setCell ⟨w.heap.size, 1, none⟩ (.slice b3 m d3)) none 0 0 b3 m d3 [] D := put_ten HT3.out HR3'.out _ _
        have hr4 : ((w3.setCell ⟨w.heap.size, 0, none⟩ (.slice a n c)).setCell ⟨w.heap.size, 1, none⟩ (.slice b3 m d3)).heap[w.heap.size]? = some (.cells #[.slice a n c, .slice b3 m d3] 26 (0, 0)) := put_self HR3'.out
        have hz4 : ((w3.setCell ⟨w.heap.size, 0, none⟩ (.slice a n c)).setCell ⟨w.heap.size, 1, none⟩ (.slice b3 m d3)).heap[w.heap.size + 1]? = some (.cells #[.slice none 0 0, .slice none 0 0] 26 (0, 0)) := (Below.heap_setCell _ _ _ _ (show w.heap.size + 1 ≠ w.heap.size by omega)).trans ((Below.heap_setCell _ _ _ _ (show w.heap.size + 1 ≠ w.heap.size by omega)).trans hzero3)
        have hb4 : Below w.heap.size w ((w3.setCell ⟨w.heap.size, 0, none⟩ (.slice a n c)).setCell ⟨w.heap.size, 1, none⟩ (.slice b3 m d3)) := ((HB0.out.trans (HB3.out.mono HB0.out.size)).setCell (Nat.le_refl _) _).setCell (Nat.le_refl _) _
        go_wp2_with fail
        generalize ((w3.setCell ⟨w.heap.size, 0, none⟩ (.slice a n c)).setCell ⟨w.heap.size, 1, none⟩ (.slice b3 m d3)) = W4 at ht4 hr4 hz4 hb4 ⊢
        clear hzero3
        go_loopw [6] (fun i wr => ∃ (k : Nat) (D' : List Nat), k ≤ len ∧ i = .int .i64 k ∧ Ten (w.heap.size + 2) wr none 0 0 b3 m d3 [] D' ∧ wr.heap[w.heap.size]? = some (.cells #[.slice a n c, .slice b3 m d3] 26 (0, 0)) ∧ wr.heap[w.heap.size + 1]? = some (.cells #[.slice none 0 0, .slice none 0 0] 26 (0, 0)) ∧ Below w.heap.size w wr ∧ Hid (D'.length = m ∧ doC hs (D.map Fl.can) = doC (hs.drop k) (D'.map Fl.can))) (fun i _ => len - (intOf i).toNat)
        case atStart => exact ⟨0, D, Nat.zero_le _, rfl, ht4, hr4, hz4, hb4, HDL.out, by rw [List.drop_zero]⟩
        case round =>
          obtain ⟨k, D', hk', rfl, ht, hr6', hr4', hbel, HU⟩ := hrel
          clear ht4 hr4 hz4 hb4
          by_cases hlt : k < len
          · obtain ⟨g, off, rfl, hc0, hc1⟩ := HH0.out.2.2 k hlt
            have hr0 := cell_later hbel hc0
            have hr1 := cell_later hbel hc1
            have hone := mays_one HMY.out (k := k) (by rw [HHL.out]; exact hlt)
            have hdrop := hk_drop (hs := hs) (k := k) (by rw [HHL.out]; exact hlt)
            obtain ⟨⟨E, x⟩, hx⟩ : ∃ x, hk hs k = x := ⟨_, rfl⟩
            rw [hx] at hr0 hr1 hone hdrop
            have HDR := hide hdrop
            have HT := hide ht
            have HR := hide (And.intro hr6' hr4')
            have HBE := hide hbel
            have hkinds := one_kinds hone
            simp only at hkinds
            have HON := hide hone
            obtain ⟨p0, p1, p2, p3⟩ := two_cells hr6'
            clear hx hc0 hc1 hone hdrop ht hr6' hr4' hbel
            obtain ⟨wo, rfl⟩ : ∃ wo : World, wo = wr := ⟨_, rfl⟩
            have hso : w.heap.size + 1 < wo.heap.size := lt_of_row HR.out.2
            have HSO := hide hso
            have hsn : w.heap.size < wo.heap.size := by omega
            have hsm : w.heap.size ≠ wo.heap.size := by omega
            have hb8 : ∀ v : Value, Below wo.heap.size wo (wo.alloc (.cells #[v, .float .f64 x] 48)) := fun v => (Below.refl _ _).alloc (Nat.le_refl _) _
            rcases hkinds with rfl | rfl | rfl | rfl
            · go_wp2_with fail
              go_loopw [8, 9] (fun j v wr => ∃ (i : Nat) (D2 : List Nat), i ≤ m ∧ j = .int .i64 i ∧ Ten (w.heap.size + 2) wr none 0 0 b3 m d3 [] D2 ∧ wr.heap[w.heap.size]? = some (.cells #[.slice a n c, .slice b3 m d3] 26 (0, 0)) ∧ wr.heap[w.heap.size + 1]? = some (.cells #[.slice none 0 0, .slice none 0 0] 26 (0, 0)) ∧ wr.heap[wo.heap.size]? = some (.cells #[.int .i64 1, .float .f64 x] 48 (0, 0)) ∧ Below w.heap.size w wr ∧ Hid (Upto (fun c => Fl.opC .mul c (Fl.can x)) D' D2 i)) (fun j _ _ => m - (intOf j).toNat)
              case atStart => exact ⟨0, D', Nat.zero_le _, rfl, HT.out.below (hb8 (.int .i64 1)), ((hb8 (.int .i64 1)).block _ (by have := HSO.out; omega)).trans HR.out.1, ((hb8 (.int .i64 1)).block _ HSO.out).trans HR.out.2, heap_alloc_new wo _, HBE.out.trans ((hb8 (.int .i64 1)).mono HBE.out.size), upto_start _ _⟩
              case round =>
                obtain ⟨i, D2, hi', rfl, ht2, hr62, hr42, hrq2, hbel2, HU2⟩ := hrel
                by_cases hlt2 : i < m
                · obtain ⟨gd, rfl, hgd, hgl, cur, hcur⟩ := ht2.form (by omega)
                  obtain ⟨q1, q2⟩ := ht2.cell hlt2
                  obtain ⟨t0, t1, t2, t3⟩ := two_cells hr62
                  obtain ⟨u0, u1, u2, u3⟩ := two_cells hrq2
                  obtain ⟨y, hy⟩ : ∃ y, D2.getD i 0 = y := ⟨_, rfl⟩
                  have hyD : D'.getD i 0 = y := by rw [← hy]; exact (HU2.out.2.2 i (Nat.le_refl _)).symm
                  rw [hy] at q1
                  have HY := hide hyD
                  have HT2 := hide ht2
                  have HR2 := hide (And.intro hr62 (And.intro hr42 hrq2))
                  have HBE2 := hide hbel2
                  have hneq : wo.heap.size ≠ gd := fun e => by rw [e, hcur] at hrq2; injection hrq2 with h; injection h with _ h; exact absurd h (by decide)
                  have HNE := hide (And.intro hneq (And.intro (show w.heap.size ≠ gd by omega) (show w.heap.size + 1 ≠ gd by omega)))
                  have HG := hide (And.intro hgd hgl)
                  have hi0 : (0 : Int) ≤ (i : Int) := by omega
                  have hi1 : (i : Int) < (m : Int) := by omega
                  clear hy hyD ht2 hr62 hr42 hrq2 hbel2 hneq hgd hgl hcur
                  go_wp2_with fail
                  go_roundw
                  case rel => exact ⟨i + 1, D2.set i _, by omega, by go_num, (HT2.out.below (below_drewN (Below.refl _ _) _)).store i _, (Below.heap_setCell _ _ _ _ HNE.out.2.1).trans HR2.out.1, (Below.heap_setCell _ _ _ _ HNE.out.2.2).trans HR2.out.2.1, (Below.heap_setCell _ _ _ _ HNE.out.1).trans HR2.out.2.2, (below_drewN HBE2.out _).setCell (show w.heap.size ≤ gd by have := HG.out.1; omega) _, upto_step HU2.out (by rw [HU.out.1]; exact hlt2) (by rw [HY.out]; exact Fl.can_opV _ _ _ _)⟩
                  case measure => simp [intOf]; omega
                · obtain rfl : m = i := by omega
                  obtain ⟨t0, t1, t2, t3⟩ := two_cells hr62
                  have HT2 := hide ht2
                  have HR2 := hide (And.intro hr62 hr42)
                  have HBE2 := hide hbel2
                  have HE := hide (upto_end (show Upto (fun c => Fl.opC .mul c (Fl.can x)) D' D2 D'.length by rw [HU.out.1]; exact HU2.out))
                  have HL2 := hide (HU2.out.1.trans HU.out.1)
                  clear ht2 hr62 hr42 hrq2 hbel2
                  go_wp2_with fail
                  go_roundw
                  case rel => exact ⟨k + 1, D2, by omega, by go_num, HT2.out, HR2.out.1, HR2.out.2, HBE2.out, HL2.out, by rw [HU.out.2, HDR.out]; exact congrArg (doC (hs.drop (k + 1))) HE.out.symm⟩
                  case measure => simp [intOf]; omega
            · go_wp2_with fail
              go_loopw [8, 9] (fun j v wr => ∃ (i : Nat) (D2 : List Nat), i ≤ m ∧ j = .int .i64 i ∧ Ten (w.heap.size + 2) wr none 0 0 b3 m d3 [] D2 ∧ wr.heap[w.heap.size]? = some (.cells #[.slice a n c, .slice b3 m d3] 26 (0, 0)) ∧ wr.heap[w.heap.size + 1]? = some (.cells #[.slice none 0 0, .slice none 0 0] 26 (0, 0)) ∧ wr.heap[wo.heap.size]? = some (.cells #[.int .i64 2, .float .f64 x] 48 (0, 0)) ∧ Below w.heap.size w wr ∧ Hid (Upto (Fl.clipC x) D' D2 i)) (fun j _ _ => m - (intOf j).toNat)
              case atStart => exact ⟨0, D', Nat.zero_le _, rfl, HT.out.below (hb8 (.int .i64 2)), ((hb8 (.int .i64 2)).block _ (by have := HSO.out; omega)).trans HR.out.1, ((hb8 (.int .i64 2)).block _ HSO.out).trans HR.out.2, heap_alloc_new wo _, HBE.out.trans ((hb8 (.int .i64 2)).mono HBE.out.size), upto_start _ _⟩
              case round =>
                obtain ⟨i, D2, hi', rfl, ht2, hr62, hr42, hrq2, hbel2, HU2⟩ := hrel
                by_cases hlt2 : i < m
                · obtain ⟨gd, rfl, hgd, hgl, cur, hcur⟩ := ht2.form (by omega)
                  obtain ⟨q1, q2⟩ := ht2.cell hlt2
                  obtain ⟨t0, t1, t2, t3⟩ := two_cells hr62
                  obtain ⟨u0, u1, u2, u3⟩ := two_cells hrq2
                  obtain ⟨y, hy⟩ : ∃ y, D2.getD i 0 = y := ⟨_, rfl⟩
                  have hyD : D'.getD i 0 = y := by rw [← hy]; exact (HU2.out.2.2 i (Nat.le_refl _)).symm
                  rw [hy] at q1
                  have HY := hide hyD
                  have HT2 := hide ht2
                  have HR2 := hide (And.intro hr62 (And.intro hr42 hrq2))
                  have HBE2 := hide hbel2
                  have hneq : wo.heap.size ≠ gd := fun e => by rw [e, hcur] at hrq2; injection hrq2 with h; injection h with _ h; exact absurd h (by decide)
                  have HNE := hide (And.intro hneq (And.intro (show w.heap.size ≠ gd by omega) (show w.heap.size + 1 ≠ gd by omega)))
                  have HG := hide (And.intro hgd hgl)
                  have hi0 : (0 : Int) ≤ (i : Int) := by omega
                  have hi1 : (i : Int) < (m : Int) := by omega
                  clear hy hyD ht2 hr62 hr42 hrq2 hbel2 hneq hgd hgl hcur
                  cases h1 : Fl.ltB y (Fl.negB x) with
                  | true =>
                    have e1 : (FloatKind.f64.format.order y (Op.negFloat .f64 x) == some .lt) = true := h1
                    have h2 := Fl.not_above_one HON.out
                    have e2 : (FloatKind.f64.format.order (Op.negFloat .f64 x) x == some .gt) = false := h2
                    have HV := hide (show Fl.can (Fl.negB x) = Fl.clipC x (Fl.can y) by rw [← Fl.can_clip]; unfold Fl.clipB; rw [h1]; rfl)
                    clear h1 h2
                    go_wp2_with fail
                    go_roundw
                    case rel => exact ⟨i + 1, D2.set i (Fl.negB x), by omega, by go_num, HT2.out.store i _, (Below.heap_setCell _ _ _ _ HNE.out.2.1).trans HR2.out.1, (Below.heap_setCell _ _ _ _ HNE.out.2.2).trans HR2.out.2.1, (Below.heap_setCell _ _ _ _ HNE.out.1).trans HR2.out.2.2, HBE2.out.setCell (show w.heap.size ≤ gd by have := HG.out.1; omega) _, upto_step HU2.out (by rw [HU.out.1]; exact hlt2) (by rw [HY.out]; exact HV.out)⟩
                    case measure => simp [intOf]; omega
                  | false =>
                    have e1 : (FloatKind.f64.format.order y (Op.negFloat .f64 x) == some .lt) = false := h1
                    cases h2 : Fl.gtB y x with
                    | true =>
                      have e2 : (FloatKind.f64.format.order y x == some .gt) = true := h2
                      have HV := hide (show Fl.can x = Fl.clipC x (Fl.can y) by rw [← Fl.can_clip]; unfold Fl.clipB; rw [h1, h2]; rfl)
                      clear h1 h2
                      go_wp2_with fail
                      go_roundw
                      case rel => exact ⟨i + 1, D2.set i x, by omega, by go_num, HT2.out.store i _, (Below.heap_setCell _ _ _ _ HNE.out.2.1).trans HR2.out.1, (Below.heap_setCell _ _ _ _ HNE.out.2.2).trans HR2.out.2.1, (Below.heap_setCell _ _ _ _ HNE.out.1).trans HR2.out.2.2, HBE2.out.setCell (show w.heap.size ≤ gd by have := HG.out.1; omega) _, upto_step HU2.out (by rw [HU.out.1]; exact hlt2) (by rw [HY.out]; exact HV.out)⟩
                      case measure => simp [intOf]; omega
                    | false =>
                      have e2 : (FloatKind.f64.format.order y x == some .gt) = false := h2
                      have HV := hide (show Fl.can y = Fl.clipC x (Fl.can y) by rw [← Fl.can_clip]; unfold Fl.clipB; rw [h1, h2]; rfl)
                      clear h1 h2
                      go_wp2_with fail
                      go_roundw
                      case rel => exact ⟨i + 1, D2.set i y, by omega, by go_num, HT2.out.store i _, (Below.heap_setCell _ _ _ _ HNE.out.2.1).trans HR2.out.1, (Below.heap_setCell _ _ _ _ HNE.out.2.2).trans HR2.out.2.1, (Below.heap_setCell _ _ _ _ HNE.out.1).trans HR2.out.2.2, HBE2.out.setCell (show w.heap.size ≤ gd by have := HG.out.1; omega) _, upto_step HU2.out (by rw [HU.out.1]; exact hlt2) (by rw [HY.out]; exact HV.out)⟩
                      case measure => simp [intOf]; omega
                · obtain rfl : m = i := by omega
                  obtain ⟨t0, t1, t2, t3⟩ := two_cells hr62
                  have HT2 := hide ht2
                  have HR2 := hide (And.intro hr62 hr42)
                  have HBE2 := hide hbel2
                  have HE := hide (upto_end (show Upto (Fl.clipC x) D' D2 D'.length by rw [HU.out.1]; exact HU2.out))
                  have HL2 := hide (HU2.out.1.trans HU.out.1)
                  clear ht2 hr62 hr42 hrq2 hbel2
                  go_wp2_with fail
                  go_roundw
                  case rel => exact ⟨k + 1, D2, by omega, by go_num, HT2.out, HR2.out.1, HR2.out.2, HBE2.out, HL2.out, by rw [HU.out.2, HDR.out]; exact congrArg (doC (hs.drop (k + 1))) HE.out.symm⟩
                  case measure => simp [intOf]; omega
            · go_wp2_with fail
              go_loopw [8, 9] (fun j v wr => ∃ (i : Nat) (D2 : List Nat), i ≤ m ∧ j = .int .i64 i ∧ Ten (w.heap.size + 2) wr none 0 0 b3 m d3 [] D2 ∧ wr.heap[w.heap.size]? = some (.cells #[.slice a n c, .slice b3 m d3] 26 (0, 0)) ∧ wr.heap[w.heap.size + 1]? = some (.cells #[.slice none 0 0, .slice none 0 0] 26 (0, 0)) ∧ wr.heap[wo.heap.size]? = some (.cells #[.int .i64 3, .float .f64 x] 48 (0, 0)) ∧ Below w.heap.size w wr ∧ Hid (Upto (fun _ => some 0) D' D2 i)) (fun j _ _ => m - (intOf j).toNat)
              case atStart => exact ⟨0, D', Nat.zero_le _, rfl, HT.out.below (hb8 (.int .i64 3)), ((hb8 (.int .i64 3)).block _ (by have := HSO.out; omega)).trans HR.out.1, ((hb8 (.int .i64 3)).block _ HSO.out).trans HR.out.2, heap_alloc_new wo _, HBE.out.trans ((hb8 (.int .i64 3)).mono HBE.out.size), upto_start _ _⟩
              case round =>
                obtain ⟨i, D2, hi', rfl, ht2, hr62, hr42, hrq2, hbel2, HU2⟩ := hrel
                by_cases hlt2 : i < m
                · obtain ⟨gd, rfl, hgd, hgl, cur, hcur⟩ := ht2.form (by omega)
                  obtain ⟨q1, q2⟩ := ht2.cell hlt2
                  obtain ⟨t0, t1, t2, t3⟩ := two_cells hr62
                  obtain ⟨u0, u1, u2, u3⟩ := two_cells hrq2
                  obtain ⟨y, hy⟩ : ∃ y, D2.getD i 0 = y := ⟨_, rfl⟩
                  have hyD : D'.getD i 0 = y := by rw [← hy]; exact (HU2.out.2.2 i (Nat.le_refl _)).symm
                  rw [hy] at q1
                  have HY := hide hyD
                  have HT2 := hide ht2
                  have HR2 := hide (And.intro hr62 (And.intro hr42 hrq2))
                  have HBE2 := hide hbel2
                  have hneq : wo.heap.size ≠ gd := fun e => by rw [e, hcur] at hrq2; injection hrq2 with h; injection h with _ h; exact absurd h (by decide)
                  have HNE := hide (And.intro hneq (And.intro (show w.heap.size ≠ gd by omega) (show w.heap.size + 1 ≠ gd by omega)))
                  have HG := hide (And.intro hgd hgl)
                  have hi0 : (0 : Int) ≤ (i : Int) := by omega
                  have hi1 : (i : Int) < (m : Int) := by omega
                  clear hy hyD ht2 hr62 hr42 hrq2 hbel2 hneq hgd hgl hcur
                  go_wp2_with fail
                  go_roundw
                  case rel => exact ⟨i + 1, D2.set i 0, by omega, by go_num, HT2.out.store i _, (Below.heap_setCell _ _ _ _ HNE.out.2.1).trans HR2.out.1, (Below.heap_setCell _ _ _ _ HNE.out.2.2).trans HR2.out.2.1, (Below.heap_setCell _ _ _ _ HNE.out.1).trans HR2.out.2.2, HBE2.out.setCell (show w.heap.size ≤ gd by have := HG.out.1; omega) _, upto_step HU2.out (by rw [HU.out.1]; exact hlt2) (by exact can_nought)⟩
                  case measure => simp [intOf]; omega
                · obtain rfl : m = i := by omega
                  obtain ⟨t0, t1, t2, t3⟩ := two_cells hr62
                  have HT2 := hide ht2
                  have HR2 := hide (And.intro hr62 hr42)
                  have HBE2 := hide hbel2
                  have HE := hide (upto_end (show Upto (fun _ => some 0) D' D2 D'.length by rw [HU.out.1]; exact HU2.out))
                  have HL2 := hide (HU2.out.1.trans HU.out.1)
                  clear ht2 hr62 hr42 hrq2 hbel2
                  go_wp2_with fail
                  go_roundw
                  case rel => exact ⟨k + 1, D2, by omega, by go_num, HT2.out, HR2.out.1, HR2.out.2, HBE2.out, HL2.out, by rw [HU.out.2, HDR.out]; exact congrArg (doC (hs.drop (k + 1))) HE.out.symm⟩
                  case measure => simp [intOf]; omega
            · have C := hide (finite_ref a n c b3 m d3 S D' (wo.alloc (.cells #[.int .i64 4, .float .f64 x] 48)) ((HS0.out.later (HBE.out.trans ((hb8 _).mono HBE.out.size)))) (HT.out.below (hb8 _)).sl hn hm HMT.out)
              cases hodd : Fl.oddAny D' with
              | true =>
                rw [hodd] at C
                have HO := hide hodd
                clear hodd
                go_wp2_with fail
                refine C.out.mono ?_
                rintro e w5 ⟨rfl, hb5⟩
                have hall := (hb8 (.int .i64 4)).trans (hb5.mono (hb8 (.int .i64 4)).size)
                obtain ⟨o0, o1, o2, o3⟩ := two_cells ((hall.block _ HSO.out).trans HR.out.2)
                have HB5 := hide (HBE.out.trans (hall.mono HBE.out.size))
                have HRES := hide (show resC hs S (D.map Fl.can) = (8, [], []) by
                  unfold resC
                  rw [if_neg (by rw [HMY.out]; simp), List.length_map, HDL.out, if_neg (by rw [HMT.out]; simp), HU.out.2, HDR.out]
                  have h1 : stepC (4, x) (D'.map Fl.can) = none := if_pos (show (D'.map Fl.can).any Fl.oddC = true from HO.out)
                  show (match (stepC (4, x) (D'.map Fl.can)).bind (doC (hs.drop (k + 1))) with | none => _ | some r => _) = _
                  rw [h1]; rfl)
                clear hb5 hall p0 p1 p2 p3
                go_wp2_with fail
                (try simp only [Exit.inBlock, Exit.then])
                refine bodyPost_ret (v := .tuple #[.agg #[.slice none 0 0, .slice none 0 0], .int .i64 8]) (by simp [results, Try.results10, go_sem, o0, o1]) rfl ?_
                rw [HRES.out]
                exact ⟨⟨none, 0, 0, none, 0, 0, [], rfl, (ten_none 0 _).isl, (ten_none 0 _).sl, rfl⟩, (HB5.out.setCell (by simp) _).setCell (by simp) _⟩
              | false =>
                rw [hodd] at C
                have HO := hide hodd
                clear hodd
                go_wp2_with fail
                refine C.out.mono ?_
                rintro e w5 ⟨rfl, hb5⟩
                have hall := (hb8 (.int .i64 4)).trans (hb5.mono (hb8 (.int .i64 4)).size)
                have hq5 := (hb5.block wo.heap.size (by simp)).trans (heap_alloc_new wo (.cells #[.int .i64 4, .float .f64 x] 48))
                have HALL := hide hall
                have HST := hide (show stepC (4, x) (D'.map Fl.can) = some (D'.map Fl.can) from if_neg (show ¬ (D'.map Fl.can).any Fl.oddC = true by rw [show (D'.map Fl.can).any Fl.oddC = false from HO.out]; simp))
                obtain ⟨p0, p1, p2, p3⟩ := two_cells ((hall.block _ (by have := HSO.out; omega)).trans HR.out.1)
                clear hb5 hall
                go_wp2_with fail
                go_loopw [8, 9] (fun j v wr => ∃ (i : Nat) (D2 : List Nat), i ≤ m ∧ j = .int .i64 i ∧ Ten (w.heap.size + 2) wr none 0 0 b3 m d3 [] D2 ∧ wr.heap[w.heap.size]? = some (.cells #[.slice a n c, .slice b3 m d3] 26 (0, 0)) ∧ wr.heap[w.heap.size + 1]? = some (.cells #[.slice none 0 0, .slice none 0 0] 26 (0, 0)) ∧ wr.heap[wo.heap.size]? = some (.cells #[.int .i64 4, .float .f64 x] 48 (0, 0)) ∧ Below w.heap.size w wr ∧ Hid (Upto (fun c => c) D' D2 i)) (fun j _ _ => m - (intOf j).toNat)
                case atStart => exact ⟨0, D', Nat.zero_le _, rfl, HT.out.below HALL.out, (HALL.out.block _ (by have := HSO.out; omega)).trans HR.out.1, (HALL.out.block _ HSO.out).trans HR.out.2, hq5, HBE.out.trans (HALL.out.mono HBE.out.size), upto_start _ _⟩
                case round =>
                  obtain ⟨i, D2, hi', rfl, ht2, hr62, hr42, hrq2, hbel2, HU2⟩ := hrel
                  by_cases hlt2 : i < m
                  · obtain ⟨gd, rfl, hgd, hgl, cur, hcur⟩ := ht2.form (by omega)
                    obtain ⟨q1, q2⟩ := ht2.cell hlt2
                    obtain ⟨t0, t1, t2, t3⟩ := two_cells hr62
                    obtain ⟨u0, u1, u2, u3⟩ := two_cells hrq2
                    obtain ⟨y, hy⟩ : ∃ y, D2.getD i 0 = y := ⟨_, rfl⟩
                    have hyD : D'.getD i 0 = y := by rw [← hy]; exact (HU2.out.2.2 i (Nat.le_refl _)).symm
                    rw [hy] at q1
                    have HY := hide hyD
                    have HT2 := hide ht2
                    have HR2 := hide (And.intro hr62 (And.intro hr42 hrq2))
                    have HBE2 := hide hbel2
                    have hneq : wo.heap.size ≠ gd := fun e => by rw [e, hcur] at hrq2; injection hrq2 with h; injection h with _ h; exact absurd h (by decide)
                    have HNE := hide (And.intro hneq (And.intro (show w.heap.size ≠ gd by omega) (show w.heap.size + 1 ≠ gd by omega)))
                    have HG := hide (And.intro hgd hgl)
                    have hi0 : (0 : Int) ≤ (i : Int) := by omega
                    have hi1 : (i : Int) < (m : Int) := by omega
                    clear hy hyD ht2 hr62 hr42 hrq2 hbel2 hneq hgd hgl hcur
                    go_wp2_with fail
                    go_roundw
                    case rel => exact ⟨i + 1, D2.set i y, by omega, by go_num, HT2.out.store i _, (Below.heap_setCell _ _ _ _ HNE.out.2.1).trans HR2.out.1, (Below.heap_setCell _ _ _ _ HNE.out.2.2).trans HR2.out.2.1, (Below.heap_setCell _ _ _ _ HNE.out.1).trans HR2.out.2.2, HBE2.out.setCell (show w.heap.size ≤ gd by have := HG.out.1; omega) _, upto_step HU2.out (by rw [HU.out.1]; exact hlt2) (by rw [HY.out])⟩
                    case measure => simp [intOf]; omega
                  · obtain rfl : m = i := by omega
                    obtain ⟨t0, t1, t2, t3⟩ := two_cells hr62
                    have HT2 := hide ht2
                    have HR2 := hide (And.intro hr62 hr42)
                    have HBE2 := hide hbel2
                    have HE := hide (upto_end (show Upto (fun c => c) D' D2 D'.length by rw [HU.out.1]; exact HU2.out))
                    have HL2 := hide (HU2.out.1.trans HU.out.1)
                    clear ht2 hr62 hr42 hrq2 hbel2
                    go_wp2_with fail
                    go_roundw
                    case rel => exact ⟨k + 1, D2, by omega, by go_num, HT2.out, HR2.out.1, HR2.out.2, HBE2.out, HL2.out, by rw [HU.out.2, HDR.out]; show (stepC (4, x) (D'.map Fl.can)).bind (doC (hs.drop (k + 1))) = _; rw [HST.out]; exact congrArg (doC (hs.drop (k + 1))) (by rw [HE.out, List.map_id'])⟩
                    case measure => simp [intOf]; omega
          · obtain rfl : len = k := by omega
            obtain ⟨p0, p1, p2, p3⟩ := two_cells hr6'
            obtain ⟨o0, o1, o2, o3⟩ := two_cells hr4'
            have HT := hide ht
            have HBE := hide hbel
            have HRES := hide (show resC hs S (D.map Fl.can) = (0, S, D'.map Fl.can) by unfold resC; rw [if_neg (by rw [HMY.out]; simp), List.length_map, HDL.out, if_neg (by rw [HMT.out]; simp), HU.out.2, List.drop_eq_nil_of_le (Nat.le_of_eq HHL.out)]; rfl)
            clear ht hbel hr6' hr4'
            go_wp2_with fail
            (try simp only [Exit.inBlock, Exit.then])
            refine bodyPost_ret (v := .tuple #[.agg #[.slice a n c, .slice b3 m d3], .int .i64 0]) (by simp [results, Try.results10, go_sem, o0, o1]) rfl ?_
            rw [HRES.out]
            have hbe := (HBE.out.setCell (show w.heap.size ≤ w.heap.size + 1 by omega) (p := ⟨w.heap.size + 1, 0, none⟩) (.slice a n c)).setCell (show w.heap.size ≤ w.heap.size + 1 by omega) (p := ⟨w.heap.size + 1, 1, none⟩) (.slice b3 m d3)
            exact ⟨⟨a, n, c, b3, m, d3, D', rfl, HS0.out.later hbe, ((HT.out.set (by simp) _).set (by simp) _).sl, rfl⟩, hbe⟩)
end Go.Proofs.Ytegofhmkebbinaa
