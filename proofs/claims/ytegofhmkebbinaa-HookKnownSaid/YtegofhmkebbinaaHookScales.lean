/-
  HookScales: scaled by whole numbers, clipped, zeroed: of small whole numbers as it is reckoned by hand. No condition.
-/
import Derived.Test.YtegofhmkebbinaaSh12
import Derived.Test.YtegofhmkebbinaaFlFin
import Derived.OpenShut
import Derived.Laws.Cover2
namespace Go.Proofs.Ytegofhmkebbinaa.HookScales
open Go.RowKit
attribute [local go_sem] run_store_float

theorem bounds_i8 {n : Int} (h : (Lit.int .i8 n).wf = true) : -128 ≤ n ∧ n ≤ 127 := by
  simp [Lit.wf, IntKind.min, IntKind.max, IntKind.signed, IntKind.bits] at h; omega
theorem hook_info : (Try.prog.info? 48).map (fun i => (i.zero, i.size, i.bytes)) = some (some (.agg #[.int .i64 0, .float .f64 0]), 2, 16) := by kernel_rfl
def flat (hs : List (Int × Nat)) : List Value := hs.flatMap fun h => [.int .i64 h.1, .float .f64 h.2]
theorem flat_cons (h : Int × Nat) (hs : List (Int × Nat)) : flat (h :: hs) = .int .i64 h.1 :: .float .f64 h.2 :: flat hs := rfl
theorem flat_at (hs : List (Int × Nat)) : ∀ i, i < hs.length → (flat hs)[i * 2]? = some (.int .i64 (hk hs i).1) ∧ (flat hs)[i * 2 + 1]? = some (.float .f64 (hk hs i).2) := by
  induction hs with
  | nil => intro i hi; simp at hi
  | cons h hs ih =>
    intro i hi
    rw [flat_cons]
    cases i with
    | zero => exact ⟨rfl, rfl⟩
    | succ i =>
      have h1 := ih i (by simpa using hi)
      rw [show (i + 1) * 2 = i * 2 + 1 + 1 by omega, List.getElem?_cons_succ, List.getElem?_cons_succ, show i * 2 + 1 + 1 + 1 = (i * 2 + 1) + 1 + 1 by omega, List.getElem?_cons_succ, List.getElem?_cons_succ]
      exact h1
theorem hks_own {w : World} {base : Nat} {v : Value} {n : Nat} {hs : List (Int × Nat)} (h : w.ownsRow base 48 2 v n (flat hs)) (hl : hs.length = n) : ∃ a cap, v = .slice a n cap ∧ Hks w a n cap hs := by
  rcases h.2 with ⟨rfl, rfl⟩ | ⟨g, cap, cur, rfl, _, hg, hn, _, hs', ht⟩
  · exact ⟨none, 0, rfl, hl, Nat.le_refl _, fun i hi => by omega⟩
  · refine ⟨_, cap, rfl, hl, hn, fun i hi => ?_⟩
    obtain ⟨f0, f1⟩ := flat_at hs i (by omega)
    have c0 := h.cells (g := g) rfl (i * 2) _ f0
    have c1 := h.cells (g := g) rfl (i * 2 + 1) _ f1
    rw [Go.WideShapes.add_plain, Nat.zero_add] at c0 c1
    refine ⟨g, 0, rfl, ?_, ?_⟩
    · rw [Nat.zero_add]; exact c0
    · rw [Nat.zero_add]; exact c1

theorem own_lit (w : World) (cur : Array Value) (n base : Nat) (hb : base ≤ w.heap.size) (hn : n ≤ maxLen) (hs : cur.size = n * 2) : (w.alloc (.cells cur 48)).ownsRow base 48 2 (.slice (some ⟨w.heap.size, 0, none⟩) n n) n cur.toList :=
  ⟨by simpa using hs, .inr ⟨w.heap.size, n, cur, rfl, hb, heap_alloc_new w _, Nat.le_refl _, hn, hs, List.take_of_length_le (by simp [hs])⟩⟩
theorem src2 (w : World) (u v : Value) (t : TypeId) : Src (w.alloc (.cells #[u, v] t)) (some ⟨w.heap.size, 0, none⟩) 1 1 2 [u, v] := by
  refine ⟨rfl, .inr ⟨_, rfl, fun j x hj => ?_⟩⟩
  match j, hj with
  | 0, hj =>
    simp at hj; subst hj
    exact World.cell?_alloc_new w _ _ 0
  | 1, hj =>
    simp at hj; subst hj
    exact World.cell?_alloc_new w _ _ 1
theorem one2 {u v : Value} (hu : u.oneCell' = true) (hv : v.oneCell' = true) : ∀ x ∈ [u, v], x.oneCell' = true := by
  intro x hx
  rcases List.mem_cons.1 hx with rfl | hx
  · exact hu
  · rw [List.mem_singleton.1 hx]; exact hv
theorem take_map_step (zs : List Int) (k : Nat) (h : k < zs.length) : (zs.take (k + 1)).map Fl.ofI = (zs.take k).map Fl.ofI ++ [Fl.ofI (zs.getD k 0)] := by
  rw [List.take_succ_eq_append_getElem h, List.map_append]; simp [List.getD, h]

set_option maxHeartbeats 8000000 in
theorem scales_any (zero : Bool) (p : Option Addr) (len cap : Nat) (zs : List Int) (b most : Int) (w : World) (h : Isl w .i8 p len cap zs) (hz : ∀ z ∈ zs, (Lit.int .i8 z).wf = true) (hb : -128 ≤ b ∧ b ≤ 127) (hm : 0 ≤ most ∧ most ≤ 255) (hlen1 : 1 ≤ len) (hlen2 : len ≤ 300) :
    Calls Try.prog 15 #[.slice p len cap, .int .i8 b, .int .u8 most, .bool zero] w fun e w' => e = .returned (.bool true) ∧ Below w.heap.size w w' := by
  have hzb : ∀ n ∈ zs, n.natAbs ≤ 128 := fun n hn => by have := bounds_i8 (hz n hn); omega
  have hw0 : Below w.heap.size w ((w.alloc (.cells #[.int .i64 len] 3)).alloc (.cells #[.slice (some ⟨w.heap.size, 0, none⟩) 1 1, .slice none 0 0] 26)) := ((Below.refl _ _).alloc (Nat.le_refl _) _).alloc (by simp) _
  have hl0 : ((w.alloc (.cells #[.int .i64 len] 3)).alloc (.cells #[.slice (some ⟨w.heap.size, 0, none⟩) 1 1, .slice none 0 0] 26)).heap.size = w.heap.size + 2 := by simp
  have hr0 : ((w.alloc (.cells #[.int .i64 len] 3)).alloc (.cells #[.slice (some ⟨w.heap.size, 0, none⟩) 1 1, .slice none 0 0] 26)).heap[w.heap.size]? = some (.cells #[.int .i64 len] 3 (0, 0)) := by
    rw [heap_alloc_old _ (by simp), heap_alloc_new]
  have hr1 : ((w.alloc (.cells #[.int .i64 len] 3)).alloc (.cells #[.slice (some ⟨w.heap.size, 0, none⟩) 1 1, .slice none 0 0] 26)).heap[w.heap.size + 1]? = some (.cells #[.slice (some ⟨w.heap.size, 0, none⟩) 1 1, .slice none 0 0] 26 (0, 0)) := by
    have := heap_alloc_new (w.alloc (.cells #[.int .i64 len] 3)) (.cells #[.slice (some ⟨w.heap.size, 0, none⟩) 1 1, .slice none 0 0] 26)
    simpa using this
  have HZ := hide hzb
  have HL := hide h.1
  have H := hide h
  have HB := hide hb
  have HM := hide hm
  have e0 : ((len : Int) == 0) = false := by simp; omega
  have e1 : decide (300 < (len : Int)) = false := by simp; omega
  clear h hz hzb hb hm
  obtain ⟨i0, hi, hz0, hz1, hz2⟩ := parts_of float_info
  obtain ⟨j0, hj, hy0, hy1, hy2⟩ := parts_of hook_info
  have HI := hide (And.intro hi (And.intro hz0 (And.intro hz1 hz2)))
  have HJ := hide (And.intro hj (And.intro hy0 (And.intro hy1 hy2)))
  clear hi hz0 hz1 hz2 hj hy0 hy1 hy2
  go_enter Try.func15, Try.ntmps15
  go_wp2_with fail
  generalize (w.alloc (.cells #[.int .i64 len] 3)).alloc (.cells #[.slice (some ⟨w.heap.size, 0, none⟩) 1 1, .slice none 0 0] 26) = W at hw0 hl0 hr0 hr1 ⊢
  go_loopw [10] (fun i wr => ∃ (k : Nat) (b3 : Option Addr) (d3 : Nat), k ≤ len ∧ i = .int .i64 k ∧ OwnF (w.heap.size + 2) wr b3 k d3 ((zs.take k).map Fl.ofI) ∧ wr.heap[w.heap.size + 1]? = some (.cells #[.slice (some ⟨w.heap.size, 0, none⟩) 1 1, .slice b3 k d3] 26 (0, 0)) ∧ wr.heap[w.heap.size]? = some (.cells #[.int .i64 len] 3 (0, 0)) ∧ Below w.heap.size w wr ∧ w.heap.size + 2 ≤ wr.heap.size) (fun i _ => len - (intOf i).toNat)
  case atStart => exact ⟨0, none, 0, Nat.zero_le _, rfl, World.ownsRow_nil _ _ _ 1, hr1, hr0, hw0, by omega⟩
  case round =>
    obtain ⟨k, b3, d3, hk, rfl, hown, hrt, hri, hbel, hsz⟩ := hrel
    clear hw0 hl0 hr0 hr1
    by_cases hlt : k < len
    · obtain ⟨g, off, rfl, hc⟩ := H.out.at hlt
      have hcr := cell_later hbel hc
      have hlz : k < zs.length := by rw [HL.out]; exact hlt
      have HST := hide (take_map_step zs k hlz)
      have hzk : (zs.getD k 0).natAbs ≤ 128 := by rw [List.getD_eq_getElem?_getD, List.getElem?_eq_getElem hlz]; exact HZ.out _ (List.getElem_mem hlz)
      generalize zs.getD k 0 = z at *
      obtain ⟨t0, t1, t2, t3⟩ := two_cells hrt
      have HO := hide hown
      have HR := hide (And.intro hrt hri)
      have HBE := hide hbel
      have hk0 : (0 : Int) ≤ (k : Int) := by omega
      have hk1 : (k : Int) < (len : Int) := by omega
      have hg1 : w.heap.size + 1 < wr.heap.size := by omega
      have hg2 : w.heap.size + 1 ≠ wr.heap.size := by omega
      have hnb : (Value.slice b3 k d3).ownBlock ≠ some (w.heap.size + 1) := fun e => by have := (World.ownsRow.lt hown _ e).1; omega
      have hnb0 : (Value.slice b3 k d3).ownBlock ≠ some w.heap.size := fun e => by have := (World.ownsRow.lt hown _ e).1; omega
      have HNB := hide (And.intro hnb hnb0)
      have hra := (heap_alloc_old (.cells #[.float .f64 (floatOfInt .f64 z)] 43) hg1).trans hrt
      have hia := (heap_alloc_old (.cells #[.float .f64 (floatOfInt .f64 z)] 43) (by omega : w.heap.size < wr.heap.size)).trans hri
      have HRA := hide (And.intro hra hia)
      obtain ⟨A0, A1, A2, A3⟩ := two_cells hra
      have HA := hide (And.intro A0 (And.intro A1 A3))
      clear hc hlz hzk hown hrt hri hbel hnb hnb0 hra hia A0 A1 A2 A3
      go_wp2_with fail
      go_region_law (refine step_append_at (o := ⟨some 43, _, _, _, _, _⟩) rfl (.tmp 36) (.tmp 42) 24 rfl (w.heap.size + 2) 43 i0 (.float .f64 0) 1 8 Try.underlying24 HI.out.1 HI.out.2.1 HI.out.2.2.1 HI.out.2.2.2 rfl (by decide) (.slice b3 k d3) k (fvs ((zs.take k).map Fl.ofI)) (by simp [Act.eval]) (((show World.ownsRow _ _ _ 1 _ _ _ from HO.out).alloc _).drew) (some ⟨wr.heap.size, 0, none⟩) 1 1 [.float .f64 (Fl.ofI z)] (by simp [Act.eval]) (Src.one wr _ rfl _ _) (own_one rfl) (by unfold maxLen; omega) (by omega) (by simp; omega) ?_; intro v3 w3 hown3 hgrow3 hat3; have hown4 : w3.ownsRow (w.heap.size + 2) 43 1 v3 (k + 1) (fvs ((zs.take (k + 1)).map Fl.ofI)) := (by rw [HST.out]; simpa [fvs] using hown3); obtain ⟨b4, d4, rfl, -⟩ := Fl.Sl_of_own hown4; have q0 := (grown_cell (k := 0) hgrow3 (by simp; omega : w.heap.size + 1 < _) HNB.out.1); have q1 := (grown_cell (k := 1) hgrow3 (by simp; omega : w.heap.size + 1 < _) HNB.out.1); have c0 : w3.cell? ⟨w.heap.size + 1, 0, none⟩ = some (.slice (some ⟨w.heap.size, 0, none⟩) 1 1) := q0.1.trans HA.out.1; have c1 : w3.cell? ⟨w.heap.size + 1, 1, none⟩ = some (.slice b3 k d3) := q1.1.trans HA.out.2.1; have f1 : w3.frozen? ⟨w.heap.size + 1, 1, none⟩ = false := q1.2.trans HA.out.2.2; have HO4 := hide hown4; have HG3 := hide hgrow3; clear hown3 hown4 hgrow3 hat3 q0 q1)
      all_goals (
        have hr3 := (HG3.out.block (w.heap.size + 1) (by simp; omega) (fun e => HNB.out.1 e.symm)).trans HRA.out.1
        have hi3 := (HG3.out.block w.heap.size (by simp; omega) (fun e => HNB.out.2 e.symm)).trans HRA.out.2
        have hb3 := Below.own ((HBE.out.alloc (by omega) (.cells #[.float .f64 (floatOfInt .f64 z)] 43)).drew) (row_mono (((show World.ownsRow _ _ _ 1 _ _ _ from HO.out).alloc (.cells #[.float .f64 (floatOfInt .f64 z)] 43)).drew) (by omega : w.heap.size ≤ w.heap.size + 2)) HG3.out (by simp; omega)
        have hs3 : w.heap.size + 2 ≤ w3.heap.size := Nat.le_trans (by simp; omega) HG3.out.size
        have HF := hide (And.intro hr3 (And.intro hi3 (And.intro hb3 hs3)))
        clear hr3 hi3 hb3 hs3
        go_wp2_with fail
        go_roundw
        case rel => exact ⟨k + 1, b4, d4, by omega, by go_num, ownsRow_setCell_below HO4.out (by simp) _, heap_setCell_same _ _ 1 _ _ _ HF.out.1, (Below.heap_setCell _ _ _ _ (show w.heap.size ≠ w.heap.size + 1 by omega)).trans HF.out.2.1, HF.out.2.2.1.setCell (show w.heap.size ≤ w.heap.size + 1 by omega) _, by have := HF.out.2.2.2; simpa using this⟩
        case measure => simp [intOf]; omega)
    · obtain rfl : len = k := by omega
      have htk : zs.take len = zs := by rw [← HL.out, List.take_length]
      rw [htk] at hown
      obtain ⟨a', c', ev, hsl⟩ := Fl.Sl_of_own hown
      cases ev
      have hB8 : Below wr.heap.size wr (wr.alloc (.cells #[.int .i64 1, .float .f64 (floatOfInt .f64 b), .int .i64 2, .float .f64 (floatOfInt .f64 most), .int .i64 4, .float .f64 0] 48)) := (Below.refl _ _).alloc (Nat.le_refl _) _
      have hO8 := own_lit wr #[.int .i64 1, .float .f64 (floatOfInt .f64 b), .int .i64 2, .float .f64 (floatOfInt .f64 most), .int .i64 4, .float .f64 0] 3 wr.heap.size (Nat.le_refl _) (by unfold maxLen; omega) rfl
      have hs8 : (wr.alloc (.cells #[.int .i64 1, .float .f64 (floatOfInt .f64 b), .int .i64 2, .float .f64 (floatOfInt .f64 most), .int .i64 4, .float .f64 0] 48)).heap.size = wr.heap.size + 1 := by simp
      obtain ⟨hb1, hb2⟩ := HB.out
      obtain ⟨hm1, hm2⟩ := HM.out
      have HSR := hide hsl
      have HR := hide (And.intro hrt hri)
      have HBE := hide hbel
      clear hown hrt hri hbel htk hsl
      cases zero with
      | false =>
        obtain ⟨r, hres, hrl, hwh⟩ := res_scales zs b most HZ.out (by omega) hm1 hm2 (by rw [HL.out]; exact hlen1) (by rw [HL.out]; exact hlen2) false
        rw [HL.out] at hres hrl hwh
        have HRES := hide (And.intro hres (And.intro hrl hwh))
        have hHk : Hks (wr.alloc (.cells #[.int .i64 1, .float .f64 (floatOfInt .f64 b), .int .i64 2, .float .f64 (floatOfInt .f64 most), .int .i64 4, .float .f64 0] 48)) (some ⟨wr.heap.size, 0, none⟩) 3 3 (hsOf b most false) := by
          obtain ⟨a9, c9, e9, h9⟩ := hks_own (hs := hsOf b most false) hO8 rfl
          cases e9; exact h9
        have hrt8 := (hB8.block (w.heap.size + 1) (by omega)).trans HR.out.1
        have hri8 := (hB8.block w.heap.size (by omega)).trans HR.out.2
        have HK := hide hHk
        have HSL := hide (HSR.out.later hB8)
        have HY := hide (And.intro (HBE.out.trans (hB8.mono HBE.out.size)) (And.intro hrt8 (And.intro hri8 hB8)))
        obtain ⟨y0, y1, -, -⟩ := two_cells hrt8
        clear hres hrl hwh hHk hrt8 hri8 hB8 hO8 hs8
        go_wp2_with fail
        generalize wr.alloc (.cells #[.int .i64 1, .float .f64 (floatOfInt .f64 b), .int .i64 2, .float .f64 (floatOfInt .f64 most), .int .i64 4, .float .f64 0] 48) = Y at HK HSL HY y0 y1 ⊢
        go_wp2_with fail
        refine (do_any _ _ _ (hsOf b most false) (some ⟨w.heap.size, 0, none⟩) 1 1 b3 len d3 [(len : Int)] (zs.map Fl.ofI) Y HK.out (isl_one _ _ _ _ HY.out.2.2.1) HSL.out (by omega) (by omega) (by omega)).mono ?_
        rintro e w5 ⟨⟨a5, n5, c5, b5, m5, d5, D5, he, ht5, hD5⟩, hb5⟩
        rw [HRES.out.1] at he ht5 hD5
        subst he
        simp only at ht5 hD5 ⊢
        have hm5 : m5 = len := by
          have k1 := ht5.sl.1
          have k2 := congrArg List.length hD5
          rw [List.length_map, HRES.out.2.1] at k2
          omega
        subst hm5
        have hb6 : Below w5.heap.size w5 (w5.alloc (.cells #[.slice a5 n5 c5, .slice b5 m5 d5] 26)) := (Below.refl _ _).alloc (Nat.le_refl _) _
        have hx6 := heap_alloc_new w5 (.cells #[.slice a5 n5 c5, .slice b5 m5 d5] 26)
        have hl6 : w5.heap.size < (w5.alloc (.cells #[.slice a5 n5 c5, .slice b5 m5 d5] 26)).heap.size := by simp
        have HT6 := hide (ht5.sl.later hb6)
        have HB6 := hide ((HY.out.1.trans (hb5.mono HY.out.1.size)).trans (hb6.mono (Nat.le_trans HY.out.1.size hb5.size)))
        have HX6 := hide hx6
        have HL6 := hide hl6
        have HD5 := hide hD5
        have hnn : ((m5 : Int) != (m5 : Int)) = false := by simp
        clear ht5 hb5 hb6 hx6 hl6 hD5 y0 y1
        go_wp2_with fail
        generalize w5.alloc (.cells #[.slice a5 n5 c5, .slice b5 m5 d5] 26) = W6 at HT6 HB6 HX6 HL6 ⊢
        generalize w5.heap.size = g6 at HX6 HL6 ⊢
        obtain ⟨t0, t1, t2, t3⟩ := two_cells HX6.out
        go_loop [14, 15] (fun i _ => ∃ j : Nat, j ≤ m5 ∧ i = .int .i64 j) (fun i _ => m5 - (intOf i).toNat)
        case atStart => exact ⟨0, Nat.zero_le _, rfl⟩
        case round =>
          obtain ⟨j, hj, rfl⟩ := hrel
          by_cases hjl : j < m5
          · obtain ⟨g, off, rfl, hc⟩ := H.out.at hjl
            have hcr := cell_later HB6.out hc
            obtain ⟨g', off', rfl, hq⟩ := HT6.out.at hjl
            have hlz : j < zs.length := by rw [HL.out]; exact hjl
            have hzk : (zs.getD j 0).natAbs ≤ 128 := by rw [List.getD_eq_getElem?_getD, List.getElem?_eq_getElem hlz]; exact HZ.out _ (List.getElem_mem hlz)
            have hwj := HRES.out.2.2 j hjl
            have hdj : r.getD j none = Fl.can (D5.getD j 0) := by
              rw [← HD5.out, getD_map _ _ j 0 none (by rw [HT6.out.1]; exact hjl)]
            rw [hdj] at hwj
            obtain ⟨y, hy, hv⟩ := hwj
            have hyy := (Fl.of_can hy).1
            rw [hyy] at hq
            generalize zs.getD j 0 = z at *
            have hzbb : (z * b).natAbs ≤ 128 * 128 := by rw [Int.natAbs_mul]; exact Nat.mul_le_mul hzk (by omega)
            have hzb1 : -16384 ≤ z * b := by omega
            have hzb2 : z * b ≤ 16384 := by omega
            have hz1 : -128 ≤ z := by omega
            have hz2 : z ≤ 128 := by omega
            have hne : (FloatKind.f64.format.order y (floatOfInt .f64 (if most < if z * b < -most then -most else z * b then most else if z * b < -most then -most else z * b)) != some .eq) = false := by
              rw [show (if most < if z * b < -most then -most else z * b then most else if z * b < -most then -most else z * b) = min (max (z * b) (-most)) most by repeat' split <;> omega]
              exact Fl.ne_val hv (Fl.val_ofI _ (by omega))
            have hj0 : (0 : Int) ≤ (j : Int) := by omega
            have hj1 : (j : Int) < (m5 : Int) := by omega
            clear hc hlz hzk hdj hy hyy hv hzbb
            go_wp2_with fail
            go_round
            case rel => exact ⟨j + 1, by omega, by go_num⟩
            case measure => simp [intOf]; omega
          · obtain rfl : m5 = j := by omega
            go_wp2_with fail
            refine (awake_any W6).mono ?_
            rintro e w9 ⟨rfl, hb9⟩
            have HB9 := hide (HB6.out.trans (hb9.mono HB6.out.size))
            clear hb9
            go_wp2_with fail
            go_ret
            exact ⟨rfl, HB9.out⟩
      | true =>
        obtain ⟨r, hres, hrl, hwh⟩ := res_scales zs b most HZ.out (by omega) hm1 hm2 (by rw [HL.out]; exact hlen1) (by rw [HL.out]; exact hlen2) true
        rw [HL.out] at hres hrl hwh
        have HRES := hide (And.intro hres (And.intro hrl hwh))
        have hb9 : Below wr.heap.size wr ((wr.alloc (.cells #[.int .i64 1, .float .f64 (floatOfInt .f64 b), .int .i64 2, .float .f64 (floatOfInt .f64 most), .int .i64 4, .float .f64 0] 48)).alloc (.cells #[.int .i64 3, .float .f64 0] 48)) := hB8.alloc (by simp) _
        have HO8 := hide (hO8.alloc (.cells #[.int .i64 3, .float .f64 0] 48))
        have HB9 := hide hb9
        clear hres hrl hwh hB8 hO8 hb9
        go_wp2_with (at_builtin; refine wpl_append rfl _ _ 22 rfl wr.heap.size 48 j0 (.agg #[.int .i64 0, .float .f64 0]) 2 16 Try.underlying22 HJ.out.1 HJ.out.2.1 HJ.out.2.2.1 HJ.out.2.2.2 rfl (by decide) (.slice (some ⟨wr.heap.size, 0, none⟩) 3 3) 3 _ rfl HO8.out _ _ _ [.int .i64 3, .float .f64 0] rfl ?a2 (one2 rfl rfl) ?a3 ?a4 ?a5 ?_)
        case a2 => have := src2 (wr.alloc (.cells #[.int .i64 1, .float .f64 (floatOfInt .f64 b), .int .i64 2, .float .f64 (floatOfInt .f64 most), .int .i64 4, .float .f64 0] 48)) (.int .i64 3) (.float .f64 0) 48; rw [hs8] at this; exact this
        case a3 => unfold maxLen; omega
        case a5 => omega
        intro v4 Y hown4 hgrow4
        obtain ⟨a4, c4, rfl, hHk⟩ := hks_own (hs := hsOf b most true) (show Y.ownsRow wr.heap.size 48 2 v4 4 (flat (hsOf b most true)) from hown4) rfl
        have hbY := Below.own HB9.out HO8.out hgrow4 (by simp; omega)
        have hrt8 := (hbY.block (w.heap.size + 1) (by omega)).trans HR.out.1
        have hri8 := (hbY.block w.heap.size (by omega)).trans HR.out.2
        have HK := hide hHk
        have HSL := hide (HSR.out.later hbY)
        have HY := hide (And.intro (HBE.out.trans (hbY.mono HBE.out.size)) (And.intro hrt8 (And.intro hri8 hbY)))
        obtain ⟨y0, y1, -, -⟩ := two_cells hrt8
        clear hHk hrt8 hri8 hbY hown4 hgrow4 hs8
        go_wp2_with fail
        refine (do_any _ _ _ (hsOf b most true) (some ⟨w.heap.size, 0, none⟩) 1 1 b3 len d3 [(len : Int)] (zs.map Fl.ofI) Y HK.out (isl_one _ _ _ _ HY.out.2.2.1) HSL.out (by omega) (by omega) (by omega)).mono ?_
        rintro e w5 ⟨⟨a5, n5, c5, b5, m5, d5, D5, he, ht5, hD5⟩, hb5⟩
        rw [HRES.out.1] at he ht5 hD5
        subst he
        simp only at ht5 hD5 ⊢
        have hm5 : m5 = len := by
          have k1 := ht5.sl.1
          have k2 := congrArg List.length hD5
          rw [List.length_map, HRES.out.2.1] at k2
          omega
        subst hm5
        have hb6 : Below w5.heap.size w5 (w5.alloc (.cells #[.slice a5 n5 c5, .slice b5 m5 d5] 26)) := (Below.refl _ _).alloc (Nat.le_refl _) _
        have hx6 := heap_alloc_new w5 (.cells #[.slice a5 n5 c5, .slice b5 m5 d5] 26)
        have hl6 : w5.heap.size < (w5.alloc (.cells #[.slice a5 n5 c5, .slice b5 m5 d5] 26)).heap.size := by simp
        have HT6 := hide (ht5.sl.later hb6)
        have HB6 := hide ((HY.out.1.trans (hb5.mono HY.out.1.size)).trans (hb6.mono (Nat.le_trans HY.out.1.size hb5.size)))
        have HX6 := hide hx6
        have HL6 := hide hl6
        have HD5 := hide hD5
        have hnn : ((m5 : Int) != (m5 : Int)) = false := by simp
        clear ht5 hb5 hb6 hx6 hl6 hD5 y0 y1
        go_wp2_with fail
        generalize w5.alloc (.cells #[.slice a5 n5 c5, .slice b5 m5 d5] 26) = W6 at HT6 HB6 HX6 HL6 ⊢
        generalize w5.heap.size = g6 at HX6 HL6 ⊢
        obtain ⟨t0, t1, t2, t3⟩ := two_cells HX6.out
        go_loop [14, 15] (fun i _ => ∃ j : Nat, j ≤ m5 ∧ i = .int .i64 j) (fun i _ => m5 - (intOf i).toNat)
        case atStart => exact ⟨0, Nat.zero_le _, rfl⟩
        case round =>
          obtain ⟨j, hj, rfl⟩ := hrel
          by_cases hjl : j < m5
          · obtain ⟨g, off, rfl, hc⟩ := H.out.at hjl
            have hcr := cell_later HB6.out hc
            obtain ⟨g', off', rfl, hq⟩ := HT6.out.at hjl
            have hlz : j < zs.length := by rw [HL.out]; exact hjl
            have hzk : (zs.getD j 0).natAbs ≤ 128 := by rw [List.getD_eq_getElem?_getD, List.getElem?_eq_getElem hlz]; exact HZ.out _ (List.getElem_mem hlz)
            have hwj := HRES.out.2.2 j hjl
            have hdj : r.getD j none = Fl.can (D5.getD j 0) := by
              rw [← HD5.out, getD_map _ _ j 0 none (by rw [HT6.out.1]; exact hjl)]
            rw [hdj] at hwj
            obtain ⟨y, hy, hv⟩ := hwj
            have hyy := (Fl.of_can hy).1
            rw [hyy] at hq
            generalize zs.getD j 0 = z at *
            have hzbb : (z * b).natAbs ≤ 128 * 128 := by rw [Int.natAbs_mul]; exact Nat.mul_le_mul hzk (by omega)
            have hzb1 : -16384 ≤ z * b := by omega
            have hzb2 : z * b ≤ 16384 := by omega
            have hz1 : -128 ≤ z := by omega
            have hz2 : z ≤ 128 := by omega
            have hne : (FloatKind.f64.format.order y (floatOfInt .f64 0) != some .eq) = false := Fl.ne_val hv (Fl.val_ofI 0 (by decide))
            have hne0 : (FloatKind.f64.format.order y 0 != some .eq) = false := by have := hne; rwa [show floatOfInt .f64 0 = 0 from Fl.ofI_zero] at this
            have hj0 : (0 : Int) ≤ (j : Int) := by omega
            have hj1 : (j : Int) < (m5 : Int) := by omega
            clear hc hlz hzk hdj hy hyy hv hzbb
            go_wp2_with fail
            go_round
            case rel => exact ⟨j + 1, by omega, by go_num⟩
            case measure => simp [intOf]; omega
          · obtain rfl : m5 = j := by omega
            go_wp2_with fail
            refine (awake_any W6).mono ?_
            rintro e w9 ⟨rfl, hb9⟩
            have HB9 := hide (HB6.out.trans (hb9.mono HB6.out.size))
            clear hb9
            go_wp2_with fail
            go_ret
            exact ⟨rfl, HB9.out⟩

theorem scales_all (zero : Bool) (p : Option Addr) (len cap : Nat) (zs : List Int) (b most : Int) (w : World) (h : Isl w .i8 p len cap zs) (hz : ∀ z ∈ zs, (Lit.int .i8 z).wf = true) (hb : -128 ≤ b ∧ b ≤ 127) (hm : 0 ≤ most ∧ most ≤ 255) :
    Calls Try.prog 15 #[.slice p len cap, .int .i8 b, .int .u8 most, .bool zero] w fun e w' => e = .returned (.bool true) ∧ Below w.heap.size w w' := by
  rcases (by omega : len = 0 ∨ 300 < len ∨ (1 ≤ len ∧ len ≤ 300)) with h0 | h0 | ⟨h1, h2⟩
  · have e0 : ((len : Int) == 0) = true := by simp; omega
    clear h hz hb hm h0
    go_enter Try.func15, Try.ntmps15
    go_wp2_with fail
    refine (awake_any w).mono ?_
    rintro e w1 ⟨rfl, hb1⟩
    have HB1 := hide hb1
    clear hb1
    go_wp2_with fail
    go_ret
    exact ⟨rfl, HB1.out⟩
  · have e0 : ((len : Int) == 0) = false := by simp; omega
    have e1 : decide (300 < (len : Int)) = true := by simp; omega
    clear h hz hb hm h0
    go_enter Try.func15, Try.ntmps15
    go_wp2_with fail
    refine (awake_any w).mono ?_
    rintro e w1 ⟨rfl, hb1⟩
    have HB1 := hide hb1
    clear hb1
    go_wp2_with fail
    go_ret
    exact ⟨rfl, HB1.out⟩
  · exact scales_any zero p len cap zs b most w h hz hb hm h1 h2

set_option maxHeartbeats 4000000 in
theorem walk (p : Option Addr) (len cap : Nat) (zs : List Int) (b most : Int) (w : World) (h : Isl w .i8 p len cap zs) (hz : ∀ z ∈ zs, (Lit.int .i8 z).wf = true) (hb : (Lit.int .i8 b).wf = true) (hm : (Lit.int .u8 most).wf = true) :
    Calls Try.prog 5 #[.slice p len cap, .int .i8 b, .int .u8 most] w fun e w' => e = .returned (.bool true) ∧ Below w.heap.size w w' := by
  have C := hide (fun (zero : Bool) (W : World) (hB : Below w.heap.size w W) => scales_all zero p len cap zs b most W (h.later hB) hz (bounds_i8 hb) (bounds_u8 hm))
  clear h hz hb hm
  go_enter Try.func5, Try.ntmps5
  go_wp2_with fail
  refine (awake_any w).mono ?_
  rintro e w1 ⟨rfl, hb1⟩
  have HB1 := hide hb1
  clear hb1
  go_wp2_with fail
  refine (C.out false w1 HB1.out).mono ?_
  rintro e w2 ⟨rfl, hb2⟩
  have HB2 := hide (HB1.out.trans (hb2.mono HB1.out.size))
  clear hb2
  go_wp2_with fail
  refine (C.out true w2 HB2.out).mono ?_
  rintro e w3 ⟨rfl, hb3⟩
  have HB3 := hide (HB2.out.trans (hb3.mono HB2.out.size))
  clear hb3
  go_wp2_with fail
  go_ret
  exact ⟨rfl, HB3.out⟩
end Go.Proofs.Ytegofhmkebbinaa.HookScales
