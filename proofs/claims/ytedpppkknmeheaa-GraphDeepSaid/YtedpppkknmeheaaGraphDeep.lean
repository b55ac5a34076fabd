/-
  GraphDeep: the walk. For every input the law returns true. No condition.
-/
import Derived.Test.YtedpppkknmeheaaGM
import Derived.Test.YtedpppkknmeheaaGN
import Derived.Test.YtedpppkknmeheaaGraphWorks
import Derived.Deep.RegionHeld3
import Derived.Deep.RegionLaw
namespace Go.Proofs.Ytedpppkknmeheaa.GraphDeep
open Go.RowKit Go.Proofs.Ytedpppkknmeheaa.GraphWorks

theorem bounds_u8 {n : Int} (h : (Lit.int .u8 n).wf = true) : ∃ N : Nat, n = N ∧ N < 256 := by
  have e1 : IntKind.u8.min = 0 := by decide
  have e2 : IntKind.u8.max = 255 := by decide
  simp [Lit.wf, e1, e2] at h
  exact ⟨n.toNat, by omega, by omega⟩
theorem drew_grown (w : World) (row : Option Nat) : w.grownBy w.drew row := ⟨rfl, rfl, rfl, Nat.le_refl _, fun _ _ _ => rfl⟩
/-- The graphs from some number on. -/
def Dgs (wr : World) (B k c : Nat) (loop : Bool) (t : Nat) (gs : List Gr) : Prop :=
  gs.length = t ∧ ∀ j, j < t → wr.ownsRow B 41 7 (.slice (gs.getD j default).a (gs.getD j default).len (gs.getD j default).cap) (gs.getD j default).len (ndv (gs.getD j default).l) ∧ csl (gs.getD j default).l = Dp.dcs k c loop (k - t + j) ∧ (gs.getD j default).len = Dp.dln k c loop (k - t + j)
theorem Dgs.kept {wr w' : World} {B k c : Nat} {loop : Bool} {t : Nat} {gs : List Gr} {row : Option Nat} (h : Dgs wr B k c loop t gs) (hg : wr.grownBy w' row) (hr : ∀ b, row = some b → b < B) : Dgs w' B k c loop t gs :=
  ⟨h.1, fun j hj => ⟨(h.2 j hj).1.kept hg (by
    cases row with
    | none => cases hv : (Value.slice (gs.getD j default).a (gs.getD j default).len (gs.getD j default).cap).ownBlock <;> simp
    | some b => exact .inr (fun e => by have h1 := ((h.2 j hj).1.lt b e).1; have h2 := hr b rfl; omega)), (h.2 j hj).2⟩⟩

theorem own_base {w : World} {base base' : Nat} {e : TypeId} {size : Nat} {v : Value} {n : Nat} {xs : List Value} (h : w.ownsRow base e size v n xs) (hb : base' ≤ base) : w.ownsRow base' e size v n xs :=
  ⟨h.1, h.2.imp id fun ⟨g, cap, cur, h1, h2, h3⟩ => ⟨g, cap, cur, h1, Nat.le_trans hb h2, h3⟩⟩
theorem Dgs.more {wr : World} {B k c : Nat} {loop : Bool} {t : Nat} {gs : List Gr} {a : Option Addr} {m cc : Nat} {l : List Nd} (ht : t < k) (h : Dgs wr B k c loop t gs) (ho : wr.ownsRow B 41 7 (.slice a m cc) m (ndv l)) (hl : csl l = Dp.dcs k c loop (k - 1 - t)) (hm : m = Dp.dln k c loop (k - 1 - t)) (_ : t < k) : Dgs wr B k c loop (t + 1) (⟨a, m, cc, l⟩ :: gs) := by
  refine ⟨by simp [h.1], fun j hj => ?_⟩
  rcases j with _ | j
  · rw [show k - (t + 1) + 0 = k - 1 - t by omega]
    exact ⟨ho, hl, hm⟩
  · rw [show k - (t + 1) + (j + 1) = k - t + j by omega]
    exact h.2 j (by omega)

set_option maxRecDepth 100000 in
set_option maxHeartbeats 16000000 in
theorem walk (n0 c0 : Int) (loop : Bool) (W : World) (hn : (Lit.int .u8 n0).wf = true) (hc : (Lit.int .u8 c0).wf = true) :
    Calls Try.prog 4 #[.int .u8 n0, .int .u8 c0, .bool loop] W fun e w' => e = .returned (.bool true) ∧ Below W.heap.size W w' := by
  obtain ⟨i0, hi, hz0, hz1, hz2⟩ := parts_of graph_info
  obtain ⟨j0, hj, hy0, hy1, hy2⟩ := parts_of node_info
  obtain ⟨N, rfl, hN⟩ := bounds_u8 hn
  obtain ⟨Q, rfl, hQ⟩ := bounds_u8 hc
  obtain ⟨K, hK⟩ : ∃ K : Nat, 1 + (N : Int) % 16 = (K : Int) := ⟨1 + N % 16, by omega⟩
  obtain ⟨C, hC⟩ : ∃ C : Nat, (Q : Int) % 100 = (C : Int) := ⟨Q % 100, by omega⟩
  have hK1 : 1 ≤ K := by omega
  have hK16 : K ≤ 16 := by omega
  have hC100 : C < 100 := by omega
  have hmk := run_make_row' (P := Try.prog) 35 3 (.int .i64 0) 8 Try.underlying35 int_info rfl .i64 .i64 (K + 1) (by omega) (by omega)
  rw [show ((K + 1 : Nat) : Int) = (K : Int) + 1 by omega] at hmk
  have C1 := hide (awake_any W)
  clear hn hc
  go_enter Try.func4, Try.ntmps4
  go_wp2_with (go_at_call 9; (with_reducible refine C1.out.mono ?_); rintro e w1 ⟨rfl, hb1⟩; have HB1 := hide hb1; clear hb1)
  rw [hC]
  have HROW0 : Hid ((w1.alloc (.cells (madeCells #[.int .i64 0] (K + 1)) 3)).rowIs w1.heap.size 3 (K + 1) (fun j => .int .i64 ((fun _ => 0 : Nat → Int) j))) := World.rowIs_made w1 (.int .i64 0) (K + 1) _
  have HBEL0 := hide (HB1.out.alloc HB1.out.size (.cells (madeCells #[.int .i64 0] (K + 1)) 3))
  have hs1 := HB1.out.size
  clear hmk hK hC C1
  go_loopw [9, 11] (fun o i wr => ∃ (t : Nat) (z : Int) (gs : List Gr) (wv : Nat → Int), t ≤ K ∧ i = .int .i64 z ∧ Hid (z = (K : Int) - 1 - t) ∧ Hid (wr.ownsRow (w1.heap.size + 1) 34 1 o t (gsv gs)) ∧ Hid (Dgs wr (w1.heap.size + 1) K C loop t gs) ∧ Hid (wr.rowIs w1.heap.size 3 (K + 1) (fun j => .int .i64 (wv j))) ∧ Hid (1 ≤ t → wv (K - t) = Dp.dw C (t - 1)) ∧ Hid (Below W.heap.size W wr) ∧ Hid (w1.heap.size + 1 ≤ wr.heap.size)) (fun _ i _ => (intOf i + 1).toNat)
  case atStart => exact ⟨0, (K : Int) - 1, [], fun _ => 0, Nat.zero_le _, rfl, by unfold Hid; omega, World.ownsRow_nil _ _ _ _, ⟨rfl, fun j hj => by omega⟩, HROW0.out, fun h => by omega, HBEL0.out, by unfold Hid; simp⟩
  case round =>
    obtain ⟨t, z, gs, wv, htK, rfl, HZ, HO, HD, HR, HV, HB, HS⟩ := hrel
    clear HROW0 HBEL0
    obtain ⟨sa, sc, rfl, -⟩ := src_own HO.out
    by_cases hlt : t < K
    · obtain ⟨i, rfl⟩ : ∃ i : Nat, z = i := ⟨z.toNat, by have := HZ.out; omega⟩
      have hik : i + t + 1 = K := by have := HZ.out; omega
      obtain ⟨wo, rfl⟩ : ∃ wo : World, wo = wr := ⟨_, rfl⟩
      have hso := HS.out
      have hi1 : i < K + 1 := by omega
      have HR2 := hide ((HR.out.alloc (.cells #[.int .i64 1, .slice none 0 0, .slice none 0 0, .int .i64 0, .slice none 0 0, .slice none 0 0, .slice none 0 0] 41)).alloc (.cells #[.slice (some ⟨wo.heap.size, 0, none⟩) 1 1] 34))
      have hcell := HR2.out.cell hi1
      have hfz := HR2.out.frozen i
      go_wp2_with fail
      generalize hW3 : ((wo.alloc (.cells #[.int .i64 1, .slice none 0 0, .slice none 0 0, .int .i64 0, .slice none 0 0, .slice none 0 0, .slice none 0 0] 41)).alloc (.cells #[.slice (some ⟨wo.heap.size, 0, none⟩) 1 1] 34)).setCell ⟨w1.heap.size, i, none⟩ (.int .i64 1) = W3
      have hI3 : Inn wo.heap.size (wo.heap.size + 1) W3 1 [] (some ⟨wo.heap.size, 0, none⟩) 1 [ndL] := by rw [← hW3]; exact (Inn.start wo).kept (setCells_grown w1.heap.size [.int .i64 1] i _) (fun k hk => by cases hk; omega)
      have hR3 : W3.rowIs w1.heap.size 3 (K + 1) (fun j => .int .i64 ((fun j => if j = i then 1 else wv j : Nat → Int) j)) := by
        rw [← hW3]
        refine (HR2.out.set i (.int .i64 1)).congr fun q hq => ?_
        by_cases e : q = i <;> simp [e]
      have hG3 : wo.grownBy W3 (some w1.heap.size) := by
        rw [← hW3]
        exact ((World.grownBy_alloc wo _ (some w1.heap.size)).andThen (World.grownBy_alloc _ _ (some w1.heap.size)) (fun _ h => .inr h)).andThen (setCells_grown w1.heap.size [.int .i64 1] i _) (fun _ h => .inr h)
      have hS3 : wo.heap.size + 2 ≤ W3.heap.size := by rw [← hW3]; simp [World.setCell]
      have HI3 := hide hI3
      have HR3 := hide hR3
      have HG3 := hide hG3
      have HS3 := hide hS3
      have HV3 : Hid (1 ≤ t → (fun j => if j = i then 1 else wv j : Nat → Int) (i + 1) = Dp.dw C (t - 1)) := fun h => by
        have h2 := HV.out h
        rw [show K - t = i + 1 by omega] at h2
        simp only
        rw [if_neg (by omega)]
        exact h2
      clear hW3 hcell hfz hI3 hR3 hG3 hS3 HR2
      go_loopw [13] (fun q wr => ∃ (j c : Nat) (a : Option Addr) (NL : List Nd) (wv' : Nat → Int), q = .int .i64 j ∧ j ≤ C ∧ Hid (t = 0 → j = 0) ∧ Hid (Inn wo.heap.size (wo.heap.size + 1) wr (1 + j) (List.replicate j ((i : Int) + 1)) a c NL) ∧ Hid (wr.rowIs w1.heap.size 3 (K + 1) (fun j => .int .i64 (wv' j))) ∧ Hid (wv' i = Dp.wj (Dp.dw C (t - 1)) j) ∧ Hid (1 ≤ t → wv' (i + 1) = Dp.dw C (t - 1)) ∧ Hid (wo.grownBy wr (some w1.heap.size)) ∧ Hid (wo.heap.size + 2 ≤ wr.heap.size)) (fun q _ => C - (intOf q).toNat)
      case atStart => exact ⟨0, 1, _, _, _, rfl, Nat.zero_le _, fun _ => rfl, HI3.out, HR3.out, by unfold Hid; simp [Dp.wj], HV3.out, HG3.out, HS3.out⟩
      case round =>
        obtain ⟨j, c, a, NL, wv', rfl, hjC, HJ0, HI, HRJ, HWI, HWN, HGJ, HSJ⟩ := hrel
        clear HI3 HR3 HG3 HS3 HV3
        have hbg := HI.out.cell
        have hsj := HSJ.out
        by_cases hgo : j < C ∧ 1 ≤ t
        · obtain ⟨hj1, ht1⟩ := hgo
          have hik1 : (i : Int) + 1 < (K : Int) := by omega
          have HSRC := hide (src_row7 (wr.alloc (.cells #[.int .i64 0] 3)) #[.int .i64 16, .slice (some ⟨wr.heap.size, 0, none⟩) 1 1, .slice none 0 0, .int .i64 ((i : Int) + 1), .slice none 0 0, .slice none 0 0, .slice none 0 0] 41 1 1 7 (wr.heap.size + 1) (by simp) rfl)
          go_wp2_with (at_builtin; refine wpl_append_at (o := ⟨some 59, _, _, _, _, _⟩) rfl _ _ 32 rfl wo.heap.size 41 j0 (.agg #[.int .i64 0, .slice none 0 0, .slice none 0 0, .int .i64 0, .slice none 0 0, .slice none 0 0, .slice none 0 0]) 7 136 Try.underlying32 hj hy0 hy1 hy2 rfl (by decide) (.slice a (1 + j) c) (1 + j) _ rfl ((HI.out.own.alloc _).alloc _) _ _ _ (ndc ⟨16, some ⟨wr.heap.size, 0, none⟩, 1, 1, [0], none, 0, 0, (i : Int) + 1, none, 0, 0, [], none, 0, 0, none, 0, 0, []⟩) rfl HSRC.out ?b2 ?b3 ?b4 ?b5 ?_)
          case b2 => exact ndc_one _
          case b3 => unfold maxLen; omega
          case b4 => omega
          case b5 => omega
          intro v8 w8 hown8 hgrow8 hloc8
          obtain ⟨a8, c8, rfl, hcell8, hfz8, hI8, hold8, hsz8, hos8, htape8, hout8⟩ := HI.out.append (grown_two wr _ _) _ rfl hown8 hgrow8 (hloc8.imp id fun h => h.trans (by simp))
          have HI8 := hide hI8
          have hG8 : wo.grownBy (w8.setCell ⟨wo.heap.size + 1, 0, none⟩ (.slice a8 (1 + j + 1) c8)) (some w1.heap.size) := ⟨hos8.trans HGJ.out.os, htape8.trans HGJ.out.tape, hout8.trans HGJ.out.output, by omega, fun k hk hne => by rw [hold8 k hk]; exact HGJ.out.block k hk hne⟩
          have hR8 : (w8.setCell ⟨wo.heap.size + 1, 0, none⟩ (.slice a8 (1 + j + 1) c8)).rowIs w1.heap.size 3 (K + 1) (fun j => .int .i64 (wv' j)) := HRJ.out.of_block (hold8 _ (by omega))
          have HG8 := hide hG8
          have HR8 := hide hR8
          have hsz9 : wo.heap.size + 2 ≤ (w8.setCell ⟨wo.heap.size + 1, 0, none⟩ (.slice a8 (1 + j + 1) c8)).heap.size := by omega
          have HS8 := hide hsz9
          clear hown8 hgrow8 hloc8 hI8 hold8 hsz8 hos8 htape8 hout8 hG8 hR8 hsz9 hbg
          go_wp2_with fail
          generalize w8.setCell ⟨wo.heap.size + 1, 0, none⟩ (.slice a8 (1 + j + 1) c8) = W9 at HI8 HG8 HR8 HS8 ⊢
          clear hcell8 hfz8
          have hca := HR8.out.cell (i := i) (by omega)
          have hcb := HR8.out.cell (i := i + 1) (by omega)
          have hcf := HR8.out.frozen i
          rw [HWI.out] at hca
          rw [HWN.out ht1] at hcb
          have hwj := Dp.wj_le (Dp.dw C (t - 1)) j
          have hdw := Dp.dw_le C (t - 1)
          have HSTEP : Hid (Dp.wj (Dp.dw C (t - 1)) (j + 1) = min (Dp.wj (Dp.dw C (t - 1)) j + 1 + Dp.dw C (t - 1)) 1048576) := rfl
          obtain ⟨p1, hp1⟩ : ∃ p1, Dp.wj (Dp.dw C (t - 1)) j = p1 := ⟨_, rfl⟩
          rw [hp1] at hca hwj HSTEP
          obtain ⟨p2, hp2⟩ : ∃ p2, Dp.dw C (t - 1) = p2 := ⟨_, rfl⟩
          have HP2 := hide hp2
          rw [hp2] at hcb hdw HSTEP
          clear hp1 hp2
          have HI10 : Hid (Inn wo.heap.size (wo.heap.size + 1) (W9.setCell ⟨w1.heap.size, i, none⟩ (.int .i64 (min ((p1 : Int) + 1 + p2) 1048576))).drew (1 + (j + 1)) (List.replicate (j + 1) ((i : Int) + 1)) a8 c8 (NL ++ [⟨16, some ⟨wr.heap.size, 0, none⟩, 1, 1, [0], none, 0, 0, (i : Int) + 1, none, 0, 0, [], none, 0, 0, none, 0, 0, []⟩])) := by
            have h := (HI8.out.kept (setCells_grown w1.heap.size [.int .i64 (min ((p1 : Int) + 1 + p2) 1048576)] i W9) (fun k hk => by cases hk; omega)).kept (drew_grown _ none) (fun k hk => by cases hk)
            rw [List.replicate_succ']
            exact h
          have HR10 : Hid ((W9.setCell ⟨w1.heap.size, i, none⟩ (.int .i64 (min ((p1 : Int) + 1 + p2) 1048576))).drew.rowIs w1.heap.size 3 (K + 1) (fun q => .int .i64 ((fun q => if q = i then min ((p1 : Int) + 1 + p2) 1048576 else wv' q : Nat → Int) q))) := by
            refine ((HR8.out.set i (.int .i64 (min ((p1 : Int) + 1 + p2) 1048576))).drew).congr fun q hq => ?_
            by_cases e : q = i <;> simp [e]
          have HG10 : Hid (wo.grownBy (W9.setCell ⟨w1.heap.size, i, none⟩ (.int .i64 (min ((p1 : Int) + 1 + p2) 1048576))).drew (some w1.heap.size)) := (HG8.out.andThen (setCells_grown w1.heap.size [.int .i64 (min ((p1 : Int) + 1 + p2) 1048576)] i W9) (fun _ h => .inr h)).andThen (drew_grown _ none) (fun _ h => by cases h)
          have HS10 : Hid (wo.heap.size + 2 ≤ (W9.setCell ⟨w1.heap.size, i, none⟩ (.int .i64 (min ((p1 : Int) + 1 + p2) 1048576))).drew.heap.size) := by
            have h := HS8.out
            unfold Hid
            simp [World.setCell, World.drew]
            exact h
          go_region
          go_wp2_with fail
          go_roundw
          case rel =>
            refine ⟨j + 1, c8, a8, _, _, by go_num, by omega, fun h => by omega, HI10.out, HR10.out, ?_, fun h => ?_, HG10.out, HS10.out⟩
            · unfold Hid
              rw [HP2.out, HSTEP.out]
              simp
              omega
            · rw [if_neg (by omega)]
              exact HWN.out h
          case measure => simp [intOf]; omega
        · have hend : (1 ≤ t ∧ j = C) ∨ (t = 0 ∧ j = 0) := by
            by_cases h0 : t = 0
            · exact .inr ⟨h0, HJ0.out h0⟩
            · left
              refine ⟨by omega, ?_⟩
              by_cases h1 : j < C
              · exact absurd ⟨h1, by omega⟩ hgo
              · omega
          have HWI2 : Hid (wv' i = Dp.dw C t) := by
            unfold Hid
            rw [HWI.out]
            rcases hend with ⟨h1, rfl⟩ | ⟨rfl, rfl⟩
            · obtain ⟨u, rfl⟩ : ∃ u, t = u + 1 := ⟨t - 1, by omega⟩
              rfl
            · rfl
          have hki : K - 1 - t = i := by omega
          rcases hend with ⟨h1, rfl⟩ | ⟨rfl, rfl⟩
          · have HCL : Hid (List.replicate j ((i : Int) + 1) = Dp.dcs K j loop (K - 1 - t)) := by unfold Hid Dp.dcs; rw [hki, if_pos (by omega)]
            have hik2 : ((i : Int) == (K : Int) - 1) = false := by rw [beq_eq_false_iff_ne]; omega
            cases loop
            all_goals (
              have HOX := hide (HO.out.kept HGJ.out (.inr fun e => by have := (HO.out.lt _ e).1; omega))
              have HDX := hide (HD.out.kept HGJ.out (fun b hb => by cases hb; omega))
              have hbg := HI.out.cell
              have hsx := HSJ.out
              obtain ⟨sa2, sc2, hse, hsrc⟩ := src_own (HOX.out.alloc (.cells #[.slice a (1 + j) c] 34))
              cases hse
              have HSRC := hide hsrc
              have HNEW := hide (own_new1 wr (w1.heap.size + 1) (.slice a (1 + j) c) 34 (by omega))
              clear hsrc
              go_wp2_with (at_builtin; refine wpl_append (o := ⟨some 93, _, _, _, _, _⟩) rfl _ _ 22 rfl (w1.heap.size + 1) 34 i0 (.agg #[.slice none 0 0]) 1 24 Try.underlying22 hi hz0 hz1 hz2 rfl (by decide) (.slice (some ⟨(wr).heap.size, 0, none⟩) 1 1) 1 _ rfl HNEW.out _ _ _ (gsv gs) rfl HSRC.out (gsv_one gs) ?d3 ?d4 ?d5 ?_)
              case d3 => unfold maxLen; omega
              case d4 => omega
              case d5 => simp; omega
              intro v20 w20 hown20 hgrow20
              have hb20 : Below (wr).heap.size (wr) w20 := ((Below.refl _ _).alloc (Nat.le_refl _) _).grown hgrow20 (by simp) (fun k hk => by cases hk; exact Nat.le_refl _)
              have HO20 : Hid (w20.ownsRow (w1.heap.size + 1) 34 1 v20 (t + 1) (gsv (⟨a, (1 + j), c, NL⟩ :: gs))) := by rw [Nat.add_comm t 1]; exact hown20
              have HD20 : Hid (Dgs w20 (w1.heap.size + 1) K _ _ (t + 1) (⟨a, (1 + j), c, NL⟩ :: gs)) := Dgs.more (by omega) ((HDX.out).kept (below_grown hb20) (fun b hb => by cases hb)) (own_base ((HI.out.own).kept (below_grown hb20) (by cases hv : (Value.slice a ((1 + j)) c).ownBlock <;> simp)) (by omega)) (by rw [HI.out.calls]; exact HCL.out) (by have := HI.out.calls; rw [Dp.dln, ← HCL.out]; simp; try omega) (by omega)
              have HR20 : Hid (w20.rowIs w1.heap.size 3 (K + 1) (fun q => .int .i64 (wv' q))) := (HRJ.out).of_block (hb20.block _ (by omega))
              have HB20 : Hid (Below W.heap.size W w20) := ((HB.out.grown HGJ.out (by omega) (fun k hk => by cases hk; omega)).trans (hb20.mono (by omega)))
              have HS20 : Hid (w1.heap.size + 1 ≤ w20.heap.size) := by have := hb20.size; unfold Hid; omega
              clear hown20 hgrow20 hb20 hbg
              go_wp2_with fail
              go_roundw
              case rel => exact ⟨t + 1, (i : Int) - 1, _, _, by omega, rfl, by have h := HZ.out; unfold Hid; omega, HO20.out, HD20.out, HR20.out, fun _ => by rw [show K - (t + 1) = i by omega]; exact HWI2.out, HB20.out, HS20.out⟩
              case measure => simp [intOf]; try omega)
          · have hcl1 : Dp.dcs K C false (K - 1 - 0) = [] := by unfold Dp.dcs; rw [if_neg (by omega), if_pos (by omega)]; rfl
            have hcl2 : Dp.dcs K C true (K - 1 - 0) = [0] := by unfold Dp.dcs; rw [if_neg (by omega), if_pos (by omega), if_pos rfl]
            have HI1 : Hid (Inn wo.heap.size (wo.heap.size + 1) wr 1 [] a c NL) := HI.out
            clear HI
            have hik3 : ¬ ((i : Int) + 1 < (K : Int)) := by omega
            have hcc : ¬ ((0 : Int) < (C : Int)) ∨ (0 : Int) < (C : Int) := by omega
            cases loop with
            | false =>
              rcases hcc with hcc | hcc
              all_goals (
                have HCL : Hid (([] : List Int) = Dp.dcs K _ false (K - 1 - 0)) := hcl1.symm
                clear hcl1 hcl2 hbg
                have HOX := hide (HO.out.kept HGJ.out (.inr fun e => by have := (HO.out.lt _ e).1; omega))
                have HDX := hide (HD.out.kept HGJ.out (fun b hb => by cases hb; omega))
                have hbg := HI1.out.cell
                have hsx := HSJ.out
                obtain ⟨sa2, sc2, hse, hsrc⟩ := src_own (HOX.out.alloc (.cells #[.slice a 1 c] 34))
                cases hse
                have HSRC := hide hsrc
                have HNEW := hide (own_new1 wr (w1.heap.size + 1) (.slice a 1 c) 34 (by omega))
                clear hsrc
                go_wp2_with (at_builtin; refine wpl_append (o := ⟨some 93, _, _, _, _, _⟩) rfl _ _ 22 rfl (w1.heap.size + 1) 34 i0 (.agg #[.slice none 0 0]) 1 24 Try.underlying22 hi hz0 hz1 hz2 rfl (by decide) (.slice (some ⟨(wr).heap.size, 0, none⟩) 1 1) 1 _ rfl HNEW.out _ _ _ (gsv gs) rfl HSRC.out (gsv_one gs) ?d3 ?d4 ?d5 ?_)
                case d3 => unfold maxLen; omega
                try (case d4 => omega)
                case d5 => (first | omega | (simp; omega))
                intro v20 w20 hown20 hgrow20
                have hb20 : Below (wr).heap.size (wr) w20 := ((Below.refl _ _).alloc (Nat.le_refl _) _).grown hgrow20 (by simp) (fun k hk => by cases hk; exact Nat.le_refl _)
                have HO20 : Hid (w20.ownsRow (w1.heap.size + 1) 34 1 v20 (0 + 1) (gsv (⟨a, 1, c, NL⟩ :: gs))) := by rw [Nat.add_comm 0 1]; exact hown20
                have HD20 : Hid (Dgs w20 (w1.heap.size + 1) K _ _ (0 + 1) (⟨a, 1, c, NL⟩ :: gs)) := Dgs.more (by omega) ((HDX.out).kept (below_grown hb20) (fun b hb => by cases hb)) (own_base ((HI1.out.own).kept (below_grown hb20) (by cases hv : (Value.slice a (1) c).ownBlock <;> simp)) (by omega)) (by rw [HI1.out.calls]; exact HCL.out) (by have := HI1.out.calls; rw [Dp.dln, ← HCL.out]; simp; try omega) (by omega)
                have HR20 : Hid (w20.rowIs w1.heap.size 3 (K + 1) (fun q => .int .i64 (wv' q))) := (HRJ.out).of_block (hb20.block _ (by omega))
                have HB20 : Hid (Below W.heap.size W w20) := ((HB.out.grown HGJ.out (by omega) (fun k hk => by cases hk; omega)).trans (hb20.mono (by omega)))
                have HS20 : Hid (w1.heap.size + 1 ≤ w20.heap.size) := by have := hb20.size; unfold Hid; omega
                clear hown20 hgrow20 hb20 hbg
                go_wp2_with fail
                go_roundw
                case rel => exact ⟨0 + 1, (i : Int) - 1, _, _, by omega, rfl, by have h := HZ.out; unfold Hid; omega, HO20.out, HD20.out, HR20.out, fun _ => by rw [show K - (0 + 1) = i by omega]; exact HWI2.out, HB20.out, HS20.out⟩
                case measure => simp [intOf]; try omega)
            | true =>
              rcases hcc with hcc | hcc
              all_goals (
                have hik2 : ((i : Int) == (K : Int) - 1) = true := by rw [beq_iff_eq]; omega
                have HCL : Hid (([] : List Int) ++ [(0 : Int)] = Dp.dcs K _ true (K - 1 - 0)) := hcl2.symm
                have hbg1 : wr.cell? ⟨wo.heap.size + 1, 0, none⟩ = some (.slice a 1 c) := HI1.out.cell
                clear hcl1 hcl2 hbg
                have HSRC0 := hide (src_row7 (wr.alloc (.cells #[.int .i64 0] 3)) #[.int .i64 16, .slice (some ⟨wr.heap.size, 0, none⟩) 1 1, .slice none 0 0, .int .i64 0, .slice none 0 0, .slice none 0 0, .slice none 0 0] 41 1 1 7 (wr.heap.size + 1) (by simp) rfl)
                go_wp2_with (at_builtin; refine wpl_append_at (o := ⟨some 88, _, _, _, _, _⟩) rfl _ _ 32 rfl wo.heap.size 41 j0 (.agg #[.int .i64 0, .slice none 0 0, .slice none 0 0, .int .i64 0, .slice none 0 0, .slice none 0 0, .slice none 0 0]) 7 136 Try.underlying32 hj hy0 hy1 hy2 rfl (by decide) (.slice a 1 c) 1 _ rfl ((HI1.out.own.alloc _).alloc _) _ _ _ (ndc ⟨16, some ⟨wr.heap.size, 0, none⟩, 1, 1, [0], none, 0, 0, 0, none, 0, 0, [], none, 0, 0, none, 0, 0, []⟩) rfl HSRC0.out ?e2 ?e3 ?e4 ?e5 ?_)
                case e2 => exact ndc_one _
                case e3 => unfold maxLen; omega
                try (case e4 => omega)
                case e5 => omega
                intro v8 w8 hown8 hgrow8 hloc8
                obtain ⟨a8, c8, rfl, hcell8, hfz8, hI8, hold8, hsz8, hos8, htape8, hout8⟩ := HI1.out.append (grown_two wr _ _) _ rfl hown8 hgrow8 (hloc8.imp id fun h => h.trans (by simp))
                have HI8 : Hid (Inn wo.heap.size (wo.heap.size + 1) (w8.setCell ⟨wo.heap.size + 1, 0, none⟩ (.slice a8 2 c8)) 2 ([] ++ [(0 : Int)]) a8 c8 (NL ++ [⟨16, some ⟨wr.heap.size, 0, none⟩, 1, 1, [0], none, 0, 0, 0, none, 0, 0, [], none, 0, 0, none, 0, 0, []⟩])) := hI8
                have HG8 : Hid (wo.grownBy (w8.setCell ⟨wo.heap.size + 1, 0, none⟩ (.slice a8 2 c8)) (some w1.heap.size)) := ⟨hos8.trans HGJ.out.os, htape8.trans HGJ.out.tape, hout8.trans HGJ.out.output, Nat.le_trans (by omega) hsz8, fun k hk hne => (hold8 k hk).trans (HGJ.out.block k hk hne)⟩
                have HR8 : Hid ((w8.setCell ⟨wo.heap.size + 1, 0, none⟩ (.slice a8 2 c8)).rowIs w1.heap.size 3 (K + 1) (fun j => .int .i64 (wv' j))) := HRJ.out.of_block (hold8 _ (by omega))
                have HS8 : Hid (wo.heap.size + 2 ≤ (w8.setCell ⟨wo.heap.size + 1, 0, none⟩ (.slice a8 2 c8)).heap.size) := Nat.le_trans hsj hsz8
                clear hown8 hgrow8 hloc8 hI8 hold8 hsz8 hos8 htape8 hout8 hbg1
                go_upto_region 18 with (fail)
                generalize w8.setCell ⟨wo.heap.size + 1, 0, none⟩ (.slice a8 2 c8) = W9 at HI8 HG8 HR8 HS8 ⊢
                clear hcell8 hfz8
                have HOX := hide (HO.out.kept HG8.out (.inr fun e => by have := (HO.out.lt _ e).1; omega))
                have HDX := hide (HD.out.kept HG8.out (fun b hb => by cases hb; omega))
                have hbg := HI8.out.cell
                have hsx := HS8.out
                obtain ⟨sa2, sc2, hse, hsrc⟩ := src_own (HOX.out.alloc (.cells #[.slice a8 2 c8] 34))
                cases hse
                have HSRC := hide hsrc
                have HNEW := hide (own_new1 W9 (w1.heap.size + 1) (.slice a8 2 c8) 34 (by omega))
                clear hsrc
                go_wp2_with (at_builtin; refine wpl_append (o := ⟨some 93, _, _, _, _, _⟩) rfl _ _ 22 rfl (w1.heap.size + 1) 34 i0 (.agg #[.slice none 0 0]) 1 24 Try.underlying22 hi hz0 hz1 hz2 rfl (by decide) (.slice (some ⟨(W9).heap.size, 0, none⟩) 1 1) 1 _ rfl HNEW.out _ _ _ (gsv gs) rfl HSRC.out (gsv_one gs) ?d3 ?d4 ?d5 ?_)
                case d3 => unfold maxLen; omega
                try (case d4 => omega)
                case d5 => (first | omega | (simp; omega))
                intro v20 w20 hown20 hgrow20
                have hb20 : Below (W9).heap.size (W9) w20 := ((Below.refl _ _).alloc (Nat.le_refl _) _).grown hgrow20 (by simp) (fun k hk => by cases hk; exact Nat.le_refl _)
                have HO20 : Hid (w20.ownsRow (w1.heap.size + 1) 34 1 v20 (0 + 1) (gsv (⟨a8, 2, c8, (NL ++ [⟨16, some ⟨wr.heap.size, 0, none⟩, 1, 1, [0], none, 0, 0, 0, none, 0, 0, [], none, 0, 0, none, 0, 0, []⟩])⟩ :: gs))) := by rw [Nat.add_comm 0 1]; exact hown20
                have HD20 : Hid (Dgs w20 (w1.heap.size + 1) K _ _ (0 + 1) (⟨a8, 2, c8, (NL ++ [⟨16, some ⟨wr.heap.size, 0, none⟩, 1, 1, [0], none, 0, 0, 0, none, 0, 0, [], none, 0, 0, none, 0, 0, []⟩])⟩ :: gs)) := Dgs.more (by omega) ((HDX.out).kept (below_grown hb20) (fun b hb => by cases hb)) (own_base ((HI8.out.own).kept (below_grown hb20) (by cases hv : (Value.slice a8 (2) c8).ownBlock <;> simp)) (by omega)) (by rw [HI8.out.calls]; exact HCL.out) (by have := HI8.out.calls; rw [Dp.dln, ← HCL.out]; simp; try omega) (by omega)
                have HR20 : Hid (w20.rowIs w1.heap.size 3 (K + 1) (fun q => .int .i64 (wv' q))) := (HR8.out).of_block (hb20.block _ (by omega))
                have HB20 : Hid (Below W.heap.size W w20) := ((HB.out.grown HG8.out (by omega) (fun k hk => by cases hk; omega)).trans (hb20.mono (by omega)))
                have HS20 : Hid (w1.heap.size + 1 ≤ w20.heap.size) := by have := hb20.size; unfold Hid; omega
                clear hown20 hgrow20 hb20 hbg
                go_wp2_with fail
                go_roundw
                case rel => exact ⟨0 + 1, (i : Int) - 1, _, _, by omega, rfl, by have h := HZ.out; unfold Hid; omega, HO20.out, HD20.out, HR20.out, fun _ => by rw [show K - (0 + 1) = i by omega]; exact HWI2.out, HB20.out, HS20.out⟩
                case measure => simp [intOf]; try omega)
    · obtain rfl : t = K := by omega
      obtain rfl : z = -1 := by have := HZ.out; omega
      have hgl : gs.length = t := HD.out.1
      have HGC : Hid (Gc wr sa t sc gs) := by
        obtain ⟨a', c', e, h⟩ := gc_own HO.out (fun i hi => by
          obtain ⟨a', c', e', h'⟩ := ndw_own (HD.out.2 i hi).1
          cases e'
          exact h')
        cases e
        exact h
      have hcs : ∀ i, cs gs i = Dp.dcs t C loop i := by
        intro i
        by_cases hi : i < t
        · have h := (HD.out.2 i hi).2.1
          rw [show t - t + i = i by omega] at h
          exact h
        · have e : gs.getD i default = default := by rw [List.getD_eq_getElem?_getD, List.getElem?_eq_none (by omega)]; rfl
          unfold cs Dp.dcs
          rw [e, if_neg (by omega), if_neg (by omega)]
          rfl
      have hln : ∀ i, i < t → ln gs i = Dp.dln t C loop i := by
        intro i hi
        have h := (HD.out.2 i hi).2.2
        rw [show t - t + i = i by omega] at h
        exact h
      have hfit : Fits t gs := by
        refine ⟨by omega, fun i hi => ?_⟩
        rw [hln i hi]
        unfold Dp.dln Dp.dcs
        split
        · simp; omega
        · split
          · split <;> simp
          · simp
      obtain ⟨T1, T2⟩ := Dp.told (gs := gs) hK1 hcs hln
      have hW := work_any sa t sc gs 0 wr HGC.out hfit
      have HT1 := hide T1
      have HT2 := hide T2
      have hv0 : wv 0 = Dp.dw C (t - 1) := by have h := HV.out hK1; rwa [Nat.sub_self] at h
      have hc0 := HR.out.cell (i := 0) (by omega)
      rw [hv0] at hc0
      have hlt0 := lt_of_cell hc0
      obtain ⟨T, hT⟩ : ∃ T, Dp.dw C (t - 1) = T := ⟨_, rfl⟩
      rw [hT] at HT2 hc0
      have HW := hide hW
      have HC0 := hide hc0
      clear hcs hln hfit T1 T2 hW hv0 hc0 hT hgl hlt
      by_cases a1 : (0 : Int) < (C : Int)
      · by_cases k1 : t = 1
        · have a3 : ((t : Int) == 1) = true := by rw [beq_iff_eq]; omega
          have a2 : ¬ ((8 : Int) < (t : Int) - 1) := by omega
          have k1h := hide k1
          clear k1
          cases loop with
          | true =>
            have hdp : Dp.deepB t C true = true := by first | (have k1 := k1h.out; simp [Dp.deepB]; omega) | (simp [Dp.deepB]; omega) | simp [Dp.deepB]
            have hw := HW.out
            rw [HT1.out hdp] at hw
            have C9 := hide hw
            clear hw hdp
            go_wp2_with (go_at_call 15; (with_reducible refine C9.out.mono ?_); rintro e w9 ⟨rfl, hb9⟩; have HB9 := hide (HB.out.trans (hb9.mono HB.out.size)); clear hb9)
            go_ret
            exact ⟨rfl, HB9.out⟩
          | false =>
            have hdp : Dp.deepB t C false = false := by first | (have k1 := k1h.out; simp [Dp.deepB]; omega) | (simp [Dp.deepB]; omega) | simp [Dp.deepB]
            have hw := HW.out
            by_cases hbig : 4096 < T
            · rw [(HT2.out hdp).1 hbig] at hw
              have C9 := hide hw
              clear hw hdp
              have hbi : (4096 : Int) < (T : Int) := by omega
              go_wp2_with (go_at_call 15; (with_reducible refine C9.out.mono ?_); rintro e w9 ⟨rfl, hb9⟩; have HB9 := hide (HB.out.trans (hb9.mono HB.out.size)); have hc9 := cell_later hb9 HC0.out; clear hb9)
              go_ret
              exact ⟨rfl, HB9.out⟩
            · rw [(HT2.out hdp).2 hbig] at hw
              have C9 := hide hw
              clear hw hdp
              have hbi : ¬ (4096 : Int) < (T : Int) := by omega
              go_wp2_with (go_at_call 15; (with_reducible refine C9.out.mono ?_); rintro e w9 ⟨rfl, hb9⟩; have HB9 := hide (HB.out.trans (hb9.mono HB.out.size)); have hc9 := cell_later hb9 HC0.out; clear hb9)
              go_ret
              exact ⟨rfl, HB9.out⟩
        · have a3 : ((t : Int) == 1) = false := by rw [beq_eq_false_iff_ne]; omega
          by_cases a2 : (8 : Int) < (t : Int) - 1
          · cases loop with
            | true =>
              have hdp : Dp.deepB t C true = true := by first | (have k1 := k1h.out; simp [Dp.deepB]; omega) | (simp [Dp.deepB]; omega) | simp [Dp.deepB]
              have hw := HW.out
              rw [HT1.out hdp] at hw
              have C9 := hide hw
              clear hw hdp
              go_wp2_with (go_at_call 15; (with_reducible refine C9.out.mono ?_); rintro e w9 ⟨rfl, hb9⟩; have HB9 := hide (HB.out.trans (hb9.mono HB.out.size)); clear hb9)
              go_ret
              exact ⟨rfl, HB9.out⟩
            | false =>
              have hdp : Dp.deepB t C false = true := by first | (have k1 := k1h.out; simp [Dp.deepB]; omega) | (simp [Dp.deepB]; omega) | simp [Dp.deepB]
              have hw := HW.out
              rw [HT1.out hdp] at hw
              have C9 := hide hw
              clear hw hdp
              go_wp2_with (go_at_call 15; (with_reducible refine C9.out.mono ?_); rintro e w9 ⟨rfl, hb9⟩; have HB9 := hide (HB.out.trans (hb9.mono HB.out.size)); clear hb9)
              go_ret
              exact ⟨rfl, HB9.out⟩
          · cases loop with
            | true =>
              have hdp : Dp.deepB t C true = true := by first | (have k1 := k1h.out; simp [Dp.deepB]; omega) | (simp [Dp.deepB]; omega) | simp [Dp.deepB]
              have hw := HW.out
              rw [HT1.out hdp] at hw
              have C9 := hide hw
              clear hw hdp
              go_wp2_with (go_at_call 15; (with_reducible refine C9.out.mono ?_); rintro e w9 ⟨rfl, hb9⟩; have HB9 := hide (HB.out.trans (hb9.mono HB.out.size)); clear hb9)
              go_ret
              exact ⟨rfl, HB9.out⟩
            | false =>
              have hdp : Dp.deepB t C false = false := by first | (have k1 := k1h.out; simp [Dp.deepB]; omega) | (simp [Dp.deepB]; omega) | simp [Dp.deepB]
              have hw := HW.out
              by_cases hbig : 4096 < T
              · rw [(HT2.out hdp).1 hbig] at hw
                have C9 := hide hw
                clear hw hdp
                have hbi : (4096 : Int) < (T : Int) := by omega
                go_wp2_with (go_at_call 15; (with_reducible refine C9.out.mono ?_); rintro e w9 ⟨rfl, hb9⟩; have HB9 := hide (HB.out.trans (hb9.mono HB.out.size)); have hc9 := cell_later hb9 HC0.out; clear hb9)
                go_ret
                exact ⟨rfl, HB9.out⟩
              · rw [(HT2.out hdp).2 hbig] at hw
                have C9 := hide hw
                clear hw hdp
                have hbi : ¬ (4096 : Int) < (T : Int) := by omega
                go_wp2_with (go_at_call 15; (with_reducible refine C9.out.mono ?_); rintro e w9 ⟨rfl, hb9⟩; have HB9 := hide (HB.out.trans (hb9.mono HB.out.size)); have hc9 := cell_later hb9 HC0.out; clear hb9)
                go_ret
                exact ⟨rfl, HB9.out⟩
      · by_cases k1 : t = 1
        · have a3 : ((t : Int) == 1) = true := by rw [beq_iff_eq]; omega
          have a2 : ¬ ((8 : Int) < (t : Int) - 1) := by omega
          have k1h := hide k1
          clear k1
          cases loop with
          | true =>
            have hdp : Dp.deepB t C true = true := by first | (have k1 := k1h.out; simp [Dp.deepB]; omega) | (simp [Dp.deepB]; omega) | simp [Dp.deepB]
            have hw := HW.out
            rw [HT1.out hdp] at hw
            have C9 := hide hw
            clear hw hdp
            go_wp2_with (go_at_call 15; (with_reducible refine C9.out.mono ?_); rintro e w9 ⟨rfl, hb9⟩; have HB9 := hide (HB.out.trans (hb9.mono HB.out.size)); clear hb9)
            go_ret
            exact ⟨rfl, HB9.out⟩
          | false =>
            have hdp : Dp.deepB t C false = false := by first | (have k1 := k1h.out; simp [Dp.deepB]; omega) | (simp [Dp.deepB]; omega) | simp [Dp.deepB]
            have hw := HW.out
            by_cases hbig : 4096 < T
            · rw [(HT2.out hdp).1 hbig] at hw
              have C9 := hide hw
              clear hw hdp
              have hbi : (4096 : Int) < (T : Int) := by omega
              go_wp2_with (go_at_call 15; (with_reducible refine C9.out.mono ?_); rintro e w9 ⟨rfl, hb9⟩; have HB9 := hide (HB.out.trans (hb9.mono HB.out.size)); have hc9 := cell_later hb9 HC0.out; clear hb9)
              go_ret
              exact ⟨rfl, HB9.out⟩
            · rw [(HT2.out hdp).2 hbig] at hw
              have C9 := hide hw
              clear hw hdp
              have hbi : ¬ (4096 : Int) < (T : Int) := by omega
              go_wp2_with (go_at_call 15; (with_reducible refine C9.out.mono ?_); rintro e w9 ⟨rfl, hb9⟩; have HB9 := hide (HB.out.trans (hb9.mono HB.out.size)); have hc9 := cell_later hb9 HC0.out; clear hb9)
              go_ret
              exact ⟨rfl, HB9.out⟩
        · have a3 : ((t : Int) == 1) = false := by rw [beq_eq_false_iff_ne]; omega
          by_cases a2 : (8 : Int) < (t : Int) - 1
          · cases loop with
            | true =>
              have hdp : Dp.deepB t C true = false := by first | (have k1 := k1h.out; simp [Dp.deepB]; omega) | (simp [Dp.deepB]; omega) | simp [Dp.deepB]
              have hw := HW.out
              by_cases hbig : 4096 < T
              · rw [(HT2.out hdp).1 hbig] at hw
                have C9 := hide hw
                clear hw hdp
                have hbi : (4096 : Int) < (T : Int) := by omega
                go_wp2_with (go_at_call 15; (with_reducible refine C9.out.mono ?_); rintro e w9 ⟨rfl, hb9⟩; have HB9 := hide (HB.out.trans (hb9.mono HB.out.size)); have hc9 := cell_later hb9 HC0.out; clear hb9)
                go_ret
                exact ⟨rfl, HB9.out⟩
              · rw [(HT2.out hdp).2 hbig] at hw
                have C9 := hide hw
                clear hw hdp
                have hbi : ¬ (4096 : Int) < (T : Int) := by omega
                go_wp2_with (go_at_call 15; (with_reducible refine C9.out.mono ?_); rintro e w9 ⟨rfl, hb9⟩; have HB9 := hide (HB.out.trans (hb9.mono HB.out.size)); have hc9 := cell_later hb9 HC0.out; clear hb9)
                go_ret
                exact ⟨rfl, HB9.out⟩
            | false =>
              have hdp : Dp.deepB t C false = false := by first | (have k1 := k1h.out; simp [Dp.deepB]; omega) | (simp [Dp.deepB]; omega) | simp [Dp.deepB]
              have hw := HW.out
              by_cases hbig : 4096 < T
              · rw [(HT2.out hdp).1 hbig] at hw
                have C9 := hide hw
                clear hw hdp
                have hbi : (4096 : Int) < (T : Int) := by omega
                go_wp2_with (go_at_call 15; (with_reducible refine C9.out.mono ?_); rintro e w9 ⟨rfl, hb9⟩; have HB9 := hide (HB.out.trans (hb9.mono HB.out.size)); have hc9 := cell_later hb9 HC0.out; clear hb9)
                go_ret
                exact ⟨rfl, HB9.out⟩
              · rw [(HT2.out hdp).2 hbig] at hw
                have C9 := hide hw
                clear hw hdp
                have hbi : ¬ (4096 : Int) < (T : Int) := by omega
                go_wp2_with (go_at_call 15; (with_reducible refine C9.out.mono ?_); rintro e w9 ⟨rfl, hb9⟩; have HB9 := hide (HB.out.trans (hb9.mono HB.out.size)); have hc9 := cell_later hb9 HC0.out; clear hb9)
                go_ret
                exact ⟨rfl, HB9.out⟩
          · cases loop with
            | true =>
              have hdp : Dp.deepB t C true = false := by first | (have k1 := k1h.out; simp [Dp.deepB]; omega) | (simp [Dp.deepB]; omega) | simp [Dp.deepB]
              have hw := HW.out
              by_cases hbig : 4096 < T
              · rw [(HT2.out hdp).1 hbig] at hw
                have C9 := hide hw
                clear hw hdp
                have hbi : (4096 : Int) < (T : Int) := by omega
                go_wp2_with (go_at_call 15; (with_reducible refine C9.out.mono ?_); rintro e w9 ⟨rfl, hb9⟩; have HB9 := hide (HB.out.trans (hb9.mono HB.out.size)); have hc9 := cell_later hb9 HC0.out; clear hb9)
                go_ret
                exact ⟨rfl, HB9.out⟩
              · rw [(HT2.out hdp).2 hbig] at hw
                have C9 := hide hw
                clear hw hdp
                have hbi : ¬ (4096 : Int) < (T : Int) := by omega
                go_wp2_with (go_at_call 15; (with_reducible refine C9.out.mono ?_); rintro e w9 ⟨rfl, hb9⟩; have HB9 := hide (HB.out.trans (hb9.mono HB.out.size)); have hc9 := cell_later hb9 HC0.out; clear hb9)
                go_ret
                exact ⟨rfl, HB9.out⟩
            | false =>
              have hdp : Dp.deepB t C false = false := by first | (have k1 := k1h.out; simp [Dp.deepB]; omega) | (simp [Dp.deepB]; omega) | simp [Dp.deepB]
              have hw := HW.out
              by_cases hbig : 4096 < T
              · rw [(HT2.out hdp).1 hbig] at hw
                have C9 := hide hw
                clear hw hdp
                have hbi : (4096 : Int) < (T : Int) := by omega
                go_wp2_with (go_at_call 15; (with_reducible refine C9.out.mono ?_); rintro e w9 ⟨rfl, hb9⟩; have HB9 := hide (HB.out.trans (hb9.mono HB.out.size)); have hc9 := cell_later hb9 HC0.out; clear hb9)
                go_ret
                exact ⟨rfl, HB9.out⟩
              · rw [(HT2.out hdp).2 hbig] at hw
                have C9 := hide hw
                clear hw hdp
                have hbi : ¬ (4096 : Int) < (T : Int) := by omega
                go_wp2_with (go_at_call 15; (with_reducible refine C9.out.mono ?_); rintro e w9 ⟨rfl, hb9⟩; have HB9 := hide (HB.out.trans (hb9.mono HB.out.size)); have hc9 := cell_later hb9 HC0.out; clear hb9)
                go_ret
                exact ⟨rfl, HB9.out⟩
end Go.Proofs.Ytedpppkknmeheaa.GraphDeep
