/-
  GraphLoops: the walk. For every input the law returns true. No condition.
-/
import Derived.Test.YtedpppkknmeheaaReadX
import Derived.Test.YtedpppkknmeheaaGN
import Derived.Test.YtedpppkknmeheaaGR
import Derived.Test.YtedpppkknmeheaaGraphWorks
import Derived.Deep.RegionHeld3
import Derived.Deep.RegionLaw
namespace Go.Proofs.Ytedpppkknmeheaa.GraphLoops
open Go.RowKit Go.Proofs.Ytedpppkknmeheaa.GraphWorks

/-- The graphs so far: each one's nodes in a row of the call's own, none of which is the list's. -/
def Lgs (wr : World) (B : Nat) (ob : Option Nat) (F : Nat → List Int) (t : Nat) (gs : List Gr) : Prop :=
  gs.length = t ∧ ∀ j, j < t → wr.ownsRow B 41 7 (.slice (gs.getD j default).a (gs.getD j default).len (gs.getD j default).cap) (gs.getD j default).len (ndv (gs.getD j default).l) ∧ (∀ b, (Value.slice (gs.getD j default).a (gs.getD j default).len (gs.getD j default).cap).ownBlock = some b → ob ≠ some b) ∧ csl (gs.getD j default).l = F j ∧ (gs.getD j default).len = 1 + (F j).length
theorem Lgs.kept {wr w' : World} {B t : Nat} {ob row : Option Nat} {F : Nat → List Int} {gs : List Gr} (h : Lgs wr B ob F t gs) (hg : wr.grownBy w' row) (hr : row = none ∨ row = ob ∨ ∃ b, row = some b ∧ (b < B ∨ wr.heap.size ≤ b)) : Lgs w' B ob F t gs :=
  ⟨h.1, fun j hj => ⟨(h.2 j hj).1.kept hg (by
    cases hv : (Value.slice (gs.getD j default).a (gs.getD j default).len (gs.getD j default).cap).ownBlock with
    | none => exact .inl rfl
    | some b =>
      refine .inr fun e => ?_
      have h1 := (h.2 j hj).2.1 b hv
      have h2 := (h.2 j hj).1.lt b hv
      rcases hr with rfl | rfl | ⟨c, rfl, h3⟩
      · cases e
      · exact h1 e.symm
      · cases e; omega), (h.2 j hj).2⟩⟩
theorem getD_snoc {gs : List Gr} {x : Gr} {t j : Nat} (h : gs.length = t) : (gs ++ [x]).getD j default = if j = t then x else gs.getD j default := by
  rw [List.getD_eq_getElem?_getD, List.getD_eq_getElem?_getD, List.getElem?_append]
  split
  · rw [if_neg (by omega)]
  · by_cases e : j = t
    · subst e; simp [h]
    · rw [if_neg e, List.getElem?_eq_none (show gs.length ≤ j by omega), List.getElem?_eq_none (by simp; omega)]
theorem Lgs.more {wr : World} {B t : Nat} {ob ob' : Option Nat} {F : Nat → List Int} {gs : List Gr} {a : Option Addr} {m c : Nat} {l : List Nd} (h : Lgs wr B ob F t gs) (hob : ob' = ob ∨ ∃ b, ob' = some b ∧ (∀ j, j < t → ∀ d, (Value.slice (gs.getD j default).a (gs.getD j default).len (gs.getD j default).cap).ownBlock = some d → d < b))
    (ho : wr.ownsRow B 41 7 (.slice a m c) m (ndv l)) (hne : ∀ b, (Value.slice a m c).ownBlock = some b → ob' ≠ some b) (hl : csl l = F t) (hm : m = 1 + (F t).length) : Lgs wr B ob' F (t + 1) (gs ++ [⟨a, m, c, l⟩]) := by
  refine ⟨by simp [h.1], fun j hj => ?_⟩
  rw [getD_snoc h.1]
  by_cases e : j = t
  · subst e
    rw [if_pos rfl]
    exact ⟨ho, hne, hl, hm⟩
  · rw [if_neg e]
    have hj' : j < t := by omega
    refine ⟨(h.2 j hj').1, fun b hb => ?_, (h.2 j hj').2.2⟩
    rcases hob with rfl | ⟨b', rfl, hb'⟩
    · exact (h.2 j hj').2.1 b hb
    · intro e2
      cases e2
      have := hb' j hj' _ hb
      omega
theorem own_base {w : World} {base base' : Nat} {e : TypeId} {size : Nat} {v : Value} {n : Nat} {xs : List Value} (h : w.ownsRow base e size v n xs) (hb : base' ≤ base) : w.ownsRow base' e size v n xs :=
  ⟨h.1, h.2.imp id fun ⟨g, cap, cur, h1, h2, h3⟩ => ⟨g, cap, cur, h1, Nat.le_trans hb h2, h3⟩⟩
theorem drew_grown (w : World) (row : Option Nat) : w.grownBy w.drew row := ⟨rfl, rfl, rfl, Nat.le_refl _, fun _ _ _ => rfl⟩
theorem bel_alloc {W X : World} {o : Obj} (h : Below W.heap.size W X) : Below W.heap.size W (X.alloc o) := h.alloc h.size _
theorem bel_set {W X : World} {b i : Nat} {v : Value} (hb : W.heap.size ≤ b) (h : Below W.heap.size W X) : Below W.heap.size W (X.setCell ⟨b, i, none⟩ v) := h.setCell hb v

set_option maxRecDepth 100000 in
set_option maxHeartbeats 16000000 in
theorem walk (va : Option Addr) (n vc : Nat) (V : List (List Int)) (W : World) (hV : Bs W va n vc V) (hn : n ≤ 140737488355328) :
    Calls Try.prog 6 #[.slice va n vc] W fun e w' => e = .returned (.bool true) ∧ Below W.heap.size W w' := by
  obtain ⟨i0, hi, hz0, hz1, hz2⟩ := parts_of graph_info
  obtain ⟨j0, hj, hy0, hy1, hy2⟩ := parts_of node_info
  have C1 := hide (awake_any W)
  by_cases h0 : n = 0
  · subst h0
    clear hV hn
    go_enter Try.func6, Try.ntmps6
    go_wp2_with (go_at_call 9; (with_reducible refine C1.out.mono ?_); rintro e w1 ⟨rfl, hb1⟩; have HB1 := hide hb1; clear hb1)
    go_ret
    exact ⟨rfl, HB1.out⟩
  by_cases h16 : 16 < n
  · have h16i : (16 : Int) < (n : Int) := by omega
    have h0i : ((n : Int) == 0) = false := by rw [beq_eq_false_iff_ne]; omega
    clear hV hn h0 h16
    go_enter Try.func6, Try.ntmps6
    go_wp2_with (go_at_call 9; (with_reducible refine C1.out.mono ?_); rintro e w1 ⟨rfl, hb1⟩; have HB1 := hide hb1; clear hb1)
    go_ret
    exact ⟨rfl, HB1.out⟩
  have h16i : ¬ (16 : Int) < (n : Int) := by omega
  have h0i : ((n : Int) == 0) = false := by rw [beq_eq_false_iff_ne]; omega
  have HN := hide (And.intro (Nat.pos_of_ne_zero h0) (Nat.le_of_not_lt h16))
  have HV := hide hV
  clear hV hn h0 h16
  go_enter Try.func6, Try.ntmps6
  go_wp2_with (go_at_call 9; (with_reducible refine C1.out.mono ?_); rintro e w1 ⟨rfl, hb1⟩; have HB1 := hide hb1; clear hb1)
  clear C1
  obtain ⟨F, hF⟩ : ∃ F : Nat → List Int, (fun j => (V.getD j []).map (fun x => x % (n : Int))) = F := ⟨_, rfl⟩
  have HFD := hide hF
  clear hF
  go_loopw [3, 4] (fun o i wr => ∃ (t : Nat) (gs : List Gr), t ≤ n ∧ i = .int .i64 t ∧ Hid (wr.ownsRow W.heap.size 34 1 o t (gsv gs)) ∧ Hid (Lgs wr W.heap.size o.ownBlock F t gs) ∧ Hid (Below W.heap.size W wr) ∧ Hid (∀ j, j < t → (F j).length ≤ 200)) (fun _ i _ => n - (intOf i).toNat)
  case atStart => exact ⟨0, [], Nat.zero_le _, rfl, World.ownsRow_nil _ _ _ _, ⟨rfl, fun j hj => by omega⟩, HB1.out, fun j hj => by omega⟩
  case round =>
    obtain ⟨t, gs, htn, rfl, HO, HD, HB, H2⟩ := hrel
    clear HB1
    obtain ⟨oa, oc, rfl, -⟩ := src_own HO.out
    by_cases hlt : t < n
    · obtain ⟨vb, voff, rfl, xa, xl, xc, hcell, hX, hxl, hxb⟩ := HV.out.2.2 t hlt
      have q1 := cell_later HB.out hcell
      have hFt : F t = (V.getD t []).map (fun x => x % (n : Int)) := by rw [← HFD.out]
      obtain ⟨X, hXe⟩ : ∃ X, V.getD t [] = X := ⟨_, rfl⟩
      rw [hXe] at hX hxb hFt
      have HQ0 : Hid (∀ w', Below W.heap.size W w' → w'.cell? ⟨vb, voff + t, none⟩ = some (.slice xa xl xc)) := fun w' hb => cell_later hb hcell
      have HX := hide hX
      have HXB := hide hxb
      have HFT := hide hFt
      clear hX hxb hXe hcell hFt
      by_cases hbig : 200 < xl
      · have hbigi : (200 : Int) < (xl : Int) := by omega
        go_wp2_with fail
        go_ret
        exact ⟨rfl, HB.out⟩
      · have hbigi : ¬ (200 : Int) < (xl : Int) := by omega
        have HXL := hide (Nat.le_of_not_lt hbig)
        clear hbig
        have HQ : Hid (∀ w', Below W.heap.size W w' → w'.cell? ⟨vb, voff + t, none⟩ = some (.slice xa xl xc)) := fun w' hb => HQ0.out w' hb
        obtain ⟨wo, rfl⟩ : ∃ wo : World, wo = wr := ⟨_, rfl⟩
        have hwo := HB.out.size
        have hsz0 : wo.heap.size + 2 ≤ ((wo.alloc (.cells #[.int .i64 1, .slice none 0 0, .slice none 0 0, .int .i64 0, .slice none 0 0, .slice none 0 0, .slice none 0 0] 41)).alloc (.cells #[.slice (some ⟨wo.heap.size, 0, none⟩) 1 1] 34)).heap.size := by simp
        have HI3 := hide (Inn.start wo)
        have HG3 := hide (grown_two wo (.cells #[.int .i64 1, .slice none 0 0, .slice none 0 0, .int .i64 0, .slice none 0 0, .slice none 0 0, .slice none 0 0] 41) (.cells #[.slice (some ⟨wo.heap.size, 0, none⟩) 1 1] 34))
        have HS3 := hide hsz0
        have HXN : Hid (X.length = xl) := HX.out.1
        have HWO := hide hwo
        clear hwo hsz0
        go_wp2_with fail
        go_loopw [6] (fun k wr => ∃ (j c : Nat) (a : Option Addr) (NL : List Nd), k = .int .i64 j ∧ j ≤ xl ∧ Hid (Inn wo.heap.size (wo.heap.size + 1) wr (1 + j) ((F t).take j) a c NL) ∧ Hid (wo.grownBy wr none) ∧ Hid (wo.heap.size + 2 ≤ wr.heap.size)) (fun k _ => xl - (intOf k).toNat)
        case atStart => exact ⟨0, 1, _, _, rfl, Nat.zero_le _, HI3.out, HG3.out, HS3.out⟩
        case round =>
          obtain ⟨j, c, a, NL, rfl, hjx, HI, HG, HS⟩ := hrel
          clear HI3 HG3 HS3
          have hbg := HI.out.cell
          have hsj := HS.out
          have hbw : Below W.heap.size W wr := HB.out.grown HG.out HWO.out (fun b hb => by cases hb)
          have hWb : W.heap.size ≤ wo.heap.size + 1 := by have := HWO.out; omega
          obtain ⟨vb0, voff0, hv0, xa0, xl0, xc0, hcell, -⟩ := HV.out.2.2 t hlt
          clear q1
          have q1 : wr.cell? ⟨vb, voff + t, none⟩ = some (.slice xa xl xc) := HQ.out wr hbw
          clear hcell hv0
          by_cases hjl : j < xl
          · obtain ⟨xb, xoff, rfl, hxc⟩ := HX.out.2.2 j hjl
            obtain ⟨x, hx⟩ : ∃ x, X.getD j 0 = x := ⟨_, rfl⟩
            rw [hx] at hxc
            have hxm : x ∈ X := by
              rw [← hx, List.getD_eq_getElem?_getD, List.getElem?_eq_getElem (by rw [HXN.out]; exact hjl)]
              exact List.getElem_mem _
            obtain ⟨hx0, hx1⟩ := HXB.out x hxm
            have q2 := cell_later hbw hxc
            have hn0 := HN.out.1
            have hn16 := HN.out.2
            have HTK : Hid ((F t).take (j + 1) = (F t).take j ++ [x % (n : Int)]) := by
              unfold Hid
              rw [HFT.out, List.take_succ_eq_append_getElem (by simp [HXN.out]; exact hjl), List.getElem_map]
              have : X[j]'(by rw [HXN.out]; exact hjl) = x := by rw [← hx, List.getD_eq_getElem?_getD, List.getElem?_eq_getElem (by rw [HXN.out]; exact hjl)]; rfl
              rw [this]
            have HSRC := hide (src_row7 (wr.alloc (.cells #[.int .i64 0] 3)) #[.int .i64 16, .slice (some ⟨wr.heap.size, 0, none⟩) 1 1, .slice none 0 0, .int .i64 (x % (n : Int)), .slice none 0 0, .slice none 0 0, .slice none 0 0] 41 1 1 7 (wr.heap.size + 1) (by simp) rfl)
            have hkeep : ∀ w' : World, Below W.heap.size W w' → w'.cell? ⟨vb, voff + t, none⟩ = some (.slice (some ⟨xb, xoff, none⟩) xl xc) ∧ w'.cell? ⟨xb, xoff + j, none⟩ = some (.int .u8 x) ∧ Below W.heap.size W w' := fun w' hb => ⟨HQ.out w' hb, cell_later hb hxc, hb⟩
            have hg1 : (wr.alloc (.cells #[.int .i64 0] 3)).cell? ⟨wo.heap.size + 1, 0, none⟩ = some (.slice a (1 + j) c) := cell_later ((Below.refl _ _).alloc (Nat.le_refl _) _) hbg
            have hg2 : ((wr.alloc (.cells #[.int .i64 0] 3)).alloc (.cells #[.int .i64 16, .slice (some ⟨wr.heap.size, 0, none⟩) 1 1, .slice none 0 0, .int .i64 (x % (n : Int)), .slice none 0 0, .slice none 0 0, .slice none 0 0] 41)).cell? ⟨wo.heap.size + 1, 0, none⟩ = some (.slice a (1 + j) c) := cell_later ((Below.refl _ _).alloc (Nat.le_refl _) _) hg1
            have hq1 : (wr.alloc (.cells #[.int .i64 0] 3)).cell? ⟨vb, voff + t, none⟩ = some (.slice (some ⟨xb, xoff, none⟩) xl xc) := cell_later ((Below.refl _ _).alloc (Nat.le_refl _) _) q1
            have hq2 : (wr.alloc (.cells #[.int .i64 0] 3)).cell? ⟨xb, xoff + j, none⟩ = some (.int .u8 x) := cell_later ((Below.refl _ _).alloc (Nat.le_refl _) _) q2
            have hne1 := World.new_ne _ _ hbg
            have hne2 := World.new_ne _ _ hg1
            have hnz3 : ¬ n = 0 := by omega
            have hwx : IntKind.i64.wrap x = x := by rw [IntKind.wrap_i64]; omega
            have hnz2 : ¬ ((n : Int) = 0) := by omega
            have hrm0 : 0 ≤ x % (n : Int) := Int.emod_nonneg _ hnz2
            have hrm1 : x % (n : Int) < (n : Int) := Int.emod_lt_of_pos _ (by omega)
            have htm : Int.tmod x (n : Int) = x % (n : Int) := Int.tmod_eq_emod_of_nonneg hx0
            have hwr : IntKind.i64.wrap (x % (n : Int)) = x % (n : Int) := by rw [IntKind.wrap_i64]; omega
            clear hx hxm hxc
            go_upto_region 15 with fail
            go_region_law
              ((refine step_append_at (o := ⟨some 64, _, _, _, _, _⟩) rfl (.tmp 49) (.tmp 63) 32 rfl wo.heap.size 41 j0 (.agg #[.int .i64 0, .slice none 0 0, .slice none 0 0, .int .i64 0, .slice none 0 0, .slice none 0 0, .slice none 0 0]) 7 136 Try.underlying32 hj hy0 hy1 hy2 rfl (by decide) (.slice a (1 + j) c) (1 + j) (ndv NL) (by simp [Act.eval]) (((HI.out.own.alloc _).alloc _).drew) (some ⟨wr.heap.size + 1, 0, none⟩) 1 1 (ndc ⟨16, some ⟨wr.heap.size, 0, none⟩, 1, 1, [0], none, 0, 0, x % (n : Int), none, 0, 0, [], none, 0, 0, none, 0, 0, []⟩) (by simp [Act.eval]) HSRC.out (ndc_one _) (by unfold maxLen; omega) (by omega) (by simp [World.drew]; omega) ?_; intro v8 w8 hown8 hgrow8 hloc8; have hb8 : Below W.heap.size W w8 := (Below.grown (bel_drew (bel_alloc (bel_alloc hbw))) hgrow8 (by have := hbw.size; simp [World.drew]; omega) (fun k hk => by have := HI.out.own.lt k hk; have := HWO.out; omega)); obtain ⟨a8, c8, rfl, hcell8, hfz8, hI8, hold8, hsz8, hos8, htape8, hout8⟩ := HI.out.append ((grown_two wr _ _).andThen (drew_grown _ none) (fun _ h => by cases h)) _ rfl hown8 hgrow8 hloc8; clear hown8 hgrow8 hloc8))
            all_goals (
              have HI8 := hide hI8
              have hG8 : wo.grownBy (w8.setCell ⟨wo.heap.size + 1, 0, none⟩ (.slice a8 (1 + j + 1) c8)) none := ⟨hos8.trans HG.out.os, htape8.trans HG.out.tape, hout8.trans HG.out.output, by omega, fun k hk hne => by rw [hold8 k hk]; exact HG.out.block k hk hne⟩
              have HG8 := hide hG8
              have hsz9 : wo.heap.size + 2 ≤ (w8.setCell ⟨wo.heap.size + 1, 0, none⟩ (.slice a8 (1 + j + 1) c8)).heap.size := by omega
              have HS8 := hide hsz9
              have HI9 : Hid (Inn wo.heap.size (wo.heap.size + 1) (w8.setCell ⟨wo.heap.size + 1, 0, none⟩ (.slice a8 (1 + j + 1) c8)) (1 + (j + 1)) ((F t).take (j + 1)) a8 c8 (NL ++ [⟨16, some ⟨wr.heap.size, 0, none⟩, 1, 1, [0], none, 0, 0, x % (n : Int), none, 0, 0, [], none, 0, 0, none, 0, 0, []⟩])) := by
                rw [HTK.out]
                exact HI8.out
              clear hI8 hG8 hsz9 hold8 hsz8 hos8 htape8 hout8 hkeep hbg hg1 hg2 hq1 hq2
              go_wp2_with fail
              go_roundw
              case rel => exact ⟨j + 1, c8, a8, _, by go_num, by omega, HI9.out, HG8.out, HS8.out⟩
              case measure => simp [intOf]; omega)
          · obtain rfl : xl = j := by omega
            have hFl : (F t).length = xl := by rw [HFT.out, List.length_map]; exact HXN.out
            have htk : (F t).take xl = F t := by rw [← hFl, List.take_length]
            have HI9 := HI.out
            rw [htk] at HI9
            have HIN := hide HI9
            have HFL := hide hFl
            have HOW := hide (HO.out.kept HG.out (by cases hv : (Value.slice oa t oc).ownBlock <;> simp))
            have HOX := hide (HOW.out.alloc (.cells #[.slice a (1 + xl) c] 34))
            have HSR := hide (Src.one wr _ rfl (.slice a (1 + xl) c) 34)
            have hn16 := HN.out.2
            have hxl2 := HXL.out
            clear HI9 htk hFl HI
            go_wp2_with (at_builtin; refine wpl_append_at (o := ⟨some 69, _, _, _, _, _⟩) rfl _ _ 22 rfl W.heap.size 34 i0 (.agg #[.slice none 0 0]) 1 24 Try.underlying22 hi hz0 hz1 hz2 rfl (by decide) (.slice oa t oc) t _ rfl HOX.out _ _ _ [.slice a (1 + xl) c] rfl HSR.out ?b2 ?b3 ?b4 ?b5 ?_)
            case b2 => intro u hu; rw [List.mem_singleton] at hu; subst hu; rfl
            case b3 => unfold maxLen; omega
            case b4 => omega
            case b5 => have := hbw.size; simp; omega
            intro v9 w9 hown9 hgrow9 hloc9
            have hW0 := HWO.out
            have hga : wr.grownBy (wr.alloc (.cells #[.slice a (1 + xl) c] 34)) none := World.grownBy_alloc wr _ none
            have hsz := hgrow9.size
            have hszw := HG.out.size
            have hlt9 : ∀ b, (Value.slice oa t oc).ownBlock = some b → W.heap.size ≤ b ∧ b < wo.heap.size := fun b hb => HO.out.lt b hb
            have hltI : ∀ b, (Value.slice a (1 + xl) c).ownBlock = some b → wo.heap.size ≤ b ∧ b < wr.heap.size := fun b hb => HIN.out.own.lt b hb
            have HO9 : Hid (w9.ownsRow W.heap.size 34 1 v9 (t + 1) (gsv (gs ++ [⟨a, 1 + xl, c, NL⟩]))) := by
              have e : gsv (gs ++ [⟨a, 1 + xl, c, NL⟩]) = gsv gs ++ [.slice a (1 + xl) c] := by simp [gsv]
              rw [e]
              exact hown9
            have hD1 := (HD.out.kept HG.out (.inl rfl))
            have hD2 := (hD1.kept hga (.inl rfl)).kept hgrow9 (.inr (.inl rfl))
            have HD9 : Hid (Lgs w9 W.heap.size v9.ownBlock F (t + 1) (gs ++ [⟨a, 1 + xl, c, NL⟩])) := by
              refine hD2.more ?_ ?_ ?_ HIN.out.calls (by rw [HFL.out])
              · rcases hloc9 with e | e
                · exact .inl e
                · refine .inr ⟨_, e, fun j hj d hd => ?_⟩
                  have h1 := (hD1.2 j hj).1.lt d hd
                  simp
                  omega
              · refine own_base ((HIN.out.own.kept hga (by cases (Value.slice a (1 + xl) c).ownBlock <;> simp)).kept hgrow9 ?_) hW0
                cases hv : (Value.slice a (1 + xl) c).ownBlock with
                | none => exact .inl rfl
                | some b =>
                  refine .inr fun e => ?_
                  have h1 := hltI b hv
                  have h2 := hlt9 b e.symm
                  omega
              · intro b hb e
                have h1 := hltI b hb
                rcases hloc9 with e2 | e2
                · rw [e2] at e
                  have h2 := hlt9 b e
                  omega
                · rw [e2] at e
                  have hs2 : (wr.alloc (.cells #[.slice a (1 + xl) c] 34)).heap.size = wr.heap.size + 1 := by simp
                  have := Option.some.inj e
                  omega
            have HB9 : Hid (Below W.heap.size W w9) := Below.grown (bel_alloc hbw) hgrow9 (by have := hbw.size; simp; omega) (fun k hk => (hlt9 k hk).1)
            have H29 : Hid (∀ j, j < t + 1 → (F j).length ≤ 200) := fun j hj => by
              by_cases e : j = t
              · subst e; rw [HFL.out]; exact hxl2
              · exact H2.out j (by omega)
            clear hown9 hgrow9 hloc9 hW0 hga hsz hszw hlt9 hltI hD1 hD2 hbg hbw
            go_wp2_with fail
            go_roundw
            case rel => exact ⟨t + 1, gs ++ [(⟨a, 1 + xl, c, NL⟩ : Gr)], by omega, by go_num, HO9.out, HD9.out, HB9.out, H29.out⟩
            case measure => simp [intOf]; omega
    · obtain rfl : n = t := by omega
      obtain ⟨w5, rfl⟩ : ∃ w5 : World, w5 = wr := ⟨_, rfl⟩
      have HGC : Hid (Gc w5 oa n oc gs) := by
        obtain ⟨a', c', e, h⟩ := gc_own HO.out (fun i hi => by
          obtain ⟨a', c', e', h'⟩ := ndw_own (HD.out.2 i hi).1
          cases e'
          exact h')
        cases e
        exact h
      have hn0 := HN.out.1
      have hn16 := HN.out.2
      have hfit : Fits n gs := ⟨by omega, fun i hi => by
        have h1 := (HD.out.2 i hi).2.2.2
        have h2 := H2.out i hi
        unfold ln
        omega⟩
      have hvl : ∀ x, x < n → Wk.Vl n (cs gs) x := by
        intro x hx c hc
        unfold cs at hc
        rw [(HD.out.2 x hx).2.2.1, ← HFD.out] at hc
        obtain ⟨y, _, rfl⟩ := List.mem_map.1 hc
        exact ⟨Int.emod_nonneg _ (by omega), Int.emod_lt_of_pos _ (by omega)⟩
      have C2 : Hid (∀ (w' : World) (q : Nat), Below w5.heap.size w5 w' → Calls Try.prog 15 #[.slice oa n oc, .int .i64 q] w' fun e w2 => e = .returned (.tuple #[.int .i64 (wkR n gs q).1, .int .i64 (wkR n gs q).2]) ∧ Below w5.heap.size w5 w2) :=
        hide (fun w' q hb => (work_any oa n oc gs q w' (HGC.out.later hb) hfit).mono fun e w2 h => ⟨h.1, hb.trans (h.2.mono hb.size)⟩)
      have C3 : Hid (∀ (w' : World) (q : Nat), q < n → Below w5.heap.size w5 w' → Calls Try.prog 16 #[.slice oa n oc, .int .i64 q] w' fun e w2 => e = .returned (.tuple #[.int .i64 (wkR n gs q).1, .int .i64 (wkR n gs q).2]) ∧ Below w5.heap.size w5 w2) :=
        hide (fun w' q hq hb => (work_ref oa n oc gs q w' (HGC.out.later hb) hfit hq hvl).mono fun e w2 h => ⟨h.1, hb.trans (h.2.mono hb.size)⟩)
      have HR : Hid (wkR n gs (n : Int) = (0, 6)) := by unfold Hid wkR Wk.work; rw [if_pos (.inr (.inl (Int.le_refl _)))]
      clear hfit hvl HO HD H2 HGC hlt
      go_wp2_with fail
      go_loopw [7] (fun i w' => ∃ q : Nat, q ≤ n ∧ i = .int .i64 q ∧ Hid (Below w5.heap.size w5 w')) (fun i _ => n - (intOf i).toNat)
      case atStart => exact ⟨0, Nat.zero_le _, rfl, Below.refl _ _⟩
      case round =>
        obtain ⟨q, hq, rfl, HBQ⟩ := hrel
        by_cases hlt2 : q < n
        · have C4 := hide (C2.out _ q HBQ.out)
          have C5 : Hid (∀ w', Below w5.heap.size w5 w' → Calls Try.prog 16 #[.slice oa n oc, .int .i64 q] w' fun e w2 => e = .returned (.tuple #[.int .i64 (wkR n gs q).1, .int .i64 (wkR n gs q).2]) ∧ Below w5.heap.size w5 w2) := hide (fun w' hb => C3.out w' q hlt2 hb)
          generalize (wkR n gs (q : Int)).1 = r1 at C4 C5
          generalize (wkR n gs (q : Int)).2 = r2 at C4 C5
          go_wp2_with (first | (go_at_call 15; (with_reducible refine C4.out.mono ?_); rintro e w8 ⟨rfl, hb8⟩; have HB8 := hide hb8; clear hb8) | (go_at_call 16; (with_reducible refine (C5.out _ HB8.out).mono ?_); rintro e w9 ⟨rfl, hb9⟩; have HB9 := hide hb9; clear hb9))
          go_roundw
          case rel => exact ⟨q + 1, by omega, by go_num, HB9.out⟩
          case measure => simp [intOf]; omega
        · obtain rfl : n = q := by omega
          have C4 := C2.out _ n HBQ.out
          rw [HR.out] at C4
          have C4 := hide C4
          go_wp2_with (go_at_call 15; (with_reducible refine C4.out.mono ?_); rintro e w8 ⟨rfl, hb8⟩; have HB8 := hide hb8; clear hb8)
          go_ret
          exact ⟨rfl, HB.out.trans (HB8.out.mono HB.out.size)⟩
end Go.Proofs.Ytedpppkknmeheaa.GraphLoops
