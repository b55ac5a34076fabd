/-
  The document's node: the same plain function. No condition. Printed by wip/tools/geng5.py.
-/
import Derived.Test.YtedpppkknmeheaaG4
namespace Go.Proofs.Ytedpppkknmeheaa
open Go.RowKit

theorem opmay_many (op : Int) : opmay op = decide (0 ≤ many op) := by
  unfold opmay many
  by_cases h : 1 ≤ op ∧ op ≤ 16
  · rw [decide_eq_true h]
    symm
    rw [decide_eq_true_iff]
    split
    · decide
    · split
      · decide
      · decide
  · rw [decide_eq_false h, if_neg (by omega), if_neg (by omega), if_neg h]; rfl
theorem any_none {zs : List Int} {p : Int → Bool} (h : ∀ j, j < zs.length → p (zs.getD j 0) = false) : zs.any p = false := by
  rw [List.any_eq_false]
  intro x hx
  obtain ⟨j, hj, rfl⟩ := List.getElem_of_mem hx
  have := h j hj
  rw [List.getD_eq_getElem?_getD, List.getElem?_eq_getElem hj] at this
  simpa using this
theorem any_some {zs : List Int} {p : Int → Bool} {j : Nat} (hj : j < zs.length) (h : p (zs.getD j 0) = true) : zs.any p = true :=
  List.any_eq_true.2 ⟨zs.getD j 0, by rw [List.getD_eq_getElem?_getD, List.getElem?_eq_getElem hj]; exact List.getElem_mem _, h⟩

set_option maxRecDepth 100000 in
set_option maxHeartbeats 16000000 in
theorem node_ref3 (va : Option Addr) (vl vc ll : Nat) (ia : Option Addr) (ic : Nat) (ta : Option Addr) (tl tc : Nat) (no : Int) (sa : Option Addr) (sl sc : Nat) (da : Option Addr) (dl dc : Nat) (ha : Option Addr) (hl hc : Nat) (hs : List (Int × Nat)) (w : World) (hH : Hks w ha hl hc hs) (hhl : hl ≤ 140737488355328) (b : Bool) (hb : maysB hs = b) :
    Calls Try.prog 20 #[.agg #[.int .i64 3, .slice ia 0 ic, .slice ta tl tc, .int .i64 no, .slice sa sl sc, .slice da dl dc, .slice ha hl hc], .int .i64 0, .int .i64 ll, .slice va vl vc] w fun e w' => e = .returned (.int .i64 (cond b 0 8)) ∧ Below w.heap.size w w' := by
  have C32 : Hid (∀ w', Calls Try.prog 32 #[.int .i64 3] w' fun e w2 => e = .returned (.int .i64 0) ∧ w' = w2) := hide (fun w' => many_ref 3 w')
  have C35 : Hid (∀ w', Below w.heap.size w w' → Calls Try.prog 35 #[.slice ha hl hc] w' fun e w2 => e = .returned (.bool b) ∧ Below w.heap.size w w2) :=
    hide (fun w' hbw => (mays_ref ha hl hc hs w' (hH.later hbw) hhl).mono (fun e w2 h => ⟨by rw [h.1, hb], hbw.trans (h.2.mono hbw.size)⟩))
  have hb0 : Below w.heap.size w (w.alloc (.cells #[.int .i64 3, .slice ia 0 ic, .slice ta tl tc, .int .i64 no, .slice sa sl sc, .slice da dl dc, .slice ha hl hc] 41)) := (Below.refl _ _).alloc (Nat.le_refl _) _
  have HB0 := hide hb0
  clear hH hb hb0
  go_enter Try.func20, Try.ntmps20
  go_wp2_with (go_at_call 32; (with_reducible refine (C32.out _).mono ?_); rintro e w2 ⟨rfl, rfl⟩)
  go_quiet ((go_at_call 32; exact Calls.quiet_of_same ((C32.out _).mono fun _ _ h => ⟨h.1, h.2.symm⟩)))
  go_wp2_with fail
  have hrow : ∀ q, ((w.alloc (.cells #[.int .i64 3, .slice ia 0 ic, .slice ta tl tc, .int .i64 no, .slice sa sl sc, .slice da dl dc, .slice ha hl hc] 41)).drewN q).heap[w.heap.size]? = some (.cells #[.int .i64 3, .slice ia 0 ic, .slice ta tl tc, .int .i64 no, .slice sa sl sc, .slice da dl dc, .slice ha hl hc] 41 (0, 0)) := fun q => heap_alloc_new _ _
  have hg := hrow nq
  have hbW := below_drewN HB0.out nq
  generalize (w.alloc (.cells #[.int .i64 3, .slice ia 0 ic, .slice ta tl tc, .int .i64 no, .slice sa sl sc, .slice da dl dc, .slice ha hl hc] 41)).drewN nq = W1 at hg hbW ⊢
  have y0 := cell_of_row W1 _ 0 _ _ _ hg
  have y1 := cell_of_row W1 _ 1 _ _ _ hg
  have y2 := cell_of_row W1 _ 2 _ _ _ hg
  have y3 := cell_of_row W1 _ 3 _ _ _ hg
  have y4 := cell_of_row W1 _ 4 _ _ _ hg
  have y5 := cell_of_row W1 _ 5 _ _ _ hg
  have y6 := cell_of_row W1 _ 6 _ _ _ hg
  have HBW := hide hbW
  clear hrow hg hbW
  go_loopw [9] (fun i wr => i = .int .i64 0 ∧ W1 = wr) (fun i _ => 0)
  case atStart => exact ⟨rfl, rfl⟩
  case round =>
    obtain ⟨rfl, rfl⟩ := hrel
    go_wp2_with fail
    go_loopw [10] (fun i wr => i = .int .i64 0 ∧ W1 = wr) (fun i _ => 0)
    case atStart => exact ⟨rfl, rfl⟩
    case round =>
      obtain ⟨rfl, rfl⟩ := hrel
      cases b with
      | true =>
        go_wp2_with (go_at_call 35; (with_reducible refine (C35.out _ HBW.out).mono ?_); rintro e w3 ⟨rfl, hb3⟩; have HB3 := hide hb3; clear hb3)
        go_ret
        exact ⟨rfl, HB3.out⟩
      | false =>
        go_wp2_with (go_at_call 35; (with_reducible refine (C35.out _ HBW.out).mono ?_); rintro e w3 ⟨rfl, hb3⟩; have HB3 := hide hb3; clear hb3)
        go_ret
        exact ⟨rfl, HB3.out⟩

set_option maxRecDepth 100000 in
set_option maxHeartbeats 16000000 in
theorem node_ref (va : Option Addr) (vl vc ll : Nat) (n : Nd) (k : Nat) (w : World) (V : List (List Int)) (hok : n.ok w) (hs : n.small) (hV : Vs w va vl vc V) :
    Calls Try.prog 20 #[n.val, .int .i64 k, .int .i64 ll, .slice va vl vc] w fun e w' => e = .returned (.int .i64 (nodeE ll vl V n k)) ∧ Below w.heap.size w w' := by
  have C32 : Hid (∀ w', Calls Try.prog 32 #[.int .i64 n.op] w' fun e w2 => e = .returned (.int .i64 (many n.op)) ∧ w' = w2) := hide (fun w' => many_ref n.op w')
  have HOM := hide (opmay_many n.op)
  obtain ⟨m, hm⟩ : ∃ m, many n.op = m := ⟨_, rfl⟩
  rw [hm] at C32 HOM
  have HM := hide hm
  have hb0 : Below w.heap.size w (w.alloc (.cells #[.int .i64 n.op, .slice n.ia n.il n.ic, .slice n.ta n.tl n.tc, .int .i64 n.no, .slice n.sa n.sl n.sc, .slice n.da n.dl n.dc, .slice n.ha n.hl n.hc] 41)) := (Below.refl _ _).alloc (Nat.le_refl _) _
  have HB0 := hide hb0
  have HOK := hide hok
  have HS := hide hs
  have HV := hide hV
  clear hm hok hs hV hb0
  by_cases h0 : m < 0
  · have HR : Hid (nodeE ll vl V n k = 4) := by
      unfold Hid nodeE
      have : opmay n.op = false := by rw [HOM.out, decide_eq_false_iff_not]; omega
      simp [es, this]
    have HR' := HR
    unfold Nd.val
    go_enter Try.func20, Try.ntmps20
    go_wp2_with (go_at_call 32; (with_reducible refine (C32.out _).mono ?_); rintro e w2 ⟨rfl, rfl⟩)
    go_ret
    rw [HR.out]
    exact ⟨rfl, HB0.out⟩
  have HE0 : Hid (opmay n.op = true) := by unfold Hid; rw [HOM.out, decide_eq_true_iff]; omega
  by_cases h1 : argB n k = true
  · have HR : Hid (nodeE ll vl V n k = 1) := by
      unfold Hid nodeE
      simp [es, HE0.out, h1]
    unfold argB at h1
    rw [HM.out] at h1
    have h1' := of_decide_eq_true h1
    clear h1
    unfold Nd.val
    by_cases hil : (n.il : Int) = m
    · have h3 := h1'.resolve_left (fun h => h hil)
      obtain ⟨h3, hk⟩ := h3
      subst hil
      have HR' := HR
      clear h1' HE0 HOM HM HV HOK HS
      generalize n.op = op at C32 HB0 h3 ⊢
      subst h3
      have ek : ((k : Int) == 0) = false := by rw [beq_eq_false_iff_ne]; omega
      go_enter Try.func20, Try.ntmps20
      go_wp2_with (go_at_call 32; (with_reducible refine (C32.out _).mono ?_); rintro e w2 ⟨rfl, rfl⟩)
      go_quiet ((go_at_call 32; exact Calls.quiet_of_same ((C32.out _).mono fun _ _ h => ⟨h.1, h.2.symm⟩)))
      go_wp2_with fail
      go_ret
      rw [HR.out]
      exact ⟨rfl, below_drewN HB0.out _⟩
    · have ei : ((n.il : Int) == m) = false := by rw [beq_eq_false_iff_ne]; exact hil
      clear h1' HE0 HOM HM HV HOK HS
      go_enter Try.func20, Try.ntmps20
      go_wp2_with (go_at_call 32; (with_reducible refine (C32.out _).mono ?_); rintro e w2 ⟨rfl, rfl⟩)
      go_quiet ((go_at_call 32; exact Calls.quiet_of_same ((C32.out _).mono fun _ _ h => ⟨h.1, h.2.symm⟩)))
      go_wp2_with fail
      go_ret
      rw [HR.out]
      exact ⟨rfl, below_drewN HB0.out _⟩
  have HE1 : Hid (argB n k = false) := by unfold Hid; simpa using h1
  have h1' : (n.il : Int) = m ∧ (n.op = 3 → k = 0) := by
    have := HE1.out
    unfold argB at this
    rw [HM.out] at this
    have := of_decide_eq_false this
    constructor
    · exact Classical.byContradiction fun h => this (.inl h)
    · intro h3
      exact Classical.byContradiction fun h => this (.inr ⟨h3, by omega⟩)
  clear h1
  obtain ⟨hm1, h30⟩ := h1'
  subst hm1
  by_cases h3 : n.op = 3
  · have hil : n.il = 0 := by
      have h := HM.out
      rw [h3] at h
      have : (0 : Int) = n.il := h
      omega
    have hk0 := h30 h3
    subst hk0
    have hins : n.ins = [] := List.eq_nil_of_length_eq_zero (HOK.out.1.1.trans hil)
    have HR : Hid (nodeE ll vl V n (0 : Nat) = cond (maysB n.hs) 0 8) := by
      have HGR : grB ll n = false := by unfold grB; rw [decide_eq_false_iff_not]; omega
      have HLF : leafB vl n = false := by unfold leafB; rw [decide_eq_false_iff_not]; omega
      have HSH : shapeB V n = false := by unfold shapeB; rw [if_neg (by omega), if_neg (by omega)]
      have HE1' := HE1.out
      have HE0' := HE0.out
      unfold Hid nodeE
      simp only [es, HE0', HE1', hins, HGR, HLF, HSH, List.any_nil, Bool.or_self, cond_true, cond_false]
      simp
    rw [HR.out]
    have C := node_ref3 va vl vc ll n.ia n.ic n.ta n.tl n.tc n.no n.sa n.sl n.sc n.da n.dl n.dc n.ha n.hl n.hc n.hs w HOK.out.2.2 HS.out.2.2 _ rfl
    unfold Nd.val
    rw [h3, hil]
    exact C
  unfold Nd.val
  go_enter Try.func20, Try.ntmps20
  go_wp2_with (go_at_call 32; (with_reducible refine (C32.out _).mono ?_); rintro e w2 ⟨rfl, rfl⟩)
  have hk3 : (n.op == 3 && !((k : Int) == 0)) = false := by
    by_cases h3 : n.op = 3
    · rw [h30 h3]; simp
    · have : (n.op == 3) = false := by simpa using h3
      rw [this]; rfl
  · have e3 : (n.op == 3) = false := by simpa using h3
    go_quiet ((go_at_call 32; exact Calls.quiet_of_same ((C32.out _).mono fun _ _ h => ⟨h.1, h.2.symm⟩)))
    go_wp2_with fail
    have hrow : ∀ q, ((w.alloc (.cells #[.int .i64 n.op, .slice n.ia n.il n.ic, .slice n.ta n.tl n.tc, .int .i64 n.no, .slice n.sa n.sl n.sc, .slice n.da n.dl n.dc, .slice n.ha n.hl n.hc] 41)).drewN q).heap[w.heap.size]? = some (.cells #[.int .i64 n.op, .slice n.ia n.il n.ic, .slice n.ta n.tl n.tc, .int .i64 n.no, .slice n.sa n.sl n.sc, .slice n.da n.dl n.dc, .slice n.ha n.hl n.hc] 41 (0, 0)) := fun q => heap_alloc_new _ _
    have hg := hrow nq
    have hbW := below_drewN HB0.out nq
    generalize (w.alloc (.cells #[.int .i64 n.op, .slice n.ia n.il n.ic, .slice n.ta n.tl n.tc, .int .i64 n.no, .slice n.sa n.sl n.sc, .slice n.da n.dl n.dc, .slice n.ha n.hl n.hc] 41)).drewN nq = W1 at hg hbW ⊢
    have HI := hide (HOK.out.1.later hbW)
    have y0 := cell_of_row W1 _ 0 _ _ _ hg
    have y1 := cell_of_row W1 _ 1 _ _ _ hg
    have y2 := cell_of_row W1 _ 2 _ _ _ hg
    have y3 := cell_of_row W1 _ 3 _ _ _ hg
    have y4 := cell_of_row W1 _ 4 _ _ _ hg
    have y5 := cell_of_row W1 _ 5 _ _ _ hg
    have y6 := cell_of_row W1 _ 6 _ _ _ hg
    have HBW := hide hbW
    have HIL := hide HOK.out.1.1
    have hilb : n.il ≤ 140737488355328 := HS.out.1
    clear hrow hg hbW hk3
    go_loopw [9] (fun i wr => ∃ j : Nat, j ≤ n.il ∧ i = .int .i64 j ∧ W1 = wr ∧ Hid (∀ t, t < j → (fun x => decide ((k : Int) ≤ x)) (n.ins.getD t 0) = false)) (fun i _ => n.il - (intOf i).toNat)
    case atStart => exact ⟨0, Nat.zero_le _, rfl, rfl, fun t ht => by omega⟩
    case round =>
      obtain ⟨j, hj, rfl, rfl, HJ⟩ := hrel
      by_cases hlt : j < n.il
      · obtain ⟨b, off, hia, hc⟩ := HI.out.at hlt
        obtain ⟨x, hx⟩ : ∃ x, n.ins.getD j 0 = x := ⟨_, rfl⟩
        rw [hx] at hc
        have HX := hide hx
        clear hx
        by_cases hge : (k : Int) ≤ x
        · have HR : Hid (nodeE ll vl V n k = 5) := by
            have : n.ins.any (fun x => decide ((k : Int) ≤ x)) = true := any_some (j := j) (by rw [HIL.out]; exact hlt) (by rw [HX.out]; simpa using hge)
            unfold Hid nodeE
            simp [es, HE0.out, HE1.out, this]
          go_wp2_with fail
          go_ret
          rw [HR.out]
          exact ⟨rfl, HBW.out⟩
        · have HE : Hid (decide ((k : Int) ≤ n.ins.getD j 0) = false) := by unfold Hid; rw [HX.out]; simpa using hge
          go_wp2_with fail
          go_roundw
          case rel =>
            refine ⟨j + 1, by omega, by go_num, trivial, fun t ht => ?_⟩
            by_cases e : t = j
            · subst e; exact HE.out
            · exact HJ.out t (by omega)
          case measure => simp [intOf]; omega
      · have hjl : j = n.il := by omega
        subst hjl
        have HN1 : Hid (n.ins.any (fun x => decide ((k : Int) ≤ x)) = false) := any_none (fun t ht => HJ.out t (by rw [← HIL.out]; exact ht))
        clear HJ
        go_wp2_with fail
        go_loopw [10] (fun i wr => ∃ j : Nat, j ≤ n.il ∧ i = .int .i64 j ∧ W1 = wr ∧ Hid (∀ t, t < j → (fun x => decide (x < 0)) (n.ins.getD t 0) = false)) (fun i _ => n.il - (intOf i).toNat)
        case atStart => exact ⟨0, Nat.zero_le _, rfl, rfl, fun t ht => by omega⟩
        case round =>
          obtain ⟨j, hj, rfl, rfl, HJ⟩ := hrel
          by_cases hlt : j < n.il
          · obtain ⟨b, off, hia, hc⟩ := HI.out.at hlt
            obtain ⟨x, hx⟩ : ∃ x, n.ins.getD j 0 = x := ⟨_, rfl⟩
            rw [hx] at hc
            have HX := hide hx
            clear hx
            by_cases hge : x < 0
            · have HN2 : Hid (n.ins.any (fun x => decide (x < 0)) = true) := any_some (j := j) (by rw [HIL.out]; exact hlt) (by rw [HX.out]; simpa using hge)
              have HR : Hid (nodeE ll vl V n k = 6) := by unfold Hid nodeE; simp [es, HE0.out, HE1.out, HN1.out, HN2.out]
              go_wp2_with fail
              go_ret
              rw [HR.out]
              exact ⟨rfl, HBW.out⟩
            · have HE : Hid (decide (n.ins.getD j 0 < 0) = false) := by unfold Hid; rw [HX.out]; simpa using hge
              go_wp2_with fail
              go_roundw
              case rel =>
                refine ⟨j + 1, by omega, by go_num, trivial, fun t ht => ?_⟩
                by_cases e : t = j
                · subst e; exact HE.out
                · exact HJ.out t (by omega)
              case measure => simp [intOf]; omega
          · have hjl : j = n.il := by omega
            have HN2 : Hid (n.ins.any (fun x => decide (x < 0)) = false) := any_none (fun t ht => HJ.out t (by rw [hjl, ← HIL.out]; exact ht))
            clear HJ
            have C35 : Hid (∀ w', Below w.heap.size w w' → Calls Try.prog 35 #[.slice n.ha n.hl n.hc] w' fun e w2 => e = .returned (.bool (maysB n.hs)) ∧ Below w.heap.size w w2) :=
              hide (fun w' hbw => (mays_ref n.ha n.hl n.hc n.hs w' (HOK.out.2.2.later hbw) HS.out.2.2).mono (fun e w2 h => ⟨h.1, hbw.trans (h.2.mono hbw.size)⟩))
            by_cases h16 : n.op = 16
            · have e16 : (n.op == 16) = true := by simpa using h16
              have e1 : (n.op == 1) = false := by rw [h16]; rfl
              have e2 : (n.op == 2) = false := by rw [h16]; rfl
              by_cases hno : n.no < 0
              · have HGR : Hid (grB ll n = true) := by unfold Hid grB; rw [decide_eq_true_iff]; exact ⟨h16, .inl hno⟩
                have HR : Hid (nodeE ll vl V n k = 6) := by unfold Hid nodeE; simp [es, HE0.out, HE1.out, HN1.out, HN2.out, HGR.out]
                go_wp2_with fail
                go_ret
                rw [HR.out]
                exact ⟨rfl, HBW.out⟩
              · by_cases hll : (ll : Int) ≤ n.no
                · have HGR : Hid (grB ll n = true) := by unfold Hid grB; rw [decide_eq_true_iff]; exact ⟨h16, .inr hll⟩
                  have HR : Hid (nodeE ll vl V n k = 6) := by unfold Hid nodeE; simp [es, HE0.out, HE1.out, HN1.out, HN2.out, HGR.out]
                  go_wp2_with fail
                  go_ret
                  rw [HR.out]
                  exact ⟨rfl, HBW.out⟩
                · have HGR : Hid (grB ll n = false) := by unfold Hid grB; rw [decide_eq_false_iff_not]; exact fun h => h.2.elim hno hll
                  have HLF : Hid (leafB vl n = false) := by unfold Hid leafB; rw [decide_eq_false_iff_not]; omega
                  have HSH : Hid (shapeB V n = false) := by unfold Hid shapeB; rw [if_neg (by omega), if_neg (by omega)]
                  cases hmy : maysB n.hs with
                  | true =>
                    have HR : Hid (nodeE ll vl V n k = 0) := by unfold Hid nodeE; simp [es, HE0.out, HE1.out, HN1.out, HN2.out, HGR.out, HLF.out, HSH.out, hmy]
                    rw [hmy] at C35
                    clear hmy
                    go_wp2_with (go_at_call 35; (with_reducible refine (C35.out _ HBW.out).mono ?_); rintro e w3 ⟨rfl, hb3⟩; have HB3 := hide hb3; clear hb3)
                    go_ret
                    rw [HR.out]
                    exact ⟨rfl, HB3.out⟩
                  | false =>
                    have HR : Hid (nodeE ll vl V n k = 8) := by unfold Hid nodeE; simp [es, HE0.out, HE1.out, HN1.out, HN2.out, HGR.out, HLF.out, HSH.out, hmy]
                    rw [hmy] at C35
                    clear hmy
                    go_wp2_with (go_at_call 35; (with_reducible refine (C35.out _ HBW.out).mono ?_); rintro e w3 ⟨rfl, hb3⟩; have HB3 := hide hb3; clear hb3)
                    go_ret
                    rw [HR.out]
                    exact ⟨rfl, HB3.out⟩
            · have e16 : (n.op == 16) = false := by simpa using h16
              have HGR : Hid (grB ll n = false) := by unfold Hid grB; rw [decide_eq_false_iff_not]; exact fun h => h16 h.1
              by_cases h1 : n.op = 1
              · have e1 : (n.op == 1) = true := by simpa using h1
                have e2 : (n.op == 2) = false := by rw [h1]; rfl
                by_cases hno : n.no < 0
                · have HLF : Hid (leafB vl n = true) := by unfold Hid leafB; rw [decide_eq_true_iff]; exact ⟨h1, .inl hno⟩
                  have HR : Hid (nodeE ll vl V n k = 7) := by unfold Hid nodeE; simp [es, HE0.out, HE1.out, HN1.out, HN2.out, HGR.out, HLF.out]
                  go_wp2_with fail
                  go_ret
                  rw [HR.out]
                  exact ⟨rfl, HBW.out⟩
                · by_cases hll : (vl : Int) ≤ n.no
                  · have HLF : Hid (leafB vl n = true) := by unfold Hid leafB; rw [decide_eq_true_iff]; exact ⟨h1, .inr hll⟩
                    have HR : Hid (nodeE ll vl V n k = 7) := by unfold Hid nodeE; simp [es, HE0.out, HE1.out, HN1.out, HN2.out, HGR.out, HLF.out]
                    go_wp2_with fail
                    go_ret
                    rw [HR.out]
                    exact ⟨rfl, HBW.out⟩
                  · have HLF : Hid (leafB vl n = false) := by unfold Hid leafB; rw [decide_eq_false_iff_not]; exact fun h => h.2.elim hno hll
                    obtain ⟨i, hi⟩ : ∃ i : Nat, n.no = i := ⟨n.no.toNat, by omega⟩
                    have hiv : i < vl := by omega
                    obtain ⟨vb, voff, hva, c, mm, d, hvc, hI, hmm⟩ := HV.out.2.2 i hiv
                    have hvc1 := cell_later HBW.out hvc
                    have HI1 := hide (hI.later HBW.out)
                    obtain ⟨r, hr⟩ : ∃ r, shB (V.getD i []) = r := ⟨_, rfl⟩
                    have C33 : Hid (Calls Try.prog 33 #[.slice c mm d] W1 fun e w2 => e = .returned (.bool r) ∧ Below W1.heap.size W1 w2) := hide (shapemay_ref c mm d _ W1 HI1.out hmm r hr)
                    have HSH : Hid (shapeB V n = !r) := by unfold Hid shapeB; rw [if_pos h1, hi, Int.toNat_natCast, hr]
                    clear hr hI hvc hmm
                    rw [hi] at y3 hno hll
                    subst hva
                    cases r with
                    | false =>
                      have HR : Hid (nodeE ll vl V n k = 2) := by unfold Hid nodeE; simp [es, HE0.out, HE1.out, HN1.out, HN2.out, HGR.out, HLF.out, HSH.out]
                      go_wp2_with (go_at_call 33; (with_reducible refine C33.out.mono ?_); rintro e w2 ⟨rfl, hb2⟩; have HB2 := hide hb2; have x0 := cell_later hb2 y0; have x6 := cell_later hb2 y6; clear hb2)
                      go_ret
                      rw [HR.out]
                      exact ⟨rfl, HBW.out.trans (HB2.out.mono HBW.out.size)⟩
                    | true =>
                      cases hmy : maysB n.hs with
                      | true =>
                        have HR : Hid (nodeE ll vl V n k = 0) := by unfold Hid nodeE; simp [es, HE0.out, HE1.out, HN1.out, HN2.out, HGR.out, HLF.out, HSH.out, hmy]
                        rw [hmy] at C35
                        clear hmy
                        go_wp2_with (first | (go_at_call 33; (with_reducible refine C33.out.mono ?_); rintro e w2 ⟨rfl, hb2⟩; have HB2 := hide hb2; have x0 := cell_later hb2 y0; have x6 := cell_later hb2 y6; clear hb2) | (go_at_call 35; (with_reducible refine (C35.out _ (HBW.out.trans (HB2.out.mono HBW.out.size))).mono ?_); rintro e w3 ⟨rfl, hb3⟩; have HB3 := hide hb3; clear hb3))
                        go_ret
                        rw [HR.out]
                        exact ⟨rfl, HB3.out⟩
                      | false =>
                        have HR : Hid (nodeE ll vl V n k = 8) := by unfold Hid nodeE; simp [es, HE0.out, HE1.out, HN1.out, HN2.out, HGR.out, HLF.out, HSH.out, hmy]
                        rw [hmy] at C35
                        clear hmy
                        go_wp2_with (first | (go_at_call 33; (with_reducible refine C33.out.mono ?_); rintro e w2 ⟨rfl, hb2⟩; have HB2 := hide hb2; have x0 := cell_later hb2 y0; have x6 := cell_later hb2 y6; clear hb2) | (go_at_call 35; (with_reducible refine (C35.out _ (HBW.out.trans (HB2.out.mono HBW.out.size))).mono ?_); rintro e w3 ⟨rfl, hb3⟩; have HB3 := hide hb3; clear hb3))
                        go_ret
                        rw [HR.out]
                        exact ⟨rfl, HB3.out⟩
              · have e1 : (n.op == 1) = false := by simpa using h1
                have HLF : Hid (leafB vl n = false) := by unfold Hid leafB; rw [decide_eq_false_iff_not]; exact fun h => h1 h.1
                by_cases h2 : n.op = 2
                · have e2 : (n.op == 2) = true := by simpa using h2
                  have HOK1 := hide (HOK.out.later HBW.out)
                  obtain ⟨r, hr⟩ : ∃ r, mayB n.S n.dl = r := ⟨_, rfl⟩
                  have C34 : Hid (Calls Try.prog 34 #[.agg #[.slice n.sa n.sl n.sc, .slice n.da n.dl n.dc]] W1 fun e w2 => e = .returned (.bool r) ∧ Below W1.heap.size W1 w2) := by
                    have C := may_ref n.sa n.sl n.sc n.da n.dl n.dc n.S W1 HOK1.out.2.1 HS.out.2.1
                    rw [hr] at C
                    exact C
                  have HSH : Hid (shapeB V n = !r) := by unfold Hid shapeB; rw [if_neg h1, if_pos h2, hr]
                  clear hr
                  cases r with
                  | false =>
                    have HR : Hid (nodeE ll vl V n k = 2) := by unfold Hid nodeE; simp [es, HE0.out, HE1.out, HN1.out, HN2.out, HGR.out, HLF.out, HSH.out]
                    go_wp2_with (go_at_call 34; (with_reducible refine C34.out.mono ?_); rintro e w2 ⟨rfl, hb2⟩; have HB2 := hide hb2; have x0 := cell_later hb2 y0; have x6 := cell_later hb2 y6; clear hb2)
                    go_ret
                    rw [HR.out]
                    exact ⟨rfl, HBW.out.trans (HB2.out.mono HBW.out.size)⟩
                  | true =>
                    cases hmy : maysB n.hs with
                    | true =>
                      have HR : Hid (nodeE ll vl V n k = 0) := by unfold Hid nodeE; simp [es, HE0.out, HE1.out, HN1.out, HN2.out, HGR.out, HLF.out, HSH.out, hmy]
                      rw [hmy] at C35
                      clear hmy
                      go_wp2_with (first | (go_at_call 34; (with_reducible refine C34.out.mono ?_); rintro e w2 ⟨rfl, hb2⟩; have HB2 := hide hb2; have x0 := cell_later hb2 y0; have x6 := cell_later hb2 y6; clear hb2) | (go_at_call 35; (with_reducible refine (C35.out _ (HBW.out.trans (HB2.out.mono HBW.out.size))).mono ?_); rintro e w3 ⟨rfl, hb3⟩; have HB3 := hide hb3; clear hb3))
                      go_ret
                      rw [HR.out]
                      exact ⟨rfl, HB3.out⟩
                    | false =>
                      have HR : Hid (nodeE ll vl V n k = 8) := by unfold Hid nodeE; simp [es, HE0.out, HE1.out, HN1.out, HN2.out, HGR.out, HLF.out, HSH.out, hmy]
                      rw [hmy] at C35
                      clear hmy
                      go_wp2_with (first | (go_at_call 34; (with_reducible refine C34.out.mono ?_); rintro e w2 ⟨rfl, hb2⟩; have HB2 := hide hb2; have x0 := cell_later hb2 y0; have x6 := cell_later hb2 y6; clear hb2) | (go_at_call 35; (with_reducible refine (C35.out _ (HBW.out.trans (HB2.out.mono HBW.out.size))).mono ?_); rintro e w3 ⟨rfl, hb3⟩; have HB3 := hide hb3; clear hb3))
                      go_ret
                      rw [HR.out]
                      exact ⟨rfl, HB3.out⟩
                · have e2 : (n.op == 2) = false := by simpa using h2
                  have HSH : Hid (shapeB V n = false) := by unfold Hid shapeB; rw [if_neg h1, if_neg h2]
                  cases hmy : maysB n.hs with
                  | true =>
                    have HR : Hid (nodeE ll vl V n k = 0) := by unfold Hid nodeE; simp [es, HE0.out, HE1.out, HN1.out, HN2.out, HGR.out, HLF.out, HSH.out, hmy]
                    rw [hmy] at C35
                    clear hmy
                    go_wp2_with (go_at_call 35; (with_reducible refine (C35.out _ HBW.out).mono ?_); rintro e w3 ⟨rfl, hb3⟩; have HB3 := hide hb3; clear hb3)
                    go_ret
                    rw [HR.out]
                    exact ⟨rfl, HB3.out⟩
                  | false =>
                    have HR : Hid (nodeE ll vl V n k = 8) := by unfold Hid nodeE; simp [es, HE0.out, HE1.out, HN1.out, HN2.out, HGR.out, HLF.out, HSH.out, hmy]
                    rw [hmy] at C35
                    clear hmy
                    go_wp2_with (go_at_call 35; (with_reducible refine (C35.out _ HBW.out).mono ?_); rintro e w3 ⟨rfl, hb3⟩; have HB3 := hide hb3; clear hb3)
                    go_ret
                    rw [HR.out]
                    exact ⟨rfl, HB3.out⟩
end Go.Proofs.Ytedpppkknmeheaa

