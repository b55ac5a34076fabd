/-
  Package graph's sum, with the numbers that it keeps in a map. No condition.
-/
import Derived.Test.YtedpppkknmeheaaG9
import Derived.Maps.OwnSet
import Derived.WalkLawsBesides
namespace Go.Proofs.Ytedpppkknmeheaa
open Go.RowKit Go.Maps

theorem klaw : Keyed Try.prog 3 := int_keyed Try.underlying3
theorem zeroI (w : World) : (zeroValue 3).run Try.prog w = .ok (.int .i64 0) w := by kernel_rfl
def Own (w : World) (B n : Nat) (D : DataW Unit) : Prop := w.ownsMap Try.prog 3 (plainElem Try.prog 3) B n D
/-- What the map tells is right. -/
def Kn (gs : List Gr) (D : DataW Unit) : Prop := ∀ x : Nat, Maps.has D (.int .i64 x) = true → D.atKey (.int .i64 x) (.lit (.int .i64 0)) = .lit (.int .i64 (Wk.S (ln gs) (cs gs) x))
/-- So many of the graphs are in the map. -/
def cnt (ll : Nat) (D : DataW Unit) : Nat := ((List.range ll).filter (fun x : Nat => Maps.has D (.int .i64 x))).length
theorem cnt_le (ll : Nat) (D : DataW Unit) : cnt ll D ≤ ll := by
  have := List.length_filter_le (fun x : Nat => Maps.has D (.int .i64 x)) (List.range ll)
  rwa [List.length_range] at this
theorem key_ne {x y : Nat} (h : x ≠ y) : (Lit.int .i64 x) ≠ (Lit.int .i64 y) := by
  intro e
  injection e with _ e
  exact h (by omega)
theorem isk (x : Nat) : WideAt.IsKeyLit (.int .i64 (x : Int)) := trivial
theorem has_put {D : DataW Unit} (hD : IsMap D) (g : Nat) (d : DataW Unit) (x : Nat) : Maps.has (D.put (.int .i64 g) d) (.int .i64 x) = if x = g then true else Maps.has D (.int .i64 x) := by
  by_cases e : x = g
  · subst e; rw [if_pos rfl]; exact has_put_same hD (isk _) d
  · rw [if_neg e]; exact has_put_other (key_ne e) d
theorem cnt_put {D : DataW Unit} (hD : IsMap D) {ll g : Nat} (hg : g < ll) (h : Maps.has D (.int .i64 g) = false) (d : DataW Unit) : cnt ll (D.put (.int .i64 g) d) = cnt ll D + 1 := by
  unfold cnt
  have e : (List.range ll).filter (fun x : Nat => Maps.has (D.put (.int .i64 g) d) (.int .i64 x)) = (List.range ll).filter (fun x : Nat => if x = g then true else Maps.has D (.int .i64 x)) :=
    List.filter_congr fun x _ => has_put hD g d x
  rw [e]
  have h2 := unseen_set (ll := ll) (s := fun x => !(if x = g then true else Maps.has D (.int .i64 x))) (k := g) hg (by simp)
  unfold unseen at h2
  clear e
  induction ll with
  | zero => omega
  | succ n ih =>
    rw [List.range_succ, List.filter_append, List.filter_append, List.length_append, List.length_append]
    by_cases e : g = n
    · subst e
      have : (List.range g).filter (fun x : Nat => if x = g then true else Maps.has D (.int .i64 x)) = (List.range g).filter (fun x : Nat => Maps.has D (.int .i64 x)) := by
        refine List.filter_congr fun i hi => ?_
        rw [List.mem_range] at hi
        rw [if_neg (by omega)]
      rw [this]
      simp [h]
    · have hgn : g < n := by omega
      have := ih hgn (by
        have := unseen_set (ll := n) (s := fun x => !(if x = g then true else Maps.has D (.int .i64 x))) (k := g) hgn (by simp)
        exact this)
      have e2 : ([n].filter (fun x : Nat => if x = g then true else Maps.has D (.int .i64 x))) = [n].filter (fun x : Nat => Maps.has D (.int .i64 x)) := by
        refine List.filter_congr fun i hi => ?_
        rw [List.mem_singleton] at hi
        rw [if_neg (by omega)]
      rw [e2]
      omega
theorem Kn.put {gs : List Gr} {D : DataW Unit} (hD : IsMap D) (h : Kn gs D) (g : Nat) : Kn gs (D.put (.int .i64 g) (.lit (.int .i64 (Wk.S (ln gs) (cs gs) g)))) := by
  intro x hx
  by_cases e : x = g
  · subst e; exact atKey_put_same hD (isk _) _ _
  · rw [has_put hD, if_neg e] at hx
    rw [atKey_put_other (key_ne e)]
    exact h x hx
theorem Kn.empty (gs : List Gr) : Kn gs (.map []) := fun x h => by simp [Maps.has] at h
theorem cnt_empty (ll : Nat) : cnt ll (.map []) = 0 := by unfold cnt; simp [Maps.has]

/-! ### no way back -/
theorem Lv_join {CS : Nat → List Int} {g x : Nat} : ∀ {b a y}, Wk.Lv CS g a x → Wk.Lv CS x b y → Wk.Lv CS g (a + b) y
  | 0, a, y, h, e => by cases e; exact h
  | b + 1, a, y, h, ⟨z, hz, hy⟩ => ⟨z, Lv_join h hz, hy⟩
theorem no_back {CS : Nat → List Int} {g c k : Nat} (hn : Wk.NP CS k g) (hc : (c : Int) ∈ CS g) : ¬ Wk.Rc CS c g := by
  rintro ⟨j, hj⟩
  have h1 : Wk.Lv CS g (j + 1) g := hj.head hc
  have h2 : ∀ m, Wk.Lv CS g (m * (j + 1)) g := by
    intro m
    induction m with
    | zero => rw [Nat.zero_mul]; exact rfl
    | succ m ih => rw [Nat.succ_mul]; exact Lv_join ih h1
  exact hn.mono (Nat.le_mul_of_pos_right k (Nat.succ_pos j)) g (h2 k)

/-- What sum tells, and what it leaves. -/
def Summed (ll : Nat) (gs : List Gr) (g B : Nat) (D : DataW Unit) (w : World) (e : Ending) (w' : World) : Prop :=
  ∃ D' : DataW Unit, e = .returned (.int .i64 (Wk.S (ln gs) (cs gs) g)) ∧ Own w' B (cnt ll D') D' ∧ Kn gs D' ∧ (∀ x : Nat, Maps.has D' (.int .i64 x) = true → Maps.has D (.int .i64 x) = true ∨ Wk.Rc (cs gs) g x) ∧ w.grownBy w' (some B)
theorem sum_snoc {gs : List Gr} {xs : List Nd} {k : Nat} (h : k < xs.length) {n : Nd} (hn : xs.getD k default = n) {L a : Nat} (ha : a = min (L + ((csl (xs.take k)).map fun c => Wk.S (ln gs) (cs gs) c.toNat).sum) 4097) :
    (n.op = 16 → min (a + Wk.S (ln gs) (cs gs) n.no.toNat) 4097 = min (L + ((csl (xs.take (k + 1))).map fun c => Wk.S (ln gs) (cs gs) c.toNat).sum) 4097) ∧ (n.op ≠ 16 → a = min (L + ((csl (xs.take (k + 1))).map fun c => Wk.S (ln gs) (cs gs) c.toNat).sum) 4097) := by
  rw [csl_snoc xs k h n hn]
  constructor
  · intro e
    rw [if_pos e, List.map_append, List.sum_append]
    simp
    omega
  · intro e
    rw [if_neg e, List.append_nil]
    exact ha

set_option maxRecDepth 100000 in
set_option maxHeartbeats 16000000 in
theorem sum_any (la : Option Addr) (ll lc : Nat) (gs : List Gr) (W0 : World) (hG : Gc W0 la ll lc gs) (hF : Fits ll gs) : ∀ (k g : Nat) (D : DataW Unit) (w : World), k ≤ 9 → Wk.NP (cs gs) k g → Wk.Closed ll (cs gs) g → g < ll → Below W0.heap.size W0 w → Own w W0.heap.size (cnt ll D) D → Kn gs D →
    Calls Try.prog 23 #[.slice la ll lc, .int .i64 g, .map (some W0.heap.size)] w (Summed ll gs g W0.heap.size D w) := by
  intro k
  induction k with
  | zero => intro g D w _ hn; exact absurd hn Wk.NP.zero
  | succ k ih =>
    intro g D w hk9 hnp hcl hgl hbel hown hkn
    have hwf : (Lit.int .i64 (g : Int)).wf = true := WalkArith.wf_i64 (by have := hF.1; omega)
    have hkey : keyOf Try.prog 3 (.int .i64 (g : Int)) = some (.int .i64 (g : Int)) := keyOf_int_mk Try.underlying3 hwf
    have HKEY := hide hkey
    have HOWN := hide hown
    have HKN := hide hkn
    have HB := hide hbel
    have HIH := hide ih
    have HG := hide hG
    have HF := hide hF
    have HNP := hide hnp
    have HCL := hide hcl
    have hll := hF.1
    obtain ⟨b0, off0, rfl, hc0, hN⟩ := hG.2.2 g hgl
    have hr := cell_later hbel hc0
    have hx1 : (gs.getD g default).len ≤ 1048576 := hF.2 g hgl
    have HLN : Hid (ln gs g = (gs.getD g default).len) := rfl
    have HCS : Hid (cs gs g = csl (gs.getD g default).l) := rfl
    obtain ⟨x, hx⟩ : ∃ x, gs.getD g default = x := ⟨_, rfl⟩
    rw [hx] at hr hN HLN HCS hx1
    obtain ⟨xa, xl, xc, xs⟩ := x
    simp only at hr hN HLN HCS hx1
    have HND := hide hN
    have hbl := lt_of_cell hc0
    clear hown hkn hbel ih hG hF hnp hcl hkey hwf hc0 hx hN
    cases hh : Maps.has D (.int .i64 (g : Int)) with
    | true =>
      have HAT := hide (HKN.out g hh)
      go_enter Try.func23, Try.ntmps23
      go_wp2_with (at_lookup; refine wpList_lookup_own_ok_int _ rfl _ _ 67 rfl 3 3 .i64 klaw Try.underlying67 Try.underlying3 (zeroI _) _ _ D rfl HOWN.out _ _ rfl HKEY.out ?_; intro c hat hwc)
      go_ret
      have e1 : Wk.S (ln gs) (cs gs) g = c := by
        have h := HAT.out.symm.trans hat
        injection h with h
        injection h
      exact ⟨D, by rw [e1]; rfl, HOWN.out, HKN.out, fun x h => .inl h, ⟨rfl, rfl, rfl, Nat.le_refl _, fun _ _ _ => rfl⟩⟩
    | false =>
      have HH := hide hh
      have HS0 : Hid (min xl 4097 = min (xl + ((csl (xs.take 0)).map fun c => Wk.S (ln gs) (cs gs) c.toNat).sum) 4097) := by unfold Hid; simp [csl]
      go_enter Try.func23, Try.ntmps23
      go_wp2_with (at_lookup; refine wpList_lookup_own_ok_int _ rfl _ _ 67 rfl 3 3 .i64 klaw Try.underlying67 Try.underlying3 (zeroI _) _ _ D rfl HOWN.out _ _ rfl HKEY.out ?_; intro c hat hwc; clear hat hwc)
      have hsz := HB.out.size
      have hbw := HOWN.out.lt
      clear hh
      go_loopw [9, 33] (fun a i wr => ∃ (j m : Nat) (D1 : DataW Unit), j ≤ xl ∧ i = .int .i64 j ∧ a = .int .i64 m ∧ m ≤ 4097 ∧ Hid (m = min (xl + ((csl (xs.take j)).map fun c => Wk.S (ln gs) (cs gs) c.toNat).sum) 4097) ∧ Hid (Own wr W0.heap.size (cnt ll D1) D1) ∧ Hid (Kn gs D1) ∧ Hid (∀ x : Nat, Maps.has D1 (.int .i64 x) = true → Maps.has D (.int .i64 x) = true ∨ ∃ c : Nat, (c : Int) ∈ cs gs g ∧ Wk.Rc (cs gs) c x) ∧ Hid (w.grownBy wr (some W0.heap.size))) (fun _ i _ => xl - (intOf i).toNat)
      case atStart => exact ⟨0, min xl 4097, D, Nat.zero_le _, rfl, by rw [show ((min xl 4097 : Nat) : Int) = min (xl : Int) 4097 by omega], Nat.min_le_right _ _, HS0.out, HOWN.out, HKN.out, fun x h => .inl h, ⟨rfl, rfl, rfl, Nat.le_refl _, fun _ _ _ => rfl⟩⟩
      case round =>
        obtain ⟨j, m, D1, hj, rfl, rfl, hm, HM, HO, HK, HR, HGR⟩ := hrel
        have hbel : Below W0.heap.size W0 wr := HB.out.grown HGR.out hsz (fun k hk => by cases hk; exact Nat.le_refl _)
        by_cases hlt : j < xl
        · obtain ⟨b2, off2, rfl, ⟨c0, c1, c2, c3, c4, c5, c6⟩⟩ := HND.out.2.2 j hlt
          obtain ⟨n, hn⟩ : ∃ n, xs.getD j default = n := ⟨_, rfl⟩
          have HSN := hide (sum_snoc (gs := gs) (xs := xs) (k := j) (by rw [HND.out.1]; exact hlt) hn HM.out)
          have HMEM : Hid (n.op = 16 → n.no ∈ cs gs g) := by
            intro h
            have := mem_csl (l := xs) (k := j) (by rw [HND.out.1]; exact hlt) (by rw [hn]; exact h)
            rw [hn] at this
            rw [HCS.out]; exact this
          rw [hn] at c0 c1 c2 c3 c4 c5 c6
          have d0 := cell_later hbel c0
          have d1 := cell_later hbel c1
          have d2 := cell_later hbel c2
          have d3 := cell_later hbel c3
          have d4 := cell_later hbel c4
          have d5 := cell_later hbel c5
          have d6 := cell_later hbel c6
          have HBL := hide hbel
          have hsz2 := hbel.size
          clear hn c0 c1 c2 c3 c4 c5 c6 hbel
          obtain ⟨op, ia, il, ic, ins, ta, tl, tc, no, qa, ql, qc, qs, da, dl, dc, ha, hl, hc, hs⟩ := n
          simp only at d0 d1 d2 d3 d4 d5 d6 HSN HMEM
          have HBA := hide (HBL.out.alloc hsz2 (.cells #[.int .i64 op, .slice ia il ic, .slice ta tl tc, .int .i64 no, .slice qa ql qc, .slice da dl dc, .slice ha hl hc] 41))
          have HOA : Hid (Own (wr.alloc (.cells #[.int .i64 op, .slice ia il ic, .slice ta tl tc, .int .i64 no, .slice qa ql qc, .slice da dl dc, .slice ha hl hc] 41)) W0.heap.size (cnt ll D1) D1) := HO.out.alloc _
          have HGA : Hid (w.grownBy (wr.alloc (.cells #[.int .i64 op, .slice ia il ic, .slice ta tl tc, .int .i64 no, .slice qa ql qc, .slice da dl dc, .slice ha hl hc] 41)) (some W0.heap.size)) := HGR.out.andThen (World.grownBy_alloc wr _ (some W0.heap.size)) (fun _ h => .inr h)
          by_cases h16 : op = 16
          · subst h16
            have hmem := HMEM.out rfl
            have hno := HCL.out.here no hmem
            obtain ⟨c, rfl⟩ : ∃ c : Nat, no = c := ⟨no.toNat, by omega⟩
            obtain ⟨s, hs⟩ : ∃ s, Wk.S (ln gs) (cs gs) c = s := ⟨_, rfl⟩
            have hs1 : s ≤ 4097 := by rw [← hs]; exact Wk.S_le _
            have HNX : Hid (min (m + s) 4097 = min (xl + ((csl (xs.take (j + 1))).map fun c => Wk.S (ln gs) (cs gs) c.toNat).sum) 4097) := by
              have h := HSN.out.1 rfl
              rw [Int.toNat_natCast, hs] at h
              exact h
            have C : Hid (∀ w', Below W0.heap.size W0 w' → Own w' W0.heap.size (cnt ll D1) D1 → Calls Try.prog 23 #[.slice (some ⟨b0, off0, none⟩) ll lc, .int .i64 c, .map (some W0.heap.size)] w' fun e w2 => ∃ D' : DataW Unit, e = .returned (.int .i64 s) ∧ Own w2 W0.heap.size (cnt ll D') D' ∧ Kn gs D' ∧ (∀ x : Nat, Maps.has D' (.int .i64 x) = true → Maps.has D1 (.int .i64 x) = true ∨ Wk.Rc (cs gs) c x) ∧ w'.grownBy w2 (some W0.heap.size)) :=
              hide (fun w' hb ho => (HIH.out c D1 w' (by omega) (HNP.out.down hmem) (HCL.out.down hmem) (by omega) hb ho HK.out).mono fun e w2 ⟨D', h1, h2⟩ => ⟨D', by rw [h1, hs], h2⟩)
            have HMM := hide hmem
            clear HSN HMEM hmem hno hs HIH
            go_wp2_with (go_at_call 23; (with_reducible refine (C.out _ HBA.out HOA.out).mono ?_); rintro e w2 ⟨D2, rfl, ho2, hk2, hs2, hg2⟩; have HO2 := hide ho2; have HK2 := hide hk2; have HS2 := hide hs2; have HG2 := hide (HGA.out.andThen hg2 (fun _ h => .inr h)); clear ho2 hk2 hs2 hg2)
            go_roundw
            case rel =>
              refine ⟨j + 1, min (m + s) 4097, D2, by omega, by go_num, by rw [show ((min (m + s) 4097 : Nat) : Int) = min ((m : Int) + s) 4097 by omega], Nat.min_le_right _ _, HNX.out, HO2.out, HK2.out, fun x hx => ?_, HG2.out⟩
              rcases HS2.out x hx with h | h
              · exact HR.out x h
              · exact .inr ⟨c, HMM.out, h⟩
            case measure => simp [intOf]; omega
          · have e16 : (op == 16) = false := by rw [beq_eq_false_iff_ne]; exact h16
            have HNX := hide (HSN.out.2 h16)
            clear HSN HMEM h16
            go_wp2_with fail
            go_roundw
            case rel => exact ⟨j + 1, m, D1, by omega, by go_num, rfl, hm, HNX.out, HOA.out, HK.out, HR.out, HGA.out⟩
            case measure => simp [intOf]; omega
        · obtain rfl : xl = j := by omega
          have HMS : Hid (m = Wk.S (ln gs) (cs gs) g) := by
            unfold Hid
            rw [Wk.S_step HCL.out HNP.out hk9, HLN.out, HCS.out]
            have h := HM.out
            rwa [← HND.out.1, List.take_length, HND.out.1] at h
          have HNO : Hid (Maps.has D1 (.int .i64 (g : Int)) = false) := by
            unfold Hid
            cases hd : Maps.has D1 (.int .i64 (g : Int)) with
            | false => rfl
            | true =>
              rcases HR.out g hd with h | ⟨c, hc, hr⟩
              · rw [HH.out] at h; cases h
              · exact absurd hr (no_back HNP.out hc)
          have HIM := hide (HO.out.isMap)
          have hcn : cnt ll D1 < maxLen := by have := cnt_le ll D1; unfold maxLen; omega
          have hcn' := hide hcn
          have HPE := hide (plainElem_int (H := Unit) Try.underlying3 (show (Lit.int .i64 (m : Int)).wf = true from WalkArith.wf_i64 (by omega)))
          clear hbel hcn
          go_wp2_with (at_mapUpdate; refine wpList_mapUpdate_own _ rfl _ _ _ 67 rfl 3 3 klaw Try.underlying67 _ W0.heap.size _ _ rfl HO.out hcn'.out _ _ _ rfl rfl HKEY.out _ [] HPE.out ?_; intro w1 hown1 hgrow1)
          have HO1 : Hid (Own w1 W0.heap.size (cnt ll (D1.put (.int .i64 (g : Int)) (.lit (.int .i64 (m : Int))))) (D1.put (.int .i64 (g : Int)) (.lit (.int .i64 (m : Int))))) := by
            unfold Hid
            rw [cnt_put HIM.out hgl HNO.out]; exact hown1
          have HG1 := hide (HGR.out.andThen hgrow1 (fun _ h => .inr h))
          clear hown1 hgrow1
          go_wp2_with fail
          go_ret
          refine ⟨D1.put (.int .i64 (g : Int)) (.lit (.int .i64 (m : Int))), by rw [← HMS.out]; rfl, HO1.out, ?_, fun x hx => ?_, HG1.out⟩
          · rw [HMS.out]; exact HK.out.put HIM.out g
          · rw [has_put HIM.out] at hx
            by_cases e : x = g
            · subst e; exact .inr (Wk.Rc.refl x)
            · rw [if_neg e] at hx
              rcases HR.out x hx with h | ⟨c, hc, hr⟩
              · exact .inl h
              · obtain ⟨q, hq⟩ := hr
                exact .inr ⟨q + 1, hq.head hc⟩
end Go.Proofs.Ytedpppkknmeheaa
