/-
  GraphWorks: the walk. For every input the law returns true. No condition.
-/
import Derived.Test.YtedpppkknmeheaaGL
import Derived.Test.YtedpppkknmeheaaReadR
namespace Go.Proofs.Ytedpppkknmeheaa.GraphWorks
open Go.RowKit

/-- The graphs with one of them put anew. -/
def put (gs : List Gr) (p : Nat) (a : Option Addr) (n c : Nat) (l : List Nd) : List Gr := gs.set p ⟨a, n, c, l⟩
theorem gsv_put (gs : List Gr) (p : Nat) (a : Option Addr) (n c : Nat) (l : List Nd) : gsv (put gs p a n c l) = (gsv gs).set p (.slice a n c) := by
  unfold gsv put
  rw [List.map_set]
theorem gsv_again (gs : List Gr) (p : Nat) (a : Option Addr) (n c : Nat) (l : List Nd) (a' : Option Addr) (n' c' : Nat) (l' : List Nd) : (gsv (put gs p a n c l)).set p (.slice a' n' c') = gsv (put gs p a' n' c' l') := by
  rw [gsv_put, gsv_put, List.set_set]
theorem put_at {gs : List Gr} {p : Nat} {a : Option Addr} {n c : Nat} {l : List Nd} (h : p < gs.length) (i : Nat) : (put gs p a n c l).getD i default = if i = p then ⟨a, n, c, l⟩ else gs.getD i default := by
  unfold put
  rw [List.getD_eq_getElem?_getD, List.getElem?_set]
  by_cases e : p = i
  · subst e; simp [h]
  · rw [if_neg e, if_neg (fun h => e h.symm), List.getD_eq_getElem?_getD]
theorem csl_leaves (xs : List Nd) : ∀ j, csl (xs ++ List.replicate j ndL) = csl xs
  | 0 => by simp
  | j + 1 => by
    have := csl_leaves xs j
    unfold csl at this ⊢
    rw [List.filter_append, List.map_append] at this ⊢
    rw [List.replicate_succ, List.filter_cons, if_neg (by simp [ndL])]
    exact this
theorem cs_put {gs : List Gr} {p : Nat} {a : Option Addr} {n c j : Nat} (h : p < gs.length) : cs (put gs p a n c ((gs.getD p default).l ++ List.replicate j ndL)) = cs gs := by
  funext i
  unfold cs
  rw [put_at h]
  by_cases e : i = p
  · subst e; rw [if_pos rfl]; exact csl_leaves _ _
  · rw [if_neg e]
theorem ln_put {gs : List Gr} {p : Nat} {a : Option Addr} {c j : Nat} {l : List Nd} (h : p < gs.length) (x : Nat) : ln (put gs p a ((gs.getD p default).len + j) c l) x = ln gs x + if x = p then j else 0 := by
  unfold ln
  rw [put_at h]
  by_cases e : x = p
  · subst e; rw [if_pos rfl, if_pos rfl]
  · rw [if_neg e, if_neg e]; rfl
theorem gc_own {w : World} {base : Nat} {e : TypeId} {v : Value} {n : Nat} {gs : List Gr} (h : w.ownsRow base e 1 v n (gsv gs)) (hN : ∀ i, i < n → Ndw w (gs.getD i default).a (gs.getD i default).len (gs.getD i default).cap (gs.getD i default).l) : ∃ a c, v = .slice a n c ∧ Gc w a n c gs := by
  have hl : gs.length = n := by simpa [gsv] using h.1
  rcases h.2 with ⟨rfl, rfl⟩ | ⟨g, cap, cur, rfl, _, hg, hn, _, hs, ht⟩
  · exact ⟨none, 0, rfl, hl, Nat.le_refl _, fun i hi => by omega⟩
  · refine ⟨_, cap, rfl, hl, hn, fun i hi => ⟨g, 0, rfl, ?_, hN i hi⟩⟩
    rw [Nat.zero_add]
    have hc := h.cells (g := g) rfl i (.slice (gs.getD i default).a (gs.getD i default).len (gs.getD i default).cap) (by simp [gsv, List.getD, show i < gs.length by omega])
    rwa [Go.WideShapes.add_plain, Nat.zero_add] at hc
theorem gsv_put_at {gs : List Gr} {p : Nat} (h : p < gs.length) (a : Option Addr) (n c : Nat) (l : List Nd) : (gsv (put gs p a n c l))[p]? = some (.slice a n c) := by
  rw [gsv_put, List.getElem?_set]
  simp [gsv, h]
theorem src_row (w : World) (cs : Array Value) (t : TypeId) (m c size : Nat) (h : cs.toList.length = m * size) : Src (w.alloc (.cells cs t)) (some ⟨w.heap.size, 0, none⟩) m c size cs.toList := by
  refine ⟨h, .inr ⟨_, rfl, fun j u hj => ?_⟩⟩
  rw [Go.WideShapes.add_plain, Nat.zero_add, World.cell?_alloc_new, ← Array.getElem?_toList]
  exact hj
theorem ndv_leaf (xs : List Nd) (j : Nat) : ndv (xs ++ List.replicate j ndL) ++ ndc ndL = ndv (xs ++ List.replicate (j + 1) ndL) := by
  rw [List.replicate_succ', ← List.append_assoc, ndv_append (xs ++ List.replicate j ndL)]
  simp [ndv]
theorem set_own {w : World} {base : Nat} {e : TypeId} {size : Nat} {v : Value} {n : Nat} {xs : List Value} (h : w.ownsRow base e size v n xs) {g p : Nat} (hg : g < base) (u : Value) : (w.setCell ⟨g, p, none⟩ u).ownsRow base e size v n xs :=
  h.kept (row := some g) (setCells_grown g [u] p w) (.inr fun e => by have := (h.lt g e).1; omega)
theorem wk_put {ll : Nat} {gs : List Gr} {p : Nat} {a : Option Addr} {c j : Nat} (h : p < gs.length) (hp : p < ll) (hcl : Wk.Closed ll (cs gs) p) (hnp : Wk.NP (cs gs) 9 p) :
    wkR ll (put gs p a ((gs.getD p default).len + j) c ((gs.getD p default).l ++ List.replicate j ndL)) p = if 4096 < Wk.W (ln gs) (cs gs) 9 p + j then (0, 10) else (((Wk.W (ln gs) (cs gs) 9 p + j : Nat) : Int), 0) := by
  rw [wk_mk hp (by rw [cs_put h]; exact hcl) (by rw [cs_put h]; exact hnp), cs_put h, W_plus (fun x => ln_put h x) hcl hnp]

set_option maxRecDepth 100000 in
set_option maxHeartbeats 16000000 in
theorem walk (la : Option Addr) (ll lc : Nat) (gs : List Gr) (g : Int) (more : Int) (W : World) (hG : Grs W la ll lc gs) (hS : Szs gs ll) (hR : Rms gs ll) (hl : ll ≤ 140737488355328) (hn : la = none → lc = 0) (hg : (Lit.int .i64 g).wf = true) (hm : (Lit.int .u8 more).wf = true) :
    Calls Try.prog 8 #[.slice la ll lc, .int .i64 g, .int .u8 more] W fun e w' => e = .returned (.bool true) ∧ Below W.heap.size W w' := by
  obtain ⟨i0, hi, hz0, hz1, hz2⟩ := parts_of graph_info
  obtain ⟨j0, hj, hy0, hy1, hy2⟩ := parts_of node_info
  obtain ⟨M, rfl, hM⟩ : ∃ M : Nat, more = M ∧ M < 256 := by
    have e1 : IntKind.u8.min = 0 := by decide
    have e2 : IntKind.u8.max = 255 := by decide
    simp [Lit.wf, e1, e2] at hm
    exact ⟨more.toNat, by omega, by omega⟩
  have C1 := hide (awake_any W)
  have C2 : Hid (∀ w', Below W.heap.size W w' → Calls Try.prog 10 #[.slice la ll lc] w' fun e w2 => ∃ b, e = .returned (.bool b) ∧ Hid (b = true → Few ll gs) ∧ Below W.heap.size W w2) := hide (fun w' hb => (small_any la ll lc gs w' (hG.later hb) hS hl).mono fun e w2 ⟨b, h1, h3, h2⟩ => ⟨b, h1, h3, hb.trans (h2.mono hb.size)⟩)
  have HG := hide hG
  have HR := hide hR
  have HN := hide hn
  clear hG hS hR hn hm
  go_enter Try.func8, Try.ntmps8
  go_wp2_with (go_at_call 9; (with_reducible refine C1.out.mono ?_); rintro e w1 ⟨rfl, hb1⟩; have HB1 := hide hb1; clear hb1)
  refine (C2.out _ HB1.out).mono ?_
  rintro e w2 ⟨b2, rfl, HFW, hb2⟩
  have HB2 := hide hb2
  clear hb2
  cases b2
  · go_wp2_with fail
    go_ret
    exact ⟨rfl, HB2.out⟩
  have hfew := HFW.out rfl
  have hl40 := hfew.1
  have hfits : Fits ll gs := ⟨by omega, fun i hi => by have := hfew.2 i hi; omega⟩
  by_cases hg0 : g < 0
  · go_wp2_with fail
    go_ret
    exact ⟨rfl, HB2.out⟩
  by_cases hg1 : (ll : Int) ≤ g
  · go_wp2_with fail
    go_ret
    exact ⟨rfl, HB2.out⟩
  obtain ⟨p, rfl⟩ : ∃ p : Nat, g = p := ⟨g.toNat, by omega⟩
  have hp : p < ll := by omega
  have e0 : decide ((p : Int) < 0) = false := by rw [decide_eq_false_iff_not]; exact hg0
  have e1 : decide ((ll : Int) ≤ (p : Int)) = false := by rw [decide_eq_false_iff_not]; exact hg1
  have C3 : Hid (∀ w' q, Below W.heap.size W w' → Calls Try.prog 15 #[.slice la ll lc, .int .i64 q] w' fun e w2 => e = .returned (.tuple #[.int .i64 (wkR ll gs q).1, .int .i64 (wkR ll gs q).2]) ∧ Below W.heap.size W w2) := hide (fun w' q hb => (work_any la ll lc gs q w' (HG.out.c.later hb) hfits).mono fun e w2 h => ⟨h.1, hb.trans (h.2.mono hb.size)⟩)
  have HFEW := hide hfew
  have HFIT := hide hfits
  clear hfew hfits HFW hg0 hg1
  by_cases hbad : (wkR ll gs p).2 = 0
  · obtain ⟨hcl, hnp, hw, hwk⟩ := wk_ok hp hbad
    have C4 : Hid (Calls Try.prog 15 #[.slice la ll lc, .int .i64 p] w2 fun e w2 => e = .returned (.tuple #[.int .i64 (Wk.W (ln gs) (cs gs) 9 p : Nat), .int .i64 0]) ∧ Below W.heap.size W w2) := by
      have := C3.out w2 p HB2.out
      rw [hwk] at this
      exact this
    have HCALL : Hid (∀ c : Nat, (c : Int) ∈ cs gs p → ∀ w', Below W.heap.size W w' → Calls Try.prog 15 #[.slice la ll lc, .int .i64 c] w' fun e w2 => e = .returned (.tuple #[.int .i64 (Wk.W (ln gs) (cs gs) 9 c : Nat), .int .i64 0]) ∧ Below W.heap.size W w2) := hide (fun c hc w' hb => by
      have := C3.out w' c hb
      rw [(wk_call hcl hnp hw hc).1] at this
      exact this)
    have HLE : Hid (∀ c : Nat, (c : Int) ∈ cs gs p → Wk.W (ln gs) (cs gs) 9 c ≤ 4096) := hide (fun c hc => (wk_call hcl hnp hw hc).2)
    have HSUM := hide (W_calls (LN := ln gs) hcl hnp)
    have HCL := hide hcl
    have HNP := hide hnp
    obtain ⟨T, hT⟩ : ∃ T, Wk.W (ln gs) (cs gs) 9 p = T := ⟨_, rfl⟩
    rw [hT] at C4 HSUM hw
    have HT := hide hT
    obtain ⟨b, off, rfl, hc, hN⟩ := HG.out.2.2 p hp
    have HRM := hide (HR.out p hp)
    have hxl := HFEW.out.2 p hp
    have HLN : Hid (ln gs p = (gs.getD p default).len) := rfl
    have HCS : Hid (cs gs p = csl (gs.getD p default).l) := rfl
    obtain ⟨x, hx⟩ : ∃ x, gs.getD p default = x := ⟨_, rfl⟩
    have HX := hide hx
    unfold ln at hxl
    rw [hx] at hc hN HRM hxl HLN HCS
    obtain ⟨xa, xl, xc, xs⟩ := x
    simp only at hc hN HRM hxl HLN HCS
    have HND := hide hN.c
    have HC := hide hc
    clear hwk hbad hcl hnp hT hx hN hc C3
    go_wp2_with (go_at_call 15; (with_reducible refine C4.out.mono ?_); rintro e w3 ⟨rfl, hb3⟩; have HB3 := hide hb3; have hr3 := cell_later hb3 HC.out; clear hb3)
    clear hr3
    go_loopw [9, 10] (fun s i wr => ∃ k N : Nat, k ≤ xl ∧ i = .int .i64 k ∧ s = .int .i64 N ∧ N ≤ xl + k * 4096 ∧ Hid (N = xl + ((csl (xs.take k)).map fun c => Wk.W (ln gs) (cs gs) 9 c.toNat).sum) ∧ Hid (Below W.heap.size W wr)) (fun _ i _ => xl - (intOf i).toNat)
    case atStart => exact ⟨0, xl, Nat.zero_le _, rfl, rfl, by omega, by unfold Hid; simp [csl], HB3.out⟩
    case round =>
      obtain ⟨k, N, hk, rfl, rfl, hN0, HS, HB⟩ := hrel
      have hr := cell_later HB.out HC.out
      by_cases hlt : k < xl
      · obtain ⟨b2, off2, rfl, ⟨c0, c1, c2, c3, c4, c5, c6⟩⟩ := HND.out.2.2 k hlt
        obtain ⟨n, hn⟩ : ∃ n, xs.getD k default = n := ⟨_, rfl⟩
        have HSN := hide (csl_snoc xs k (by rw [HND.out.1]; exact hlt) n hn)
        have HMEM : Hid (n.op = 16 → n.no ∈ cs gs p) := by
          intro h
          have := mem_csl (l := xs) (k := k) (by rw [HND.out.1]; exact hlt) (by rw [hn]; exact h)
          rw [hn] at this
          rw [HCS.out]; exact this
        rw [hn] at c0 c3
        have d0 := cell_later HB.out c0
        have d3 := cell_later HB.out c3
        clear hn c0 c1 c2 c3 c4 c5 c6
        obtain ⟨op, ia, il, ic, ins, ta, tl, tc, no, qa, ql, qc, qs, da, dl, dc, ha, hl', hc, hs⟩ := n
        simp only at d0 d3 HSN HMEM
        by_cases h16 : op = 16
        · subst h16
          have hmem := HMEM.out rfl
          have hno := HCL.out.here no hmem
          obtain ⟨c, rfl⟩ : ∃ c : Nat, no = c := ⟨no.toNat, by omega⟩
          have C := hide (HCALL.out c hmem _ HB.out)
          have hle := HLE.out c hmem
          have HSN1 : Hid (csl (xs.take (k + 1)) = csl (xs.take k) ++ [(c : Int)]) := by have h := HSN.out; rw [if_pos rfl] at h; exact h
          obtain ⟨s, hs⟩ : ∃ s, Wk.W (ln gs) (cs gs) 9 c = s := ⟨_, rfl⟩
          rw [hs] at C hle
          have HSS := hide hs
          clear HSN HMEM hmem hno hs
          go_wp2_with (go_at_call 15; (with_reducible refine C.out.mono ?_); rintro e w4 ⟨rfl, hb4⟩; have HB4 := hide hb4; clear hb4)
          go_roundw
          case rel =>
            refine ⟨k + 1, N + s, by omega, by go_num, by go_num, by omega, ?_, HB4.out⟩
            unfold Hid
            rw [HSN1.out, List.map_append, List.sum_append, HS.out]
            simp [HSS.out]
            omega
          case measure => simp [intOf]; omega
        · have e16 : (op == 16) = false := by rw [beq_eq_false_iff_ne]; exact h16
          have HSN1 : Hid (csl (xs.take (k + 1)) = csl (xs.take k)) := by have h := HSN.out; rw [if_neg h16, List.append_nil] at h; exact h
          clear HSN HMEM h16
          go_wp2_with fail
          go_roundw
          case rel => exact ⟨k + 1, N, by omega, by go_num, rfl, by omega, by unfold Hid; rw [HSN1.out]; exact HS.out, HB.out⟩
          case measure => simp [intOf]; omega
      · obtain rfl : xl = k := by omega
        have HNT : Hid (N = T) := by
          have h := HS.out
          rw [← HND.out.1, List.take_length, HND.out.1] at h
          unfold Hid
          rw [h, HSUM.out, HLN.out, HCS.out]
        obtain ⟨wo, rfl⟩ : ∃ wo : World, wo = wr := ⟨_, rfl⟩
        have hso := HB.out.size
        have HO0 : Hid ((wo.alloc (.cells #[] 34)).ownsRow wo.heap.size 34 1 (.slice (some ⟨wo.heap.size, 0, none⟩) 0 0) 0 (gsv [])) := World.ownsRow_made wo #[] 0 (Nat.le_refl _) (Nat.zero_le _) rfl
        have HBA := hide (HB.out.alloc hso (.cells #[] 34))
        have HS1 := hide (gsrc (HG.out.later HBA.out) HN.out)
        go_wp2_with (at_builtin; refine wpl_append (o := ⟨some 89, _, _, _, _, _⟩) rfl _ _ 22 rfl wo.heap.size 34 i0 (.agg #[.slice none 0 0]) 1 24 Try.underlying22 hi hz0 hz1 hz2 rfl (by decide) (.slice (some ⟨wo.heap.size, 0, none⟩) 0 0) 0 _ rfl HO0.out _ _ _ (gsv gs) rfl HS1.out (gsv_one gs) ?a3 ?a4 ?a5 ?_)
        case a3 => unfold maxLen; omega
        case a4 => omega
        case a5 => simp
        intro v5 w5 hown5 hgrow5
        have HO5 : Hid (w5.ownsRow wo.heap.size 34 1 v5 ll (gsv gs)) := hown5
        have HB5 : Hid (Below W.heap.size W w5) := HBA.out.grown hgrow5 (by simp; omega) (fun k hk => by cases hk; exact hso)
        have hs5 := HB5.out.size
        obtain ⟨gk, ck, rfl, hgk⟩ := own_cases HO5.out (by omega)
        have hgk5 := (HO5.out.lt gk rfl).2
        have HO5a : Hid ((w5.alloc (.cells #[] 41)).ownsRow w5.heap.size 41 7 (.slice (some ⟨w5.heap.size, 0, none⟩) 0 0) 0 (ndv [])) := World.ownsRow_made w5 #[] 0 (Nat.le_refl _) (Nat.zero_le _) rfl
        have HB5a := hide (HB5.out.alloc hs5 (.cells #[] 41))
        have HS2 := hide (nsrc (HND.out.later HB5a.out) HRM.out)
        have hr5 := cell_later HB5a.out HC.out
        clear hown5 hgrow5 hr
        go_wp2_with (at_builtin; refine wpl_append (o := ⟨some 98, _, _, _, _, _⟩) rfl _ _ 32 rfl w5.heap.size 41 j0 (.agg #[.int .i64 0, .slice none 0 0, .slice none 0 0, .int .i64 0, .slice none 0 0, .slice none 0 0, .slice none 0 0]) 7 136 Try.underlying32 hj hy0 hy1 hy2 rfl (by decide) (.slice (some ⟨w5.heap.size, 0, none⟩) 0 0) 0 _ rfl HO5a.out _ _ _ (ndv xs) rfl HS2.out (ndv_one xs) ?b3 ?b4 ?b5 ?_)
        case b3 => unfold maxLen; omega
        case b4 => omega
        case b5 => simp
        intro v6 w6 hown6 hgrow6
        have HO6 : Hid (w6.ownsRow w5.heap.size 41 7 v6 xl (ndv xs)) := hown6
        have HB6 : Hid (Below W.heap.size W w6) := HB5a.out.grown hgrow6 (by simp; omega) (fun k hk => by cases hk; exact hs5)
        have HK6 : Hid (w6.ownsRow wo.heap.size 34 1 (.slice (some ⟨gk, 0, none⟩) ll ck) ll (gsv gs)) := (HO5.out.alloc _).kept hgrow6 (.inr (by simp [Value.ownBlock]; omega))
        have HS6 : Hid (w5.heap.size ≤ w6.heap.size) := by have := hgrow6.size; simp at this; unfold Hid; omega
        obtain ⟨a6, c6, rfl, _⟩ := ndw_own HO6.out
        have hfz := own_free HK6.out p
        have hex := own_cell HK6.out (i := p) (u := .slice (gs.getD p default).a (gs.getD p default).len (gs.getD p default).cap) (by simp [gsv, List.getD, show p < gs.length by rw [HG.out.1]; exact hp])
        clear hown6 hgrow6 hr5
        go_wp2_with fail
        have HPL : Hid (p < gs.length) := by unfold Hid; rw [HG.out.1]; exact hp
        have HN7 : Hid ((w6.setCell ⟨gk, p, none⟩ (.slice a6 xl c6)).ownsRow w5.heap.size 41 7 (.slice a6 (xl + 0) c6) (xl + 0) (ndv (xs ++ List.replicate 0 ndL))) := by
          have h := set_own HO6.out (p := p) hgk5 (.slice a6 xl c6)
          unfold Hid
          simpa using h
        have HK7 : Hid ((w6.setCell ⟨gk, p, none⟩ (.slice a6 xl c6)).ownsRow wo.heap.size 34 1 (.slice (some ⟨gk, 0, none⟩) ll ck) ll (gsv (put gs p a6 (xl + 0) c6 (xs ++ List.replicate 0 ndL)))) := by
          unfold Hid
          rw [gsv_put]
          exact own_set HK6.out hp (.slice a6 xl c6)
        have HB7 : Hid (Below W.heap.size W (w6.setCell ⟨gk, p, none⟩ (.slice a6 xl c6))) := HB6.out.setCell (by show W.heap.size ≤ gk; omega) _
        have HS7 : Hid (w5.heap.size ≤ (w6.setCell ⟨gk, p, none⟩ (.slice a6 xl c6)).heap.size) := by
          unfold Hid
          have h1 := (setCells_grown gk [.slice a6 xl c6] p w6).size
          have h2 : w6.heap.size ≤ (w6.setCell ⟨gk, p, none⟩ (.slice a6 xl c6)).heap.size := h1
          have h3 := HS6.out
          omega
        have hQ : M % 20 < 20 := Nat.mod_lt _ (by omega)
        clear hfz hex HO6 HK6 HB6
        go_loopw [14] (fun i wr => ∃ (j c : Nat) (a : Option Addr), i = .int .i64 j ∧ j ≤ M % 20 ∧ Hid (wr.ownsRow w5.heap.size 41 7 (.slice a (xl + j) c) (xl + j) (ndv (xs ++ List.replicate j ndL))) ∧ Hid (wr.ownsRow wo.heap.size 34 1 (.slice (some ⟨gk, 0, none⟩) ll ck) ll (gsv (put gs p a (xl + j) c (xs ++ List.replicate j ndL)))) ∧ Hid (Below W.heap.size W wr) ∧ Hid (w5.heap.size ≤ wr.heap.size)) (fun i _ => M % 20 - (intOf i).toNat)
        case atStart => exact ⟨0, c6, a6, rfl, Nat.zero_le _, HN7.out, HK7.out, HB7.out, HS7.out⟩
        case round =>
          obtain ⟨j, c, a, rfl, hjQ, HNJ, HKJ, HBJ, HSJ⟩ := hrel
          clear HN7 HK7 HB7 HS7
          have hcell := own_cell HKJ.out (gsv_put_at HPL.out a (xl + j) c _)
          by_cases hlt : j < M % 20
          · have hlti : (j : Int) < (M : Int) % 20 := by omega
            have HSRC := hide (src_row wr #[.int .i64 1, .slice none 0 0, .slice none 0 0, .int .i64 0, .slice none 0 0, .slice none 0 0, .slice none 0 0] 41 1 1 7 rfl)
            have hsj := HSJ.out
            go_wp2_with (at_builtin; refine wpl_append (o := ⟨some 117, _, _, _, _, _⟩) rfl _ _ 32 rfl w5.heap.size 41 j0 (.agg #[.int .i64 0, .slice none 0 0, .slice none 0 0, .int .i64 0, .slice none 0 0, .slice none 0 0, .slice none 0 0]) 7 136 Try.underlying32 hj hy0 hy1 hy2 rfl (by decide) (.slice a (xl + j) c) (xl + j) _ rfl (HNJ.out.alloc _) _ _ _ (ndc ndL) rfl HSRC.out ?b2 ?b3 ?b4 ?b5 ?_)
            case b2 => intro u hu; simp [ndc] at hu; rcases hu with rfl | rfl | rfl | rfl | rfl | rfl | rfl <;> rfl
            case b3 => unfold maxLen; omega
            case b4 => omega
            case b5 => omega
            intro v8 w8 hown8 hgrow8
            rw [ndv_leaf] at hown8
            have HN8 : Hid (w8.ownsRow w5.heap.size 41 7 v8 (xl + (j + 1)) (ndv (xs ++ List.replicate (j + 1) ndL))) := hown8
            have HK8 : Hid (w8.ownsRow wo.heap.size 34 1 (.slice (some ⟨gk, 0, none⟩) ll ck) ll (gsv (put gs p a (xl + j) c (xs ++ List.replicate j ndL)))) := (HKJ.out.alloc _).kept hgrow8 (.inr fun e => by have := (HNJ.out.lt gk e.symm).1; omega)
            have HB8 : Hid (Below W.heap.size W w8) := (HBJ.out.alloc (by omega) _).grown hgrow8 (by simp; omega) (fun k hk => by have := (HNJ.out.lt k hk).1; omega)
            have HS8 : Hid (w5.heap.size ≤ w8.heap.size) := by have := hgrow8.size; simp at this; unfold Hid; omega
            obtain ⟨a8, c8, rfl, _⟩ := ndw_own HN8.out
            have hfz := own_free HK8.out p
            have hex := own_cell HK8.out (gsv_put_at HPL.out a (xl + j) c _)
            have HN9 := hide (set_own HN8.out (p := p) hgk5 (.slice a8 (xl + (j + 1)) c8))
            have HK9 : Hid ((w8.setCell ⟨gk, p, none⟩ (.slice a8 (xl + (j + 1)) c8)).ownsRow wo.heap.size 34 1 (.slice (some ⟨gk, 0, none⟩) ll ck) ll (gsv (put gs p a8 (xl + (j + 1)) c8 (xs ++ List.replicate (j + 1) ndL)))) := by
              have h := own_set HK8.out hp (.slice a8 (xl + (j + 1)) c8)
              rw [gsv_again (l' := xs ++ List.replicate (j + 1) ndL)] at h
              exact h
            have HB9 : Hid (Below W.heap.size W (w8.setCell ⟨gk, p, none⟩ (.slice a8 (xl + (j + 1)) c8))) := HB8.out.setCell (by show W.heap.size ≤ gk; omega) _
            have HS9 : Hid (w5.heap.size ≤ (w8.setCell ⟨gk, p, none⟩ (.slice a8 (xl + (j + 1)) c8)).heap.size) := by
              have h1 := (setCells_grown gk [.slice a8 (xl + (j + 1)) c8] p w8).size
              have h2 : w8.heap.size ≤ (w8.setCell ⟨gk, p, none⟩ (.slice a8 (xl + (j + 1)) c8)).heap.size := h1
              have h3 := HS8.out
              unfold Hid
              omega
            clear hown8 hgrow8 hcell HN8 HK8 HB8 HS8
            go_wp2_with fail
            go_roundw
            case rel => exact ⟨j + 1, c8, a8, by go_num, by omega, HN9.out, HK9.out, HB9.out, HS9.out⟩
            case measure => simp [intOf]; omega
          · have hjm : j = M % 20 := by omega
            have hlti : ¬ (j : Int) < (M : Int) % 20 := by omega
            have HGC : Hid (Gc wr (some ⟨gk, 0, none⟩) ll ck (put gs p a (xl + j) c (xs ++ List.replicate j ndL))) := by
              obtain ⟨a', c', e, h⟩ := gc_own HKJ.out (fun i hi => by
                rw [put_at HPL.out]
                by_cases e : i = p
                · rw [if_pos e]
                  obtain ⟨a', c', e', h'⟩ := ndw_own HNJ.out
                  cases e'
                  exact h'
                · rw [if_neg e]
                  obtain ⟨_, _, _, _, h'⟩ := HG.out.2.2 i hi
                  exact h'.c.later HBJ.out)
              cases e
              exact h
            have HFP : Hid (Fits ll (put gs p a (xl + j) c (xs ++ List.replicate j ndL))) := by
              refine ⟨HFIT.out.1, fun i hi => ?_⟩
              unfold ln
              rw [put_at HPL.out]
              by_cases e : i = p
              · rw [if_pos e]; show xl + j ≤ _; omega
              · rw [if_neg e]; exact HFIT.out.2 i hi
            have HWK : Hid (wkR ll (put gs p a (xl + j) c (xs ++ List.replicate j ndL)) p = if 4096 < T + j then (0, 10) else (((T + j : Nat) : Int), 0)) := by
              have h := wk_put (a := a) (c := c) (j := j) HPL.out hp HCL.out HNP.out
              rw [HX.out, HT.out] at h
              exact h
            have hW := work_any (some ⟨gk, 0, none⟩) ll ck (put gs p a (xl + j) c (xs ++ List.replicate j ndL)) p wr HGC.out HFP.out
            rw [HWK.out] at hW
            have hNT := HNT.out
            subst hNT
            have hNN : decide ((N : Int) ≤ 4096) = true := by rw [decide_eq_true_iff]; omega
            have hj0 : (j : Int) = (M : Int) % 20 := by omega
            by_cases hbig : 4096 < N + j
            · rw [if_pos hbig] at hW
              have C9 : Hid (Calls Try.prog 15 #[.slice (some ⟨gk, 0, none⟩) ll ck, .int .i64 p] wr fun e w2 => e = .returned (.tuple #[.int .i64 0, .int .i64 10]) ∧ Below W.heap.size W w2) := hide (hW.mono fun e w2 h => ⟨h.1, HBJ.out.trans (h.2.mono HBJ.out.size)⟩)
              have hgt : decide ((4096 : Int) < (N : Int) + (M : Int) % 20) = true := by rw [decide_eq_true_iff]; omega
              clear hW hbig hj0 hjm hcell
              go_wp2_with (go_at_call 15; (with_reducible refine C9.out.mono ?_); rintro e w9 ⟨rfl, hb9⟩; have HB9 := hide hb9; clear hb9)
              go_ret
              exact ⟨rfl, HB9.out⟩
            · rw [if_neg hbig] at hW
              have C9 : Hid (Calls Try.prog 15 #[.slice (some ⟨gk, 0, none⟩) ll ck, .int .i64 p] wr fun e w2 => e = .returned (.tuple #[.int .i64 ((N : Int) + (M : Int) % 20), .int .i64 0]) ∧ Below W.heap.size W w2) := hide (hW.mono fun e w2 h => ⟨by rw [h.1, ← hj0]; rfl, HBJ.out.trans (h.2.mono HBJ.out.size)⟩)
              clear hW hbig hj0 hjm hcell
              go_wp2_with (go_at_call 15; (with_reducible refine C9.out.mono ?_); rintro e w9 ⟨rfl, hb9⟩; have HB9 := hide hb9; clear hb9)
              go_ret
              exact ⟨rfl, HB9.out⟩
  · have hz := wk_bad hbad
    have C4 := C3.out
    obtain ⟨z, hzz⟩ : ∃ z, (wkR ll gs p).2 = z := ⟨_, rfl⟩
    have C5 : Hid (Calls Try.prog 15 #[.slice la ll lc, .int .i64 p] w2 fun e w2 => e = .returned (.tuple #[.int .i64 0, .int .i64 z]) ∧ Below W.heap.size W w2) := by
      have := C3.out w2 p HB2.out
      rw [hz, hzz] at this
      exact this
    have hzn : (z != 0) = true := by rw [bne_iff_ne, ← hzz]; exact hbad
    clear hz hzz hbad C4
    go_wp2_with (go_at_call 15; (with_reducible refine C5.out.mono ?_); rintro e w3 ⟨rfl, hb3⟩; have HB3 := hide hb3; clear hb3)
    go_ret
    exact ⟨rfl, HB3.out⟩
end Go.Proofs.Ytedpppkknmeheaa.GraphWorks
