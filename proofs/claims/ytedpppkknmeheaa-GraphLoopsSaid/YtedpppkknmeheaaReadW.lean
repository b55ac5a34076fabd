/-
  How graphs, and rows of shapes, that came in are opened: their nodes, cell by cell, and how long each slice may be (the reading's own reach). Plain laws over this program's types. No condition.
-/
import Derived.Test.YtedpppkknmeheaaReadG
import Derived.Test.YtedpppkknmeheaaG7
import Derived.SizedLaws
namespace Go.Proofs.Ytedpppkknmeheaa
open Go.ChangeShapes Go.WideShapes Go.ChangeAt Go.RowKit

section
variable {H : Type} {enc : TypeId × Value → H} {P : Program} {w : World} {base : Nat} {held : Bool}
/-- No slice of the datum is beyond the reach. -/
def Wt (P : Program) (t : TypeId) (d : DataW H) : Prop := ∀ n ∈ d.weights P t, n ≤ reachBytes
theorem all_mem {e : TypeId} : ∀ {l : List (DataW H)} {d : DataW H}, d ∈ l → ∀ n ∈ d.weights P e, n ∈ DataW.weightsAll P e l
  | x :: l, d, hd, n, hn => by
    unfold DataW.weightsAll
    rcases List.mem_cons.1 hd with rfl | h
    · exact List.mem_append.2 (.inl hn)
    · exact List.mem_append.2 (.inr (all_mem h n hn))
theorem Wt.arg {ts : List TypeId} {ds : List (DataW H)} (h : (DataW.weightsEach P ts ds).all (· ≤ reachBytes) = true) {j : Nat} {t : TypeId} {d : DataW H} (ht : ts[j]? = some t) (hd : ds[j]? = some d) : Wt P t d :=
  fun n hn => of_decide_eq_true (List.all_eq_true.1 h _ (DataW.weights_mem_each ht hd n hn))

/-- A slice that came in: each element's cells, and that they read as its type's; how long it may be. -/
theorem open_rows_w {t e : TypeId} {K fuel : Nat} {a : Option Addr} {len cap : Nat} {x : DataW H × List MemPlace} (ht : P.underlying t = some (.slice e)) (hc : P.cellsOf e = K) (hK : 0 < K)
    (h : DataW.trod enc P w base (fun _ => true) held fuel t [.slice a len cap] = some x) (hw : Wt P t x.1) :
    len ≤ cap ∧ cap ≤ maxLen ∧ (a = none → cap = 0) ∧ cap * P.bytesOf e ≤ reachBytes ∧ ∀ i, i < len → ∃ b off, a = some ⟨b, off, none⟩ ∧ ∃ (cs : List Value) (n : Nat) (y : DataW H × List MemPlace), cs.length = K ∧ (∀ j u, cs[j]? = some u → w.cell? ⟨b, off + i * K + j, none⟩ = some u) ∧ DataW.trod enc P w base (fun _ => true) held n e cs = some y ∧ Wt P e y.1 := by
  rcases Go.Deep.open_slice ht h with ⟨hcs, _⟩ | ⟨ad, l, c, m, n, D, Pl, hcs, _, hlc, hcm, hm, hx, hel⟩
  · simp at hcs
    obtain ⟨rfl, rfl, rfl⟩ := hcs
    exact ⟨Nat.le_refl _, Nat.zero_le _, fun _ => rfl, by simp, fun i hi => by omega⟩
  · simp at hcs
    obtain ⟨rfl, rfl, rfl⟩ := hcs
    simp at hm
    subst hm
    rw [hc] at hel
    have hwx : ∀ n ∈ (len + (m - len)) * P.bytesOf e :: (DataW.weightsAll P e ((List.range len).map D) ++ DataW.weightsAll P e ((List.range (m - len)).map fun j => D (len + j))), n ≤ reachBytes := by
      intro n hn
      refine hw n ?_
      rw [hx]
      simp only [DataW.weights, ht, List.length_map, List.length_range]
      exact hn
    refine ⟨hlc, hcm, (fun h => by cases h), ?_, fun i hi => ?_⟩
    · have := hwx _ (List.mem_cons_self ..)
      rwa [show len + (m - len) = m by omega] at this
    obtain ⟨cs, h1, h2⟩ := hel i (by omega)
    obtain ⟨_, hlen, hcell⟩ := World.cells?_some h1
    obtain ⟨b, off, spot⟩ := ad
    have hspot : spot = none := by
      obtain ⟨cs0, g1, _⟩ := hel 0 (by omega)
      obtain ⟨_, glen, gcell⟩ := World.cells?_some g1
      have h0 := gcell 0 hK
      rw [List.getElem?_eq_getElem (by omega)] at h0
      simpa [Addr.add] using World.cell?_spot h0
    subst hspot
    refine ⟨b, off, rfl, cs, n, _, hlen, fun j u hj => ?_, h2, fun q hq => hwx q (List.mem_cons_of_mem _ (List.mem_append.2 (.inl (all_mem (List.mem_map.2 ⟨i, List.mem_range.2 hi, rfl⟩) q hq))))⟩
    have hjl : j < K := by
      rcases Nat.lt_or_ge j cs.length with h | h
      · omega
      · rw [List.getElem?_eq_none h] at hj; cases hj
    have h3 := hcell j hjl
    rw [Go.Deep.add_add, Go.WideShapes.add_plain] at h3
    rw [Nat.add_assoc, h3, hj]

/-- A field of one cell. -/
theorem open_field_w {t : TypeId} {fs : Array Field} {n : Nat} {cs : List Value} {y : DataW H × List MemPlace} (ht : P.underlying t = some (.struct fs)) (h : DataW.trod enc P w base (fun _ => true) held n t cs = some y) (hw : Wt P t y.1) {j o : Nat} {ft : TypeId} (hf : (fs[j]?).map (fun f => (f.type, f.offset)) = some (ft, o)) (hc : P.cellsOf ft = 1) (ho : o < P.cellsOf t) :
    ∃ v m z, cs[o]? = some v ∧ DataW.trod enc P w base (fun _ => true) held m ft [v] = some z ∧ Wt P ft z.1 := by
  obtain ⟨xs, m', _, hy, hl, hxl, hx⟩ := DataW.trod_struct ht h
  cases hfj : fs[j]? with
  | none => rw [hfj] at hf; cases hf
  | some f =>
    rw [hfj] at hf
    simp only [Option.map_some, Option.some.injEq, Prod.mk.injEq] at hf
    obtain ⟨rfl, rfl⟩ := hf
    have hjl : j < fs.size := by
      rcases Nat.lt_or_ge j fs.size with hlt | hge
      · exact hlt
      · rw [Array.getElem?_eq_none hge] at hfj; cases hfj
    have h3 := hx j f hfj
    rw [hc, List.getElem?_eq_getElem (by omega)] at h3
    have hol : f.offset < cs.length := by omega
    have : (cs.drop f.offset).take 1 = [cs[f.offset]'hol] := by rw [List.drop_eq_getElem_cons hol]; rfl
    rw [this] at h3
    refine ⟨_, m', _, List.getElem?_eq_getElem hol, h3, fun q hq => hw q ?_⟩
    rw [hy]
    simp only [DataW.weights, ht]
    exact DataW.weights_mem_each (j := j) (by simp [hfj]) (by simp [List.getElem?_eq_getElem (show j < xs.length by omega)]) q hq
/-- A field of two cells. -/
theorem open_field2_w {t : TypeId} {fs : Array Field} {n : Nat} {cs : List Value} {y : DataW H × List MemPlace} (ht : P.underlying t = some (.struct fs)) (h : DataW.trod enc P w base (fun _ => true) held n t cs = some y) (hw : Wt P t y.1) {j o : Nat} {ft : TypeId} (hf : (fs[j]?).map (fun f => (f.type, f.offset)) = some (ft, o)) (hc : P.cellsOf ft = 2) (ho : o + 1 < P.cellsOf t) :
    ∃ v u m z, cs[o]? = some v ∧ cs[o + 1]? = some u ∧ DataW.trod enc P w base (fun _ => true) held m ft [v, u] = some z ∧ Wt P ft z.1 := by
  obtain ⟨xs, m', _, hy, hl, hxl, hx⟩ := DataW.trod_struct ht h
  cases hfj : fs[j]? with
  | none => rw [hfj] at hf; cases hf
  | some f =>
    rw [hfj] at hf
    simp only [Option.map_some, Option.some.injEq, Prod.mk.injEq] at hf
    obtain ⟨rfl, rfl⟩ := hf
    have hjl : j < fs.size := by
      rcases Nat.lt_or_ge j fs.size with hlt | hge
      · exact hlt
      · rw [Array.getElem?_eq_none hge] at hfj; cases hfj
    have h3 := hx j f hfj
    rw [hc, List.getElem?_eq_getElem (by omega)] at h3
    have hol : f.offset < cs.length := by omega
    have hol1 : f.offset + 1 < cs.length := by omega
    have : (cs.drop f.offset).take 2 = [cs[f.offset]'hol, cs[f.offset + 1]'hol1] := by rw [List.drop_eq_getElem_cons hol, List.drop_eq_getElem_cons hol1]; rfl
    rw [this] at h3
    refine ⟨_, _, m', _, List.getElem?_eq_getElem hol, List.getElem?_eq_getElem hol1, h3, fun q hq => hw q ?_⟩
    rw [hy]
    simp only [DataW.weights, ht]
    exact DataW.weights_mem_each (j := j) (by simp [hfj]) (by simp [List.getElem?_eq_getElem (show j < xs.length by omega)]) q hq
theorem long_of {n m : Nat} (h : n * m ≤ reachBytes) (hm : 8 ≤ m) : n ≤ 140737488355328 := by
  have h1 : n * 8 ≤ n * m := Nat.mul_le_mul_left n hm
  have h2 : reachBytes < 2 ^ 47 := reachBytes_lt
  omega
end

section
variable {H : Type} {enc : TypeId × Value → H} {w : World} {base : Nat} {held : Bool}
/-- A slice of whole numbers. -/
theorem open_ints_w {fuel : Nat} {v : Value} {x : DataW H × List MemPlace} (h : DataW.trod enc Try.prog w base (fun _ => true) held fuel 35 [v] = some x) (hw : Wt Try.prog 35 x.1) : ∃ a n c zs, v = .slice a n c ∧ Isl w .i64 a n c zs ∧ n ≤ 140737488355328 := by
  obtain ⟨a, n, c, rfl⟩ := slice_one Try.underlying35 h
  obtain ⟨hl, _, _, hr, _⟩ := open_rows_w Try.underlying35 (K := 1) (by kernel_rfl) (by omega) h hw
  obtain ⟨_, zs, hz, _⟩ := open_isl Try.underlying35 Try.underlying3 (by kernel_rfl) h
  exact ⟨a, n, c, zs, rfl, hz, Nat.le_trans hl (long_of hr (of_decide_eq_true (by kernel_rfl)))⟩
def Nd.sized (n : Nd) : Prop := n.tl ≤ 140737488355328 ∧ n.dl ≤ 140737488355328
/-- A node that came in. -/
theorem open_node {n : Nat} {cs : List Value} {y : DataW H × List MemPlace} (h : DataW.trod enc Try.prog w base (fun _ => true) held n 41 cs = some y) (hw : Wt Try.prog 41 y.1) :
    ∃ nd : Nd, (cs[0]? = some (.int .i64 nd.op) ∧ cs[1]? = some (.slice nd.ia nd.il nd.ic) ∧ cs[2]? = some (.slice nd.ta nd.tl nd.tc) ∧ cs[3]? = some (.int .i64 nd.no) ∧ cs[4]? = some (.slice nd.sa nd.sl nd.sc) ∧ cs[5]? = some (.slice nd.da nd.dl nd.dc) ∧ cs[6]? = some (.slice nd.ha nd.hl nd.hc)) ∧ nd.ok w ∧ nd.small ∧ nd.sized := by
  have c7 : Try.prog.cellsOf 41 = 7 := by kernel_rfl
  have c2 : Try.prog.cellsOf 38 = 2 := by kernel_rfl
  obtain ⟨v0, m0, z0, e0, t0, _⟩ := open_field_w (j := 0) (o := 0) (ft := 3) Try.underlying41 h hw (by kernel_rfl) (by kernel_rfl) (by omega)
  obtain ⟨v1, m1, z1, e1, t1, w1⟩ := open_field_w (j := 1) (o := 1) (ft := 35) Try.underlying41 h hw (by kernel_rfl) (by kernel_rfl) (by omega)
  obtain ⟨v2, m2, z2, e2, t2, w2⟩ := open_field_w (j := 2) (o := 2) (ft := 35) Try.underlying41 h hw (by kernel_rfl) (by kernel_rfl) (by omega)
  obtain ⟨v3, m3, z3, e3, t3, _⟩ := open_field_w (j := 3) (o := 3) (ft := 3) Try.underlying41 h hw (by kernel_rfl) (by kernel_rfl) (by omega)
  obtain ⟨v4, v5, m4, z4, e4, e5, t4, w4⟩ := open_field2_w (j := 4) (o := 4) (ft := 38) Try.underlying41 h hw (by kernel_rfl) (by kernel_rfl) (by omega)
  obtain ⟨v6, m6, z6, e6, t6, w6⟩ := open_field_w (j := 5) (o := 6) (ft := 39) Try.underlying41 h hw (by kernel_rfl) (by kernel_rfl) (by omega)
  obtain ⟨q4, n4, y4, f4, s4, x4⟩ := open_field_w (j := 0) (o := 0) (ft := 35) Try.underlying38 t4 w4 (by kernel_rfl) (by kernel_rfl) (by omega)
  obtain ⟨q5, n5, y5, f5, s5, x5⟩ := open_field_w (j := 1) (o := 1) (ft := 36) Try.underlying38 t4 w4 (by kernel_rfl) (by kernel_rfl) (by omega)
  simp at f4 f5
  subst f4 f5
  obtain ⟨op, rfl, _⟩ := int_of Try.underlying3 t0
  obtain ⟨no, rfl, _⟩ := int_of Try.underlying3 t3
  obtain ⟨ia, il, ic, ins, rfl, hI, hil⟩ := open_ints_w t1 w1
  obtain ⟨ta, tl, tc, _, rfl, _, htl⟩ := open_ints_w t2 w2
  obtain ⟨sa, sl, sc, S, rfl, hS, hsl⟩ := open_ints_w s4 x4
  obtain ⟨da, dl, dc, rfl⟩ := slice_one Try.underlying36 s5
  obtain ⟨hdl, _, _, hdr, _⟩ := open_rows_w Try.underlying36 (K := 1) (by kernel_rfl) (by omega) s5 x5
  obtain ⟨ha, hl, hc, rfl⟩ := slice_one Try.underlying39 t6
  obtain ⟨hhl, _, _, hhr, _⟩ := open_rows_w Try.underlying39 (K := 2) (by kernel_rfl) (by omega) t6 w6
  obtain ⟨_, _, hs, hH, _⟩ := open_hooks Try.underlying39 Try.underlying49 rfl rfl Try.underlying3 Try.underlying47 (by kernel_rfl) (by kernel_rfl) (by kernel_rfl) t6
  refine ⟨⟨op, ia, il, ic, ins, ta, tl, tc, no, sa, sl, sc, S, da, dl, dc, ha, hl, hc, hs⟩, ⟨e0, e1, e2, e3, e4, e5, e6⟩, ⟨hI, hS, hH⟩, ⟨hil, hsl, ?_⟩, htl, ?_⟩
  · exact Nat.le_trans hhl (long_of hhr (of_decide_eq_true (by kernel_rfl)))
  · exact Nat.le_trans hdl (long_of hdr (of_decide_eq_true (by kernel_rfl)))
/-- A graph's nodes. -/
theorem open_nodes {fuel : Nat} {v : Value} {x : DataW H × List MemPlace} (h : DataW.trod enc Try.prog w base (fun _ => true) held fuel 32 [v] = some x) (hw : Wt Try.prog 32 x.1) :
    ∃ a len cap l, v = .slice a len cap ∧ Nds w a len cap l ∧ len ≤ 140737488355328 ∧ ∀ i, i < len → (l.getD i default).sized := by
  obtain ⟨a, len, cap, rfl⟩ := slice_one Try.underlying32 h
  obtain ⟨hl, _, _, hr, hel⟩ := open_rows_w Try.underlying32 (K := 7) (by kernel_rfl) (by omega) h hw
  obtain ⟨F, hF⟩ := Go.Deep.choose_lt (α := Nd) (n := len) (p := fun i nd => (∃ b off, a = some ⟨b, off, none⟩ ∧
      (w.cell? ⟨b, off + i * 7, none⟩ = some (.int .i64 nd.op) ∧ w.cell? ⟨b, off + i * 7 + 1, none⟩ = some (.slice nd.ia nd.il nd.ic) ∧ w.cell? ⟨b, off + i * 7 + 2, none⟩ = some (.slice nd.ta nd.tl nd.tc) ∧ w.cell? ⟨b, off + i * 7 + 3, none⟩ = some (.int .i64 nd.no) ∧ w.cell? ⟨b, off + i * 7 + 4, none⟩ = some (.slice nd.sa nd.sl nd.sc) ∧ w.cell? ⟨b, off + i * 7 + 5, none⟩ = some (.slice nd.da nd.dl nd.dc) ∧ w.cell? ⟨b, off + i * 7 + 6, none⟩ = some (.slice nd.ha nd.hl nd.hc)) ∧ nd.ok w ∧ nd.small) ∧ nd.sized) (fun i hi => by
    obtain ⟨b, off, rfl, cs, n, y, _, hc, hd, hwy⟩ := hel i hi
    obtain ⟨nd, ⟨c0, c1, c2, c3, c4, c5, c6⟩, ho, hs, hz⟩ := open_node hd hwy
    exact ⟨nd, ⟨b, off, rfl, ⟨hc 0 _ c0, hc 1 _ c1, hc 2 _ c2, hc 3 _ c3, hc 4 _ c4, hc 5 _ c5, hc 6 _ c6⟩, ho, hs⟩, hz⟩)
  have e : ∀ i, i < len → ((List.range len).map F).getD i default = F i := fun i hi => by simp [List.getD, hi]
  refine ⟨a, len, cap, (List.range len).map F, rfl, ⟨by simp, hl, fun i hi => ?_⟩, Nat.le_trans hl (long_of hr (of_decide_eq_true (by kernel_rfl))), fun i hi => ?_⟩
  · rw [e i hi]; exact (hF i hi).1
  · rw [e i hi]; exact (hF i hi).2
/-- How long what lies in the graphs may be. -/
def Szs (gs : List Gr) (len : Nat) : Prop := ∀ i, i < len → (gs.getD i default).len ≤ 140737488355328 ∧ ∀ k, k < (gs.getD i default).len → ((gs.getD i default).l.getD k default).sized
/-- Graphs that came in. -/
theorem open_graphs {fuel : Nat} {a : Option Addr} {len cap : Nat} {x : DataW H × List MemPlace} (h : DataW.trod enc Try.prog w base (fun _ => true) held fuel 22 [.slice a len cap] = some x) (hw : Wt Try.prog 22 x.1) :
    cap ≤ maxLen ∧ (a = none → cap = 0) ∧ len ≤ 140737488355328 ∧ ∃ gs, Grs w a len cap gs ∧ Szs gs len := by
  obtain ⟨hl, hcm, hn, hr, hel⟩ := open_rows_w Try.underlying22 (K := 1) (by kernel_rfl) (by omega) h hw
  have c1 : Try.prog.cellsOf 34 = 1 := by kernel_rfl
  obtain ⟨F, hF⟩ := Go.Deep.choose_lt (α := Gr) (n := len) (p := fun i g => (∃ b off, a = some ⟨b, off, none⟩ ∧ w.cell? ⟨b, off + i, none⟩ = some (.slice g.a g.len g.cap) ∧ Nds w g.a g.len g.cap g.l) ∧ g.len ≤ 140737488355328 ∧ ∀ k, k < g.len → (g.l.getD k default).sized) (fun i hi => by
    obtain ⟨b, off, rfl, cs, n, y, _, hc, hd, hwy⟩ := hel i hi
    obtain ⟨v0, m0, z0, e0, t0, w0⟩ := open_field_w (j := 0) (o := 0) (ft := 32) Try.underlying34 hd hwy (by kernel_rfl) (by kernel_rfl) (by omega)
    obtain ⟨ga, gl, gc, l, rfl, hN, hgl, hz⟩ := open_nodes t0 w0
    have hc0 := hc 0 _ e0
    rw [Nat.mul_one] at hc0
    exact ⟨⟨ga, gl, gc, l⟩, ⟨b, off, rfl, hc0, hN⟩, hgl, hz⟩)
  have e : ∀ i, i < len → ((List.range len).map F).getD i default = F i := fun i hi => by simp [List.getD, hi]
  refine ⟨hcm, hn, Nat.le_trans hl (long_of hr (of_decide_eq_true (by kernel_rfl))), (List.range len).map F, ⟨by simp, hl, fun i hi => ?_⟩, fun i hi => ?_⟩
  · rw [e i hi]; exact (hF i hi).1
  · rw [e i hi]; exact (hF i hi).2
/-- Rows of shapes that came in. -/
theorem open_shapes {fuel : Nat} {a : Option Addr} {len cap : Nat} {x : DataW H × List MemPlace} (h : DataW.trod enc Try.prog w base (fun _ => true) held fuel 23 [.slice a len cap] = some x) (hw : Wt Try.prog 23 x.1) :
    cap ≤ maxLen ∧ (a = none → cap = 0) ∧ len ≤ 140737488355328 ∧ ∃ V, Vs w a len cap V := by
  obtain ⟨hl, hcm, hn, hr, hel⟩ := open_rows_w Try.underlying23 (K := 1) (by kernel_rfl) (by omega) h hw
  obtain ⟨F, hF⟩ := Go.Deep.choose_lt (α := List Int) (n := len) (p := fun i V => ∃ b off, a = some ⟨b, off, none⟩ ∧ ∃ c n d, w.cell? ⟨b, off + i, none⟩ = some (.slice c n d) ∧ Isl w .i64 c n d V ∧ n ≤ 140737488355328) (fun i hi => by
    obtain ⟨b, off, rfl, cs, n, y, hcl, hc, hd, hwy⟩ := hel i hi
    obtain ⟨v, rfl⟩ : ∃ v, cs = [v] := by
      match cs, hcl with
      | [v], _ => exact ⟨v, rfl⟩
    obtain ⟨c, m, d, V, rfl, hI, hm⟩ := open_ints_w hd hwy
    have hc0 := hc 0 _ rfl
    rw [Nat.mul_one] at hc0
    exact ⟨V, b, off, rfl, c, m, d, hc0, hI, hm⟩)
  have e : ∀ i, i < len → ((List.range len).map F).getD i [] = F i := fun i hi => by simp [List.getD, hi]
  refine ⟨hcm, hn, Nat.le_trans hl (long_of hr (of_decide_eq_true (by kernel_rfl))), (List.range len).map F, ⟨by simp, hl, fun i hi => ?_⟩⟩
  rw [e i hi]; exact hF i hi
end
end Go.Proofs.Ytedpppkknmeheaa
