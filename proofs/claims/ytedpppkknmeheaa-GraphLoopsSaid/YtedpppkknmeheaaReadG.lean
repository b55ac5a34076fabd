/-
  How a slice of structs that came in is opened, cell by cell; a tensor that came in by value; a slice of hooks. Plain laws over any program. No condition.
-/
import Derived.Test.YtedpppkknmeheaaRead
import Derived.Test.YtedpppkknmeheaaGm
import Derived.Deep.Slices
import Derived.Lib.SmallJoins
namespace Go.Proofs.Ytedpppkknmeheaa
open Go.ChangeShapes Go.WideShapes Go.ChangeAt Go.RowKit

section
variable {H : Type} {enc : TypeId × Value → H} {P : Program} {w : World} {base : Nat} {held : Bool}

/-- A slice that came in: each element's cells, and that they read as its type's. -/
theorem open_rows {t e : TypeId} {K fuel : Nat} {a : Option Addr} {len cap : Nat} {x : DataW H × List MemPlace} (ht : P.underlying t = some (.slice e)) (hc : P.cellsOf e = K) (hK : 0 < K)
    (h : DataW.trod enc P w base (fun _ => true) held fuel t [.slice a len cap] = some x) :
    len ≤ cap ∧ cap ≤ maxLen ∧ (a = none → cap = 0) ∧ ∀ i, i < len → ∃ b off, a = some ⟨b, off, none⟩ ∧ ∃ (cs : List Value) (n : Nat) (y : DataW H × List MemPlace), cs.length = K ∧ (∀ j u, cs[j]? = some u → w.cell? ⟨b, off + i * K + j, none⟩ = some u) ∧ DataW.trod enc P w base (fun _ => true) held n e cs = some y := by
  rcases Go.Deep.open_slice ht h with ⟨hcs, _⟩ | ⟨ad, l, c, m, n, D, Pl, hcs, _, hlc, hcm, hm, _, hel⟩
  · simp at hcs
    obtain ⟨rfl, rfl, rfl⟩ := hcs
    exact ⟨Nat.le_refl _, Nat.zero_le _, fun _ => rfl, fun i hi => by omega⟩
  · simp at hcs
    obtain ⟨rfl, rfl, rfl⟩ := hcs
    simp at hm
    subst hm
    rw [hc] at hel
    refine ⟨hlc, hcm, (fun h => by cases h), fun i hi => ?_⟩
    obtain ⟨cs, h1, h2⟩ := hel i (by omega)
    obtain ⟨_, hlen, hcell⟩ := World.cells?_some h1
    obtain ⟨b, off, spot⟩ := ad
    have hspot : spot = none := by
      obtain ⟨cs0, g1, _⟩ := hel 0 (by omega)
      obtain ⟨_, glen, gcell⟩ := World.cells?_some g1
      have h0 := gcell 0 hK
      rw [List.getElem?_eq_getElem (by omega)] at h0
      simpa [Addr.add] using World.cell?_spot h0
    subst hspot
    refine ⟨b, off, rfl, cs, n, _, hlen, fun j u hj => ?_, h2⟩
    have hjl : j < K := by
      rcases Nat.lt_or_ge j cs.length with h | h
      · omega
      · rw [List.getElem?_eq_none h] at hj; cases hj
    have h3 := hcell j hjl
    rw [Go.Deep.add_add, Go.WideShapes.add_plain] at h3
    rw [Nat.add_assoc, h3, hj]

/-- A field of one cell. -/
theorem open_field {t : TypeId} {fs : Array Field} {n : Nat} {cs : List Value} {y : DataW H × List MemPlace} (ht : P.underlying t = some (.struct fs)) (h : DataW.trod enc P w base (fun _ => true) held n t cs = some y) {j o : Nat} {ft : TypeId} (hf : (fs[j]?).map (fun f => (f.type, f.offset)) = some (ft, o)) (hc : P.cellsOf ft = 1) (ho : o < P.cellsOf t) :
    ∃ v m z, cs[o]? = some v ∧ DataW.trod enc P w base (fun _ => true) held m ft [v] = some z := by
  obtain ⟨xs, m', _, _, hl, hxl, hx⟩ := DataW.trod_struct ht h
  cases hfj : fs[j]? with
  | none => rw [hfj] at hf; cases hf
  | some f =>
    rw [hfj] at hf
    simp only [Option.map_some, Option.some.injEq, Prod.mk.injEq] at hf
    obtain ⟨rfl, rfl⟩ := hf
    have hjl : j < fs.size := by
      rcases Nat.lt_or_ge j fs.size with hlt | hge
      · exact hlt
      · rw [Array.getElem?_eq_none hge] at hfj; cases hfj
    have h3 := hx j f hfj
    rw [hc, List.getElem?_eq_getElem (by omega)] at h3
    have hol : f.offset < cs.length := by omega
    have : (cs.drop f.offset).take 1 = [cs[f.offset]'hol] := by rw [List.drop_eq_getElem_cons hol]; rfl
    rw [this] at h3
    exact ⟨_, m', _, List.getElem?_eq_getElem hol, h3⟩
/-- A field of two cells. -/
theorem open_field2 {t : TypeId} {fs : Array Field} {n : Nat} {cs : List Value} {y : DataW H × List MemPlace} (ht : P.underlying t = some (.struct fs)) (h : DataW.trod enc P w base (fun _ => true) held n t cs = some y) {j o : Nat} {ft : TypeId} (hf : (fs[j]?).map (fun f => (f.type, f.offset)) = some (ft, o)) (hc : P.cellsOf ft = 2) (ho : o + 1 < P.cellsOf t) :
    ∃ v u m z, cs[o]? = some v ∧ cs[o + 1]? = some u ∧ DataW.trod enc P w base (fun _ => true) held m ft [v, u] = some z := by
  obtain ⟨xs, m', _, _, hl, hxl, hx⟩ := DataW.trod_struct ht h
  cases hfj : fs[j]? with
  | none => rw [hfj] at hf; cases hf
  | some f =>
    rw [hfj] at hf
    simp only [Option.map_some, Option.some.injEq, Prod.mk.injEq] at hf
    obtain ⟨rfl, rfl⟩ := hf
    have hjl : j < fs.size := by
      rcases Nat.lt_or_ge j fs.size with hlt | hge
      · exact hlt
      · rw [Array.getElem?_eq_none hge] at hfj; cases hfj
    have h3 := hx j f hfj
    rw [hc, List.getElem?_eq_getElem (by omega)] at h3
    have hol : f.offset < cs.length := by omega
    have hol1 : f.offset + 1 < cs.length := by omega
    have : (cs.drop f.offset).take 2 = [cs[f.offset]'hol, cs[f.offset + 1]'hol1] := by rw [List.drop_eq_getElem_cons hol, List.drop_eq_getElem_cons hol1]; rfl
    rw [this] at h3
    exact ⟨_, _, m', _, List.getElem?_eq_getElem hol, List.getElem?_eq_getElem hol1, h3⟩
theorem slice_one {t e : TypeId} {n : Nat} {v : Value} {y : DataW H × List MemPlace} (ht : P.underlying t = some (.slice e)) (h : DataW.trod enc P w base (fun _ => true) held n t [v] = some y) : ∃ a l c, v = .slice a l c := by
  rcases Go.Deep.open_slice ht h with ⟨hcs, _⟩ | ⟨ad, l, c, m, n, D, Pl, hcs, _⟩
  · exact ⟨_, _, _, by simpa using hcs⟩
  · exact ⟨_, _, _, by simpa using hcs⟩
theorem int_of {t : TypeId} {k : IntKind} {n : Nat} {v : Value} {x : DataW H × List MemPlace} (ht : P.underlying t = some (.int k)) (hd : DataW.trod enc P w base (fun _ => true) held n t [v] = some x) : ∃ z, v = .int k z ∧ (Lit.int k z).wf = true := by
  obtain ⟨m, h1, _, hw⟩ := DataW.trod_int ht hd
  exact ⟨m, by simpa using h1, hw⟩

/-- A tensor's two cells. -/
theorem open_ten {t ti tf ei ef : TypeId} {fs : Array Field} {n : Nat} {v u : Value} {y : DataW H × List MemPlace} (ht : P.underlying t = some (.struct fs)) (h : DataW.trod enc P w base (fun _ => true) held n t [v, u] = some y)
    (h0 : (fs[0]?).map (fun f => (f.type, f.offset)) = some (ti, 0)) (h1 : (fs[1]?).map (fun f => (f.type, f.offset)) = some (tf, 1)) (hi : P.underlying ti = some (.slice ei)) (hf : P.underlying tf = some (.slice ef)) (hei : P.underlying ei = some (.int .i64)) (hef : P.underlying ef = some (.float .f64))
    (c0 : P.cellsOf ti = 1) (c1 : P.cellsOf tf = 1) (c : P.cellsOf t = 2) (ce : P.cellsOf ei = 1) (cf : P.cellsOf ef = 1) :
    ∃ a n c b m d, v = .slice a n c ∧ u = .slice b m d ∧ (∃ S, Isl w .i64 a n c S ∧ ∀ x ∈ S, (Lit.int .i64 x).wf = true) ∧ (∃ D, Fl.Sl w b m d D) ∧ (a = none → c = 0) ∧ (b = none → d = 0) := by
  obtain ⟨v0, m0, z0, e0, t0⟩ := open_field ht h h0 c0 (by omega)
  obtain ⟨v1, m1, z1, e1, t1⟩ := open_field ht h h1 c1 (by omega)
  simp at e0 e1
  subst e0 e1
  obtain ⟨a, n, c, rfl⟩ := slice_one hi t0
  obtain ⟨b, m, d, rfl⟩ := slice_one hf t1
  obtain ⟨_, S, hS, hw⟩ := open_isl hi hei ce t0
  obtain ⟨_, D, hD, _⟩ := open_floats hf hef cf t1
  exact ⟨a, n, c, b, m, d, rfl, rfl, ⟨S, hS, hw⟩, ⟨D, hD⟩, open_room hi t0, open_room hf t1⟩

/-- A slice of hooks. -/
theorem open_hooks {t e ti tf : TypeId} {fs : Array Field} {fuel : Nat} {a : Option Addr} {len cap : Nat} {x : DataW H × List MemPlace} (ht : P.underlying t = some (.slice e)) (he : P.underlying e = some (.struct fs)) (h0 : (fs[0]?).map (fun f => (f.type, f.offset)) = some (ti, 0)) (h1 : (fs[1]?).map (fun f => (f.type, f.offset)) = some (tf, 1))
    (hi : P.underlying ti = some (.int .i64)) (hf : P.underlying tf = some (.float .f64)) (c0 : P.cellsOf ti = 1) (c1 : P.cellsOf tf = 1) (c : P.cellsOf e = 2)
    (h : DataW.trod enc P w base (fun _ => true) held fuel t [.slice a len cap] = some x) :
    cap ≤ maxLen ∧ (a = none → cap = 0) ∧ ∃ hs : List (Int × Nat), Hks w a len cap hs ∧ ∀ h ∈ hs, (Lit.int .i64 h.1).wf = true := by
  obtain ⟨hlc, hcm, hz, hel⟩ := open_rows ht c (by omega) h
  obtain ⟨F, hF⟩ := Go.Deep.choose_lt (α := Int × Nat) (n := len) (p := fun i q => (∃ b off, a = some ⟨b, off, none⟩ ∧ w.cell? ⟨b, off + i * 2, none⟩ = some (.int .i64 q.1) ∧ w.cell? ⟨b, off + i * 2 + 1, none⟩ = some (.float .f64 q.2)) ∧ (Lit.int .i64 q.1).wf = true) (fun i hi' => by
    obtain ⟨b, off, rfl, cs, n, y, hl, hc, hd⟩ := hel i hi'
    obtain ⟨v0, m0, z0, e0, t0⟩ := open_field he hd h0 c0 (by omega)
    obtain ⟨v1, m1, z1, e1, t1⟩ := open_field he hd h1 c1 (by omega)
    obtain ⟨z, rfl, hw⟩ := int_of hi t0
    obtain ⟨f, rfl, _⟩ := float_cell hf t1
    exact ⟨(z, f), ⟨b, off, rfl, hc 0 _ e0, hc 1 _ e1⟩, hw⟩)
  refine ⟨hcm, hz, (List.range len).map F, ⟨by simp, hlc, fun i hi' => ?_⟩, fun q hq => ?_⟩
  · obtain ⟨b, off, ha, k0, k1⟩ := (hF i hi').1
    have e : hk ((List.range len).map F) i = F i := by
      unfold hk
      simp [List.getD, hi']
    rw [e]
    exact ⟨b, off, ha, k0, k1⟩
  · simp at hq
    obtain ⟨i, hi', rfl⟩ := hq
    exact (hF i hi').2
end
end Go.Proofs.Ytedpppkknmeheaa
