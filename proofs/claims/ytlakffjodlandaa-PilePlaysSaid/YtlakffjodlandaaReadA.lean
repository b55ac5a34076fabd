/-
  How a slice of arrays of integers that came in is opened. Plain laws over any program. No condition.
-/
import Derived.ProofKit
import Derived.OpenShut
import Derived.ChangeOld
import Derived.Below
import Derived.WalkSpells
import Derived.Deep.Slices
namespace Go.Proofs.Ytlakffjodlandaa
open Go.ChangeShapes Go.WideShapes Go.ChangeAt Go.RowKit

/-- What is known of a slice of arrays of K integers: its numbers. -/
def Rws (w : World) (k : IntKind) (K : Nat) (a : Option Addr) (len cap : Nat) (F : Nat → Nat → Int) : Prop :=
  len ≤ cap ∧ ∀ i, i < len → ∃ b off, a = some ⟨b, off, none⟩ ∧ ∀ j, j < K → w.cell? ⟨b, off + i * K + j, none⟩ = some (.int k (F i j))
theorem Rws.later {w w' : World} {k : IntKind} {K : Nat} {a : Option Addr} {len cap : Nat} {F : Nat → Nat → Int} (h : Rws w k K a len cap F) (hb : Below w.heap.size w w') : Rws w' k K a len cap F :=
  ⟨h.1, fun i hi => let ⟨b, off, ha, hc⟩ := h.2 i hi; ⟨b, off, ha, fun j hj => cell_later hb (hc j hj)⟩⟩

/-- What is known of a slice of integers: its numbers. -/
def Ils (w : World) (k : IntKind) (a : Option Addr) (len cap : Nat) (G : Nat → Int) : Prop :=
  len ≤ cap ∧ ∀ i, i < len → ∃ b off, a = some ⟨b, off, none⟩ ∧ w.cell? ⟨b, off + i, none⟩ = some (.int k (G i))
theorem Ils.later {w w' : World} {k : IntKind} {a : Option Addr} {len cap : Nat} {G : Nat → Int} (h : Ils w k a len cap G) (hb : Below w.heap.size w w') : Ils w' k a len cap G :=
  ⟨h.1, fun i hi => let ⟨b, off, ha, hc⟩ := h.2 i hi; ⟨b, off, ha, cell_later hb hc⟩⟩

section
variable {H : Type} {enc : TypeId × Value → H} {P : Program} {w : World} {base : Nat} {held : Bool}
theorem int_one {t : TypeId} {k : IntKind} {n : Nat} {l : List Value} {x : DataW H × List MemPlace} (ht : P.underlying t = some (.int k)) (hd : DataW.trod enc P w base (fun _ => true) held n t l = some x) :
    ∃ z, l = [.int k z] ∧ (Lit.int k z).wf = true := by
  obtain ⟨m, h1, _, hw⟩ := DataW.trod_int ht hd
  exact ⟨m, h1, hw⟩

theorem open_arrays {t e q : TypeId} {k : IntKind} {K fuel : Nat} {a : Option Addr} {len cap : Nat} {x : DataW H × List MemPlace} (ht : P.underlying t = some (.slice e)) (he : P.underlying e = some (.array K q)) (hq : P.underlying q = some (.int k)) (hc : P.cellsOf e = K) (hq1 : P.cellsOf q = 1) (hK : 0 < K)
    (h : DataW.trod enc P w base (fun _ => true) held fuel t [.slice a len cap] = some x) :
    cap ≤ maxLen ∧ ∃ F : Nat → Nat → Int, Rws w k K a len cap F ∧ ∀ i j, i < len → j < K → (Lit.int k (F i j)).wf = true := by
  rcases Go.Deep.open_slice ht h with ⟨hcs, _⟩ | ⟨ad, l, c, m, n, D, Pl, hcs, _, hlc, hcm, hm, _, hel⟩
  · simp at hcs
    obtain ⟨rfl, rfl, rfl⟩ := hcs
    exact ⟨Nat.zero_le _, fun _ _ => 0, ⟨Nat.le_refl _, fun i hi => by omega⟩, fun i j hi => by omega⟩
  · simp at hcs
    obtain ⟨rfl, rfl, rfl⟩ := hcs
    simp at hm
    subst hm
    rw [hc] at hel
    have one : ∀ i, i < len → ∃ f : Nat → Int, ∀ j, j < K → w.cell? ((ad.add (i * K)).add j) = some (.int k (f j)) ∧ (Lit.int k (f j)).wf = true := by
      intro i hi
      obtain ⟨cs', h1, h2⟩ := hel i (by omega)
      obtain ⟨_, hlen, hcell⟩ := World.cells?_some h1
      obtain ⟨xs, m', _, _, _, hxl, hx⟩ := DataW.trod_array he h2
      refine Go.Deep.choose_lt (α := Int) (p := fun j z => w.cell? ((ad.add (i * K)).add j) = some (.int k z) ∧ (Lit.int k z).wf = true) (fun j hj => ?_)
      have h3 := hx j hj
      rw [hq1, Nat.mul_one, List.getElem?_eq_getElem (by omega)] at h3
      obtain ⟨z, hz, hw⟩ := int_one hq h3
      refine ⟨z, ?_, hw⟩
      rw [hcell j hj]
      have : (cs'.drop j).take 1 = [cs'[j]'(by omega)] := by
        rw [List.drop_eq_getElem_cons (by omega)]; rfl
      rw [this] at hz
      rw [List.getElem?_eq_getElem (by omega)]
      simpa using hz
    obtain ⟨F, hF⟩ := Go.Deep.choose_lt (α := Nat → Int) one
    refine ⟨hcm, F, ⟨hlc, fun i hi => ?_⟩, fun i j hi hj => (hF i hi j hj).2⟩
    obtain ⟨b, off, spot⟩ := ad
    have h0 := (hF 0 (by omega) 0 hK).1
    have hspot : spot = none := by simpa [Addr.add] using World.cell?_spot h0
    subst hspot
    refine ⟨b, off, rfl, fun j hj => ?_⟩
    have h1 := (hF i hi j hj).1
    rw [Go.Deep.add_add, Go.WideShapes.add_plain] at h1
    rw [Nat.add_assoc]
    exact h1

theorem open_structs {t e : TypeId} {fs : Array Field} {k : IntKind} {K fuel : Nat} {a : Option Addr} {len cap : Nat} {x : DataW H × List MemPlace} (ht : P.underlying t = some (.slice e)) (he : P.underlying e = some (.struct fs)) (hf : ∀ j, j < K → ∃ f, fs[j]? = some f ∧ f.offset = j ∧ P.underlying f.type = some (.int k) ∧ P.cellsOf f.type = 1) (hc : P.cellsOf e = K) (hK : 0 < K)
    (h : DataW.trod enc P w base (fun _ => true) held fuel t [.slice a len cap] = some x) :
    cap ≤ maxLen ∧ ∃ F : Nat → Nat → Int, Rws w k K a len cap F ∧ ∀ i j, i < len → j < K → (Lit.int k (F i j)).wf = true := by
  rcases Go.Deep.open_slice ht h with ⟨hcs, _⟩ | ⟨ad, l, c, m, n, D, Pl, hcs, _, hlc, hcm, hm, _, hel⟩
  · simp at hcs
    obtain ⟨rfl, rfl, rfl⟩ := hcs
    exact ⟨Nat.zero_le _, fun _ _ => 0, ⟨Nat.le_refl _, fun i hi => by omega⟩, fun i j hi => by omega⟩
  · simp at hcs
    obtain ⟨rfl, rfl, rfl⟩ := hcs
    simp at hm
    subst hm
    rw [hc] at hel
    have one : ∀ i, i < len → ∃ f : Nat → Int, ∀ j, j < K → w.cell? ((ad.add (i * K)).add j) = some (.int k (f j)) ∧ (Lit.int k (f j)).wf = true := by
      intro i hi
      obtain ⟨cs', h1, h2⟩ := hel i (by omega)
      obtain ⟨_, hlen, hcell⟩ := World.cells?_some h1
      obtain ⟨xs, m', _, _, _, hxl, hx⟩ := DataW.trod_struct he h2
      refine Go.Deep.choose_lt (α := Int) (p := fun j z => w.cell? ((ad.add (i * K)).add j) = some (.int k z) ∧ (Lit.int k z).wf = true) (fun j hj => ?_)
      obtain ⟨f, hfj, ho, hu, hc1⟩ := hf j hj
      have hjl : j < fs.size := by
        rcases Nat.lt_or_ge j fs.size with hlt | hge
        · exact hlt
        · rw [Array.getElem?_eq_none hge] at hfj; cases hfj
      have h3 := hx j f hfj
      rw [hc1, ho, List.getElem?_eq_getElem (by omega)] at h3
      obtain ⟨z, hz, hw⟩ := int_one hu h3
      refine ⟨z, ?_, hw⟩
      rw [hcell j hj]
      have : (cs'.drop j).take 1 = [cs'[j]'(by omega)] := by
        rw [List.drop_eq_getElem_cons (by omega)]; rfl
      rw [this] at hz
      rw [List.getElem?_eq_getElem (by omega)]
      simpa using hz
    obtain ⟨F, hF⟩ := Go.Deep.choose_lt (α := Nat → Int) one
    refine ⟨hcm, F, ⟨hlc, fun i hi => ?_⟩, fun i j hi hj => (hF i hi j hj).2⟩
    obtain ⟨b, off, spot⟩ := ad
    have h0 := (hF 0 (by omega) 0 hK).1
    have hspot : spot = none := by simpa [Addr.add] using World.cell?_spot h0
    subst hspot
    refine ⟨b, off, rfl, fun j hj => ?_⟩
    have h1 := (hF i hi j hj).1
    rw [Go.Deep.add_add, Go.WideShapes.add_plain] at h1
    rw [Nat.add_assoc]
    exact h1

theorem open_ils {t e : TypeId} {k : IntKind} {fuel : Nat} {a : Option Addr} {len cap : Nat} {x : DataW H × List MemPlace} (ht : P.underlying t = some (.slice e)) (he : P.underlying e = some (.int k)) (hc : P.cellsOf e = 1)
    (h : DataW.trod enc P w base (fun _ => true) held fuel t [.slice a len cap] = some x) :
    cap ≤ maxLen ∧ ∃ G : Nat → Int, Ils w k a len cap G ∧ ∀ i, i < len → (Lit.int k (G i)).wf = true := by
  rcases open_ints ht he hc h with ⟨hcs, _⟩ | ⟨ad, l, c, zs, hcs, _, hl, hm, hz, _, hcell, hwz⟩
  · simp at hcs
    obtain ⟨rfl, rfl, rfl⟩ := hcs
    exact ⟨Nat.zero_le _, fun _ => 0, ⟨Nat.le_refl _, fun i hi => by omega⟩, fun i hi => by omega⟩
  · simp at hcs
    obtain ⟨rfl, rfl, rfl⟩ := hcs
    simp at hz
    refine ⟨hm, fun i => zs.getD i 0, ⟨hl, fun i hi => ?_⟩, fun i hi => hwz _ ?_⟩
    · obtain ⟨b, off, rfl, hc'⟩ := ints_at hcell (by omega)
      exact ⟨b, off, rfl, hc' i (by omega)⟩
    · show zs.getD i 0 ∈ zs
      rw [List.getD_eq_getElem?_getD, List.getElem?_eq_getElem (by omega)]
      exact List.getElem_mem _
end
end Go.Proofs.Ytlakffjodlandaa
