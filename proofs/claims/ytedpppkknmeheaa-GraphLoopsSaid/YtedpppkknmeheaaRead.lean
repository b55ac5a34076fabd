/-
  How a slice of floats that came in is opened; how a law whose call writes nothing that was there is closed. Plain laws over any program. No condition.
-/
import Derived.Test.YtedpppkknmeheaaFlRow
import Derived.ProofKit
import Derived.OpenShut
import Derived.ChangeOld
import Derived.Below
import Derived.Deep.Slices
import Derived.Laws.Cover2
namespace Go.Proofs.Ytedpppkknmeheaa
open Go.ChangeShapes Go.WideShapes Go.ChangeAt Go.RowKit

section
variable {H : Type} {enc : TypeId × Value → H} {P : Program} {w : World} {base : Nat} {held : Bool}

theorem float_cell {t : TypeId} {k : FloatKind} {n : Nat} {v : Value} {x : DataW H × List MemPlace} (ht : P.underlying t = some (.float k)) (hd : DataW.trod enc P w base (fun _ => true) held n t [v] = some x) :
    ∃ b, v = .float k b ∧ (Lit.float k b).wf = true := by
  cases n with
  | zero => simp [DataW.trod] at hd
  | succ n =>
    simp only [DataW.trod, ht] at hd
    cases v <;> simp at hd
    exact ⟨_, by rw [hd.1.1], hd.1.2⟩

theorem open_floats {t e : TypeId} {fuel : Nat} {a : Option Addr} {len cap : Nat} {x : DataW H × List MemPlace} (ht : P.underlying t = some (.slice e)) (he : P.underlying e = some (.float .f64)) (hc : P.cellsOf e = 1)
    (h : DataW.trod enc P w base (fun _ => true) held fuel t [.slice a len cap] = some x) :
    cap ≤ maxLen ∧ ∃ xs : List Nat, Fl.Sl w a len cap xs ∧ ∀ n ∈ xs, n < 2 ^ 64 := by
  rcases Go.Deep.open_slice1 ht hc h with ⟨hcs, _⟩ | ⟨ad, l, c, m, n, V, D, Pl, hcs, _, hlc, hcm, hm, _, hcell⟩
  · simp at hcs
    obtain ⟨rfl, rfl, rfl⟩ := hcs
    exact ⟨Nat.zero_le _, [], ⟨rfl, Nat.le_refl _, .inl rfl⟩, by simp⟩
  · simp at hcs
    obtain ⟨rfl, rfl, rfl⟩ := hcs
    simp at hm
    subst hm
    obtain ⟨F, hF⟩ := Go.Deep.choose_lt (α := Nat) (n := m) (p := fun i b => w.cell? (ad.add i) = some (.float .f64 b) ∧ b < 2 ^ 64) (fun i hi => by
      obtain ⟨h1, h2⟩ := hcell i hi
      obtain ⟨b, hb, hw⟩ := float_cell he h2
      exact ⟨b, by rw [h1, hb], by simpa [Lit.wf] using hw⟩)
    refine ⟨hcm, (List.range len).map F, ⟨by simp, hlc, ?_⟩, ?_⟩
    · by_cases h0 : len = 0
      · exact .inl h0
      · right
        obtain ⟨b, off, spot⟩ := ad
        have hspot : spot = none := by simpa [Addr.add] using World.cell?_spot (hF 0 (by omega)).1
        subst hspot
        refine ⟨b, off, rfl, fun i hi => ?_⟩
        simp at hi
        rw [← Go.WideShapes.add_plain, (hF i (by omega)).1]
        simp [hi]
    · intro n hn
      simp at hn
      obtain ⟨i, hi, rfl⟩ := hn
      exact (hF i (by omega)).2

/-- A slice without an address has no room. -/
theorem open_room {t e : TypeId} {fuel : Nat} {a : Option Addr} {len cap : Nat} {x : DataW H × List MemPlace} (ht : P.underlying t = some (.slice e)) (h : DataW.trod enc P w base (fun _ => true) held fuel t [.slice a len cap] = some x) :
    a = none → cap = 0 := by
  rintro rfl
  rcases DataW.trod_slice ht h with ⟨hcs, _⟩ | ⟨ad, l, c, _, _, _, _, hcs, _⟩
  · simp at hcs
    exact hcs.2
  · simp at hcs

theorem open_isl {t e : TypeId} {k : IntKind} {fuel : Nat} {a : Option Addr} {len cap : Nat} {x : DataW H × List MemPlace} (ht : P.underlying t = some (.slice e)) (he : P.underlying e = some (.int k)) (hc : P.cellsOf e = 1)
    (h : DataW.trod enc P w base (fun _ => true) held fuel t [.slice a len cap] = some x) :
    cap ≤ maxLen ∧ ∃ zs : List Int, Isl w k a len cap zs ∧ ∀ n ∈ zs, (Lit.int k n).wf = true := by
  rcases open_ints ht he hc h with ⟨hcs, _⟩ | ⟨ad, l, c, zs, hcs, _, hl, hm, hz, _, hcell, hwz⟩
  · simp at hcs
    obtain ⟨rfl, rfl, rfl⟩ := hcs
    exact ⟨Nat.zero_le _, [], ⟨rfl, Nat.le_refl _, fun i hi => by omega⟩, by simp⟩
  · simp at hcs
    obtain ⟨rfl, rfl, rfl⟩ := hcs
    simp at hz
    refine ⟨hm, zs.take len, ⟨by simp; omega, hl, fun i hi => ?_⟩, fun n hn => hwz n (List.mem_of_mem_take hn)⟩
    obtain ⟨b, off, rfl, hc'⟩ := ints_at hcell (by omega)
    refine ⟨b, off, rfl, ?_⟩
    rw [hc' i (by omega)]
    simp [List.getD, hi]
end
end Go.Proofs.Ytedpppkknmeheaa
