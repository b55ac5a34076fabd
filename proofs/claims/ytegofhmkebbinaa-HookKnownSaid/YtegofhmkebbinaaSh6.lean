/-
  A tensor of the call's own that is written number by number. No condition.
-/
import Derived.Test.YtegofhmkebbinaaSh5
namespace Go.Proofs.Ytegofhmkebbinaa
open Go.RowKit

theorem run_store_float {P : Program} {w : World} {a : Addr} {m : Mode} (b : Nat) : (store a (.float .f64 b) m).run P w = stored P w a (.float .f64 b) m := run_store P w a _ m rfl
section
variable {B : Nat} {w w' : World} {a : Option Addr} {g n c m d : Nat} {S : List Int} {D : List Nat}
/-- A number of it is written. -/
theorem Ten.store (t : Ten B w a n c (some ⟨g, 0, none⟩) m d S D) (k r : Nat) : Ten B (w.setCell ⟨g, k, none⟩ (.float .f64 r)) a n c (some ⟨g, 0, none⟩) m d S (D.set k r) := by
  have t2 : w.ownsRow B 43 1 (.slice (some ⟨g, 0, none⟩) m d) m (fvs D) := t.2
  have h := (World.ownsRow.stored t2 k (.float .f64 r)).1
  refine ⟨row_keep t.1 fun g' c' _ hg' => Below.heap_setCell _ _ _ _ (fun e => ?_), ?_⟩
  · have e' : g' = g := e
    subst e'
    rcases t2.2 with ⟨h', _⟩ | ⟨g2, cap, cur, h', _, hg2, _⟩
    · cases h'
    · injection h' with h1
      injection h1 with h1
      injection h1 with h1
      subst h1
      rw [hg'] at hg2
      injection hg2 with h2
      injection h2 with _ h3
      exact absurd h3 (by decide)
  · show World.ownsRow _ B _ 1 _ m (fvs (D.set k r))
    have e : fvs (D.set k r) = (fvs D).set k (.float .f64 r) := by simp [fvs, List.map_set]
    rw [e]; exact h
theorem Ten.cell (t : Ten B w a n c (some ⟨g, 0, none⟩) m d S D) {k : Nat} (hk : k < m) : w.cell? ⟨g, k, none⟩ = some (.float .f64 (D.getD k 0)) ∧ w.frozen? ⟨g, k, none⟩ = false := by
  obtain ⟨b, off, e, h⟩ := t.sl.at hk
  have h2 := World.ownsRow.frozenAt (show w.ownsRow B 43 1 (.slice (some ⟨g, 0, none⟩) m d) m (fvs D) from t.2) k
  cases e
  rw [Nat.zero_add] at h
  exact ⟨h, h2⟩
end
/-- The first k numbers are what g makes of them; the rest stands as it stood. -/
def Upto (g : Option Nat → Option Nat) (D D' : List Nat) (k : Nat) : Prop :=
  D'.length = D.length ∧ (∀ j, j < k → Fl.can (D'.getD j 0) = g (Fl.can (D.getD j 0))) ∧ ∀ j, k ≤ j → D'.getD j 0 = D.getD j 0
theorem upto_start (g : Option Nat → Option Nat) (D : List Nat) : Upto g D D 0 := ⟨rfl, fun j hj => by omega, fun _ _ => rfl⟩
theorem upto_step {g : Option Nat → Option Nat} {D D' : List Nat} {k r : Nat} (h : Upto g D D' k) (hk : k < D.length) (hr : Fl.can r = g (Fl.can (D.getD k 0))) : Upto g D (D'.set k r) (k + 1) := by
  obtain ⟨h1, h2, h3⟩ := h
  refine ⟨by simpa using h1, fun j hj => ?_, fun j hj => ?_⟩
  · by_cases e : j = k
    · subst e
      rw [List.getD_eq_getElem?_getD, List.getElem?_set_self (by omega)]
      exact hr
    · rw [List.getD_eq_getElem?_getD, List.getElem?_set_ne (fun e' => e e'.symm), ← List.getD_eq_getElem?_getD]
      exact h2 j (by omega)
  · rw [List.getD_eq_getElem?_getD, List.getElem?_set_ne (by omega), ← List.getD_eq_getElem?_getD]
    exact h3 j (by omega)
theorem upto_end {g : Option Nat → Option Nat} {D D' : List Nat} (h : Upto g D D' D.length) : D'.map Fl.can = (D.map Fl.can).map g := by
  obtain ⟨h1, h2, _⟩ := h
  refine List.ext_getElem (by simp [h1]) fun i hi _ => ?_
  simp only [List.getElem_map]
  rw [List.length_map] at hi
  have := h2 i (by omega)
  rw [List.getD_eq_getElem?_getD, List.getD_eq_getElem?_getD, List.getElem?_eq_getElem hi, List.getElem?_eq_getElem (by omega)] at this
  exact this
end Go.Proofs.Ytegofhmkebbinaa
