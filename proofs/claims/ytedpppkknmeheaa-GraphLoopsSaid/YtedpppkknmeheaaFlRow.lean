/-
  Rows of floats in memory: plain words and laws. No condition; no function of the program.
-/
import Derived.Test.YtedpppkknmeheaaFl
import Derived.OwnWalk
import Derived.Laws.AppendOwn
import Derived.ChangeSlices
namespace Go.Proofs.Ytedpppkknmeheaa
open Go.RowKit
namespace Fl
/-- A float, or a NaN, and the world but for some draws. -/
def Gives (c : Option Nat) (w : World) (e : Ending) (w' : World) : Prop := ∃ r n, e = .returned (.float .f64 r) ∧ can r = c ∧ w.drewN n = w'
/-- The cells of a row of floats. -/
def Row (w : World) (b off : Nat) (xs : List Nat) : Prop := ∀ i, i < xs.length → w.cell? ⟨b, off + i, none⟩ = some (.float .f64 (xs.getD i 0))
theorem Row.take {w : World} {b off : Nat} {xs : List Nat} (h : Row w b off xs) (n : Nat) : Row w b off (xs.take n) := by
  intro i hi
  rw [List.length_take] at hi
  rw [h i (by omega)]
  simp [List.getD, show i < n from by omega]
theorem Row.drop {w : World} {b off : Nat} {xs : List Nat} (h : Row w b off xs) (n : Nat) : Row w b (off + n) (xs.drop n) := by
  intro i hi
  rw [List.length_drop] at hi
  rw [Nat.add_assoc, h (n + i) (by omega)]
  simp [List.getD, List.getElem?_drop]
theorem Row_alloc (w : World) (b : Nat) (hb : b = w.heap.size) (xs : List Nat) (t : TypeId) (cs : Array Value) (hc : cs.toList = xs.map (Value.float .f64)) : Row (w.alloc (.cells cs t)) b 0 xs := by
  subst hb
  intro i hi
  rw [World.cell?_alloc_new, ← Array.getElem?_toList, hc]
  simp [List.getD, hi]
theorem Row_drew {w : World} {b off : Nat} {xs : List Nat} (n : Nat) (h : Row w b off xs) : Row (w.drewN n) b off xs := h
theorem below_drewN {B : Nat} {a w : World} (h : Below B a w) (n : Nat) : Below B a (w.drewN n) := ⟨h.os, h.tape, h.output, h.size, h.block⟩
/-- What is known of a slice of floats: its numbers. -/
def Sl (w : World) (a : Option Addr) (len cap : Nat) (xs : List Nat) : Prop :=
  xs.length = len ∧ len ≤ cap ∧ (len = 0 ∨ ∃ b off, a = some ⟨b, off, none⟩ ∧ Row w b off xs)
theorem Row.later {w w' : World} {b off : Nat} {xs : List Nat} (h : Row w b off xs) (hb : Below w.heap.size w w') : Row w' b off xs :=
  fun i hi => cell_later hb (h i hi)
theorem Sl.later {w w' : World} {a : Option Addr} {len cap : Nat} {xs : List Nat} (h : Sl w a len cap xs) (hb : Below w.heap.size w w') : Sl w' a len cap xs :=
  ⟨h.1, h.2.1, h.2.2.imp id fun ⟨b, off, ha, hr⟩ => ⟨b, off, ha, hr.later hb⟩⟩
theorem Sl.at {w : World} {a : Option Addr} {len cap : Nat} {xs : List Nat} (h : Sl w a len cap xs) {k : Nat} (hk : k < len) :
    ∃ b off, a = some ⟨b, off, none⟩ ∧ w.cell? ⟨b, off + k, none⟩ = some (.float .f64 (xs.getD k 0)) := by
  obtain ⟨hl, _, rfl | ⟨b, off, rfl, hr⟩⟩ := h
  · omega
  · exact ⟨b, off, rfl, hr k (by omega)⟩
/-- A row of floats of the call's own reads as its numbers. -/
theorem Sl_of_own {w : World} {base : Nat} {e : TypeId} {v : Value} {n : Nat} {xs : List Nat} (h : w.ownsRow base e 1 v n (xs.map (Value.float .f64))) :
    ∃ a cap, v = .slice a n cap ∧ Sl w a n cap xs := by
  have hl : xs.length = n := by simpa using h.1
  rcases h.2 with ⟨rfl, rfl⟩ | ⟨g, cap, cur, rfl, _, hg, hn, _, hs, ht⟩
  · exact ⟨none, 0, rfl, hl, Nat.le_refl _, .inl rfl⟩
  · refine ⟨_, cap, rfl, hl, hn, .inr ⟨g, 0, rfl, fun i hi => ?_⟩⟩
    rw [Nat.zero_add]
    have hc := h.cells (g := g) rfl i (.float .f64 (xs.getD i 0)) (by simp [hi])
    rwa [Go.WideShapes.add_plain, Nat.zero_add] at hc
end Fl

/-- What is known of a slice of integers: its numbers. -/
def Isl (w : World) (k : IntKind) (a : Option Addr) (len cap : Nat) (zs : List Int) : Prop :=
  zs.length = len ∧ len ≤ cap ∧ ∀ i, i < len → ∃ b off, a = some ⟨b, off, none⟩ ∧ w.cell? ⟨b, off + i, none⟩ = some (.int k (zs.getD i 0))
theorem Isl.later {w w' : World} {k : IntKind} {a : Option Addr} {len cap : Nat} {zs : List Int} (h : Isl w k a len cap zs) (hb : Below w.heap.size w w') : Isl w' k a len cap zs :=
  ⟨h.1, h.2.1, fun i hi => let ⟨b, off, ha, hc⟩ := h.2.2 i hi; ⟨b, off, ha, cell_later hb hc⟩⟩
end Go.Proofs.Ytedpppkknmeheaa
