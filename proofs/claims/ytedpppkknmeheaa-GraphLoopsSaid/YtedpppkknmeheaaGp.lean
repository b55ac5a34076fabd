/-
  Plain laws: a sorted list compacted; graphs that call each other: levels, what is reached, how much work it is. No program, no memory, no condition.
-/
import Derived.Lib.SlicesCompact
import Derived.RowKit
namespace Go.Proofs.Ytedpppkknmeheaa
namespace Wk

/-! ### sorted and compacted -/
theorem compact_upto {l : List Int} (hs : l.Pairwise (· ≤ ·)) : ∀ m, m ≤ l.length →
    (∀ x, x ∈ Lib.compactUpTo l.toArray m ↔ x ∈ l.take m) ∧ (Lib.compactUpTo l.toArray m).Pairwise (· < ·) := by
  intro m
  induction m with
  | zero => intro _; simp [Lib.compactUpTo]
  | succ m ih =>
    intro hm
    obtain ⟨h1, h2⟩ := ih (by omega)
    have hlt : m < l.length := by omega
    have hget : l.toArray[m]! = l[m] := by simp [hlt]
    have htake : l.take (m + 1) = l.take m ++ [l[m]] := by rw [List.take_succ_eq_append_getElem hlt]
    rw [Lib.compactUpTo_succ, htake]
    cases hk : Lib.keeps l.toArray m with
    | false =>
      have hm0 : m ≠ 0 := by intro e; subst e; simp [Lib.keeps] at hk
      have he : l.toArray[m]! = l.toArray[m - 1]! := by
        apply Classical.byContradiction
        intro h
        rw [Lib.keeps_pos h] at hk
        cases hk
      have hp : m - 1 < l.length := by omega
      have hget1 : l.toArray[m - 1]! = l[m - 1] := by simp [hp]
      rw [hget, hget1] at he
      simp only [Bool.false_eq_true, if_false, List.append_nil]
      refine ⟨fun x => ?_, h2⟩
      rw [h1, List.mem_append, List.mem_singleton]
      constructor
      · exact .inl
      · rintro (h | rfl)
        · exact h
        · rw [he]
          exact List.mem_iff_getElem.2 ⟨m - 1, by simp; omega, by simp⟩
    | true =>
      simp only [if_true, hget]
      refine ⟨fun x => by rw [List.mem_append, List.mem_append, h1], ?_⟩
      rw [List.pairwise_append]
      refine ⟨h2, by simp, fun a ha b hb => ?_⟩
      rw [List.mem_singleton] at hb
      subst hb
      have ha' := (h1 a).1 ha
      obtain ⟨i, hi, rfl⟩ := List.mem_iff_getElem.1 ha'
      rw [List.length_take] at hi
      have him : i < m := by omega
      have hm0 : m ≠ 0 := by omega
      have hp : m - 1 < l.length := by omega
      have hget1 : l.toArray[m - 1]! = l[m - 1] := by simp [hp]
      have hne : l[m] ≠ l[m - 1] := by
        intro e
        have : Lib.keeps l.toArray m = false := Lib.keeps_neg (by omega) (by rw [hget, hget1, e])
        rw [this] at hk; cases hk
      have hle1 : l[m - 1] ≤ l[m] := List.pairwise_iff_getElem.1 hs (m - 1) m (by omega) hlt (by omega)
      have hle2 : l[i]'(by omega) ≤ l[m - 1] := by
        by_cases e : i = m - 1
        · subst e; exact Int.le_refl _
        · exact List.pairwise_iff_getElem.1 hs i (m - 1) (by omega) (by omega) (by omega)
      have : (l.take m)[i]'(by rw [List.length_take]; omega) = l[i]'(by omega) := by simp
      rw [this]
      omega
theorem compact_sorted (l : List Int) (out : List Int) (h : out = Lib.compact (l.mergeSort fun x y => decide (x ≤ y))) : (∀ x, x ∈ out ↔ x ∈ l) ∧ out.Pairwise (· < ·) := by
  subst h
  have hs : (l.mergeSort fun x y => decide (x ≤ y)).Pairwise (· ≤ ·) := by
    have := List.pairwise_mergeSort (le := fun x y : Int => decide (x ≤ y)) (by intro a b c; simp; omega) (by intro a b; simp; omega) l
    simpa using this
  obtain ⟨h1, h2⟩ := compact_upto hs _ (Nat.le_refl _)
  refine ⟨fun x => ?_, h2⟩
  unfold Lib.compact
  rw [h1, List.take_length, List.mem_mergeSort]
theorem short_of {l : List Int} : ∀ {a n : Int}, l.Pairwise (· < ·) → (∀ x ∈ l, a ≤ x ∧ x < n) → (l.length : Int) ≤ n - a ∨ l = [] := by
  induction l with
  | nil => intro a n _ _; exact .inr rfl
  | cons y ys ih =>
    intro a n hp hb
    rw [List.pairwise_cons] at hp
    left
    have hy := hb y (by simp)
    rcases ih (a := y + 1) (n := n) hp.2 (fun x hx => ⟨by have := hp.1 x hx; omega, (hb x (by simp [hx])).2⟩) with h | h
    · simp; omega
    · subst h; simp; omega
theorem short {l : List Int} {n : Nat} (hp : l.Pairwise (· < ·)) (hb : ∀ x ∈ l, 0 ≤ x ∧ x < n) : l.length ≤ n := by
  rcases short_of hp hb with h | h
  · omega
  · subst h; simp

/-! ### levels -/
/-- A path of so many steps from g to x. -/
def Lv (CS : Nat → List Int) (g : Nat) : Nat → Nat → Prop
  | 0, x => g = x
  | k + 1, x => ∃ y, Lv CS g k y ∧ (x : Int) ∈ CS y
def Rc (CS : Nat → List Int) (g x : Nat) : Prop := ∃ k, Lv CS g k x
/-- All that x calls is there. -/
def Vl (n : Nat) (CS : Nat → List Int) (x : Nat) : Prop := ∀ c ∈ CS x, 0 ≤ c ∧ c < n
def Closed (n : Nat) (CS : Nat → List Int) (g : Nat) : Prop := ∀ x, Rc CS g x → Vl n CS x
def NP (CS : Nat → List Int) (k g : Nat) : Prop := ∀ x, ¬ Lv CS g k x
def W (LN : Nat → Nat) (CS : Nat → List Int) : Nat → Nat → Nat
  | 0, _ => 0
  | f + 1, x => LN x + ((CS x).map fun c => W LN CS f c.toNat).sum
def S (LN : Nat → Nat) (CS : Nat → List Int) (x : Nat) : Nat := min (W LN CS 9 x) 4097
open Classical in
/-- What Work tells. -/
noncomputable def work (n : Nat) (LN : Nat → Nat) (CS : Nat → List Int) (g : Int) : Int × Int :=
  if g < 0 ∨ (n : Int) ≤ g ∨ ¬ Closed n CS g.toNat then (0, 6) else if ¬ NP CS 9 g.toNat then (0, 9) else if 4096 < W LN CS 9 g.toNat then (0, 10) else (W LN CS 9 g.toNat, 0)

variable {n : Nat} {LN : Nat → Nat} {CS : Nat → List Int}
theorem Lv.head {g c : Nat} (h : (c : Int) ∈ CS g) : ∀ {k x}, Lv CS c k x → Lv CS g (k + 1) x
  | 0, x, e => by cases e; exact ⟨g, rfl, h⟩
  | k + 1, x, ⟨y, hy, hx⟩ => ⟨y, Lv.head h hy, hx⟩
theorem Lv.unhead {g : Nat} : ∀ {k x}, Lv CS g (k + 1) x → ∃ c : Nat, (c : Int) ∈ CS g ∧ Lv CS c k x
  | 0, x, ⟨y, e, hx⟩ => by cases e; exact ⟨x, hx, rfl⟩
  | k + 1, x, ⟨y, hy, hx⟩ => by
    obtain ⟨c, hc, hl⟩ := Lv.unhead hy
    exact ⟨c, hc, y, hl, hx⟩
theorem NP.down {k g c : Nat} (h : NP CS (k + 1) g) (hc : (c : Int) ∈ CS g) : NP CS k c := fun x hx => h x (hx.head hc)
theorem NP.mono {k j g : Nat} (h : NP CS k g) (hj : k ≤ j) : NP CS j g := by
  induction hj with
  | refl => exact h
  | step _ ih => intro x ⟨y, hy, _⟩; exact ih y hy
theorem NP.zero {g : Nat} : ¬ NP CS 0 g := fun h => h g rfl
theorem Rc.refl (g : Nat) : Rc CS g g := ⟨0, rfl⟩
theorem Rc.step {g x c : Nat} (h : Rc CS g x) (hc : (c : Int) ∈ CS x) : Rc CS g c := let ⟨k, hk⟩ := h; ⟨k + 1, x, hk, hc⟩
theorem Closed.here {g : Nat} (h : Closed n CS g) : Vl n CS g := h g (Rc.refl g)
theorem Closed.down {g c : Nat} (h : Closed n CS g) (hc : (c : Int) ∈ CS g) : Closed n CS c := fun x ⟨k, hk⟩ => h x ⟨k + 1, hk.head hc⟩
theorem bfs_end {g : Nat} {s : Nat → Prop} (h0 : s g) (hs : ∀ x, s x → ∀ c : Nat, (c : Int) ∈ CS x → s c) {x : Nat} (h : Rc CS g x) : s x := by
  obtain ⟨k, hk⟩ := h
  induction k generalizing x with
  | zero => cases hk; exact h0
  | succ k ih => obtain ⟨y, hy, hx⟩ := hk; exact hs y (ih hy) x hx
theorem map_sum_congr {l : List Int} {f h : Int → Nat} (e : ∀ c ∈ l, f c = h c) : (l.map f).sum = (l.map h).sum := by
  rw [List.map_congr_left e]
theorem W_stable {k : Nat} : ∀ {g f : Nat}, Closed n CS g → NP CS k g → k ≤ f → W LN CS f g = W LN CS k g := by
  induction k with
  | zero => intro g f _ h; exact absurd h NP.zero
  | succ k ih =>
    intro g f hc hn hf
    obtain ⟨f, rfl⟩ : ∃ f', f = f' + 1 := ⟨f - 1, by omega⟩
    unfold W
    congr 1
    refine map_sum_congr fun c hcm => ?_
    have h0 := (hc.here c hcm).1
    have hcm' : ((c.toNat : Nat) : Int) ∈ CS g := by rwa [Int.toNat_of_nonneg h0]
    exact ih (hc.down hcm') (hn.down hcm') (by omega)
theorem min_sum {M : Nat} {f : Int → Nat} : ∀ (l : List Int) (a : Nat), min (a + (l.map fun c => min (f c) M).sum) M = min (a + (l.map f).sum) M
  | [], a => by simp
  | c :: l, a => by
    have h := min_sum (M := M) (f := f) l (a + min (f c) M)
    have h2 := min_sum (M := M) (f := f) l (a + f c)
    simp only [List.map_cons, List.sum_cons]
    omega
/-- What sum reckons. -/
theorem S_step {k g : Nat} (hc : Closed n CS g) (hn : NP CS (k + 1) g) (hk : k + 1 ≤ 9) : S LN CS g = min (LN g + ((CS g).map fun c => S LN CS c.toNat).sum) 4097 := by
  unfold S
  rw [W_stable hc hn hk, min_sum (f := fun c => W LN CS 9 c.toNat)]
  show min (LN g + ((CS g).map fun c => W LN CS k c.toNat).sum) 4097 = _
  congr 2
  refine map_sum_congr fun c hcm => ?_
  have h0 := (hc.here c hcm).1
  have hcm' : ((c.toNat : Nat) : Int) ∈ CS g := by rwa [Int.toNat_of_nonneg h0]
  exact (W_stable (hc.down hcm') (hn.down hcm') (by omega)).symm
theorem S_le (x : Nat) : S LN CS x ≤ 4097 := Nat.min_le_right _ _
end Wk
end Go.Proofs.Ytedpppkknmeheaa
