/-
  The document's way to reckon a graph's work: row after row of who is called at each depth, then sums cut at 2^20. Plain laws: no program, no memory, no condition.
-/
import Derived.Test.YtedpppkknmeheaaGB
namespace Go.Proofs.Ytedpppkknmeheaa
open Go.RowKit
namespace Wk
variable {n : Nat} {LN : Nat → Nat} {CS : Nat → List Int}
theorem Lv.lt {g : Nat} (hg : g < n) (hv : ∀ x, x < n → Vl n CS x) : ∀ {k x}, Lv CS g k x → x < n
  | 0, x, e => by cases e; exact hg
  | k + 1, x, ⟨y, hy, hx⟩ => by
    have := hv y (Lv.lt hg hv hy) x hx
    omega
theorem all_closed {g : Nat} (hg : g < n) (hv : ∀ x, x < n → Vl n CS x) : Closed n CS g := fun x ⟨_, hk⟩ => hv x (hk.lt hg hv)

/-- Within depth d, before graph i. -/
structure Row (n : Nat) (CS : Nat → List Int) (g d i : Nat) (al nx : Nat → Bool) (sm : Bool) : Prop where
  all : ∀ j, j < n → (al j = true ↔ (∃ k, k < d ∧ Lv CS g k j) ∨ (j < i ∧ Lv CS g d j))
  next : ∀ j, j < n → (nx j = true ↔ ∃ x, x < i ∧ Lv CS g d x ∧ (j : Int) ∈ CS x)
  some : sm = true ↔ ∃ x, x < i ∧ Lv CS g d x ∧ CS x ≠ []
/-- Within graph i's nodes: those before k call cl. -/
structure Cell (n : Nat) (CS : Nat → List Int) (g d i : Nat) (cl : List Int) (nx : Nat → Bool) (sm : Bool) : Prop where
  next : ∀ j, j < n → (nx j = true ↔ (∃ x, x < i ∧ Lv CS g d x ∧ (j : Int) ∈ CS x) ∨ (j : Int) ∈ cl)
  some : sm = true ↔ (∃ x, x < i ∧ Lv CS g d x ∧ CS x ≠ []) ∨ cl ≠ []
/-- Before depth d. -/
structure Dep (n : Nat) (CS : Nat → List Int) (g d : Nat) (a al : Nat → Bool) (dp : Bool) : Prop where
  at' : ∀ j, j < n → (a j = true ↔ Lv CS g d j)
  all : ∀ j, j < n → (al j = true ↔ ∃ k, k < d ∧ Lv CS g k j)
  deep : dp = true ↔ ∃ k, 8 ≤ k ∧ k < d ∧ ∃ x, Lv CS g (k + 1) x
theorem Dep.start (g : Nat) : Dep n CS g 0 (fun j => if j = g then true else false) (fun _ => false) false := by
  refine ⟨fun j _ => ?_, fun j _ => ?_, ?_⟩
  · by_cases e : j = g
    · simp [e, Lv]
    · simp [e, Lv]; exact fun h => e h.symm
  · simp
  · simp
theorem Row.start {g d : Nat} {a al : Nat → Bool} {dp : Bool} (h : Dep n CS g d a al dp) : Row n CS g d 0 al (fun _ => false) false := by
  refine ⟨fun j hj => ?_, fun j _ => by simp, by simp⟩
  rw [h.all j hj]
  simp
theorem Row.all_set {g d i : Nat} {a al nx : Nat → Bool} {dp sm : Bool} {al0 : Nat → Bool} (hd : Dep n CS g d a al0 dp) (h : Row n CS g d i al nx sm) (hi : i < n) :
    ∀ j, j < n → ((fun j => if j = i then (al i || a i) else al j) j = true ↔ (∃ k, k < d ∧ Lv CS g k j) ∨ (j < i + 1 ∧ Lv CS g d j)) := by
  intro j hj
  by_cases e : j = i
  · subst e
    simp only [if_pos, Bool.or_eq_true]
    rw [h.all j hj, hd.at' j hj]
    constructor
    · rintro ((h | h) | h)
      · exact .inl h
      · exact .inr ⟨by omega, h.2⟩
      · exact .inr ⟨by omega, h⟩
    · rintro (h | h)
      · exact .inl (.inl h)
      · exact .inr h.2
  · simp only [if_neg e]
    rw [h.all j hj]
    constructor
    · rintro (h | h)
      · exact .inl h
      · exact .inr ⟨by omega, h.2⟩
    · rintro (h | h)
      · exact .inl h
      · exact .inr ⟨by omega, h.2⟩
theorem Cell.start {g d i : Nat} {al nx : Nat → Bool} {sm : Bool} (h : Row n CS g d i al nx sm) : Cell n CS g d i [] nx sm :=
  ⟨fun j hj => by rw [h.next j hj]; simp, by rw [h.some]; simp⟩
theorem Cell.more {g d i : Nat} {cl : List Int} {nx : Nat → Bool} {sm : Bool} (h : Cell n CS g d i cl nx sm) (c : Nat) : Cell n CS g d i (cl ++ [(c : Int)]) (fun j => if j = c then true else nx j) true := by
  refine ⟨fun j hj => ?_, by simp⟩
  by_cases e : j = c
  · simp [e]
  · simp only [if_neg e]
    rw [h.next j hj]
    simp
    constructor
    · rintro (h | h)
      · exact .inl h
      · exact .inr (.inl h)
    · rintro (h | h | h)
      · exact .inl h
      · exact .inr h
      · omega
/-- At the end of graph i, which is called at this depth. -/
theorem Row.yes {g d i : Nat} {a al nx nx0 al0 : Nat → Bool} {dp sm sm0 : Bool} (hd : Dep n CS g d a al0 dp) (h : Row n CS g d i al nx0 sm0) (hi : i < n) (ha : a i = true) (hc : Cell n CS g d i (CS i) nx sm) :
    Row n CS g d (i + 1) (fun j => if j = i then (al i || a i) else al j) nx sm := by
  have hL := (hd.at' i hi).1 ha
  refine ⟨Row.all_set hd h hi, fun j hj => ?_, ?_⟩
  · rw [hc.next j hj]
    constructor
    · rintro (⟨x, h1, h2, h3⟩ | h)
      · exact ⟨x, by omega, h2, h3⟩
      · exact ⟨i, by omega, hL, h⟩
    · rintro ⟨x, h1, h2, h3⟩
      by_cases e : x = i
      · subst e; exact .inr h3
      · exact .inl ⟨x, by omega, h2, h3⟩
  · rw [hc.some]
    constructor
    · rintro (⟨x, h1, h2, h3⟩ | h)
      · exact ⟨x, by omega, h2, h3⟩
      · exact ⟨i, by omega, hL, h⟩
    · rintro ⟨x, h1, h2, h3⟩
      by_cases e : x = i
      · subst e; exact .inr h3
      · exact .inl ⟨x, by omega, h2, h3⟩
theorem Row.no {g d i : Nat} {a al nx al0 : Nat → Bool} {dp sm : Bool} (hd : Dep n CS g d a al0 dp) (h : Row n CS g d i al nx sm) (hi : i < n) (ha : a i = false) :
    Row n CS g d (i + 1) (fun j => if j = i then (al i || a i) else al j) nx sm := by
  have hL : ¬ Lv CS g d i := fun e => by rw [(hd.at' i hi).2 e] at ha; cases ha
  refine ⟨Row.all_set hd h hi, fun j hj => ?_, ?_⟩
  · rw [h.next j hj]
    constructor
    · rintro ⟨x, h1, h2, h3⟩; exact ⟨x, by omega, h2, h3⟩
    · rintro ⟨x, h1, h2, h3⟩
      exact ⟨x, by by_cases e : x = i; (subst e; exact absurd h2 hL); omega, h2, h3⟩
  · rw [h.some]
    constructor
    · rintro ⟨x, h1, h2, h3⟩; exact ⟨x, by omega, h2, h3⟩
    · rintro ⟨x, h1, h2, h3⟩
      exact ⟨x, by by_cases e : x = i; (subst e; exact absurd h2 hL); omega, h2, h3⟩
theorem Dep.more {g d : Nat} {a al al0 nx : Nat → Bool} {dp sm : Bool} (hg : g < n) (hv : ∀ x, x < n → Vl n CS x) (hd : Dep n CS g d a al0 dp) (h : Row n CS g d n al nx sm) : Dep n CS g (d + 1) nx al (dp || (sm && decide (8 ≤ d))) := by
  refine ⟨fun j hj => ?_, fun j hj => ?_, ?_⟩
  · rw [h.next j hj]
    constructor
    · rintro ⟨x, _, h2, h3⟩; exact ⟨x, h2, h3⟩
    · rintro ⟨x, h2, h3⟩; exact ⟨x, h2.lt hg hv, h2, h3⟩
  · rw [h.all j hj]
    constructor
    · rintro (⟨k, h1, h2⟩ | ⟨_, h2⟩)
      · exact ⟨k, by omega, h2⟩
      · exact ⟨d, by omega, h2⟩
    · rintro ⟨k, h1, h2⟩
      by_cases e : k = d
      · subst e; exact .inr ⟨hj, h2⟩
      · exact .inl ⟨k, by omega, h2⟩
  · rw [Bool.or_eq_true, Bool.and_eq_true, decide_eq_true_eq, hd.deep, h.some]
    constructor
    · rintro (⟨k, h1, h2, h3⟩ | ⟨⟨x, _, h2, h3⟩, h4⟩)
      · exact ⟨k, h1, by omega, h3⟩
      · obtain ⟨c, hc⟩ := List.exists_mem_of_ne_nil _ h3
        have hc0 := hv x (h2.lt hg hv) c hc
        exact ⟨d, h4, by omega, c.toNat, x, h2, by rwa [Int.toNat_of_nonneg hc0.1]⟩
    · rintro ⟨k, h1, h2, x, y, hy, hx⟩
      by_cases e : k = d
      · subst e
        exact .inr ⟨⟨y, hy.lt hg hv, hy, List.ne_nil_of_mem hx⟩, h1⟩
      · exact .inl ⟨k, h1, by omega, x, y, hy, hx⟩
theorem Dep.deep_iff {g d : Nat} {a al : Nat → Bool} {dp : Bool} (h : Dep n CS g d a al dp) (hd : 9 ≤ d) : dp = true ↔ ¬ NP CS 9 g := by
  rw [h.deep]
  constructor
  · rintro ⟨k, h1, _, x, hx⟩ hn
    exact hn.mono (j := k + 1) (by omega) x hx
  · intro hn
    have ⟨x, hx⟩ := Classical.not_forall.1 hn
    exact ⟨8, by omega, by omega, x, Classical.not_not.1 hx⟩
theorem Dep.reached {g d : Nat} {a al : Nat → Bool} {dp : Bool} (h : Dep n CS g d a al dp) (hd : 9 ≤ d) (hn : NP CS 9 g) : ∀ j, j < n → (al j = true ↔ Rc CS g j) := by
  intro j hj
  rw [h.all j hj]
  constructor
  · rintro ⟨k, _, hk⟩; exact ⟨k, hk⟩
  · rintro ⟨k, hk⟩
    refine ⟨k, ?_, hk⟩
    by_cases e : k < 9
    · omega
    · exact absurd hk (hn.mono (by omega) j)

/-! ### the sums -/
def M : Nat := 1048576
/-- What is reckoned for a graph that is reached: the sum, cut. -/
def Cut (v t : Nat) : Prop := min v 1048576 = min t 1048576
structure Sums (n : Nat) (LN : Nat → Nat) (CS : Nat → List Int) (al : Nat → Bool) (d i : Nat) (m : Nat → Nat) : Prop where
  done : ∀ j, j < i → al j = true → Cut (m j) (W LN CS d j)
  rest : ∀ j, j < n → i ≤ j → m j = 0
  few : ∀ j, j < n → m j ≤ 2097152
theorem Sums.start {al : Nat → Bool} {d : Nat} : Sums n LN CS al d 0 (fun _ => 0) := ⟨fun _ h => absurd h (Nat.not_lt_zero _), fun _ _ _ => rfl, fun _ _ => Nat.zero_le _⟩
theorem Sums.zero {al : Nat → Bool} : Sums n LN CS al 0 n (fun _ => 0) := ⟨fun _ _ _ => rfl, fun _ _ _ => rfl, fun _ _ => Nat.zero_le _⟩
theorem Sums.set {al : Nat → Bool} {d i : Nat} {m : Nat → Nat} {v : Nat} (h : Sums n LN CS al d i m) (hv : al i = true → Cut v (W LN CS d i)) (hf : v ≤ 2097152) : Sums n LN CS al d (i + 1) (fun j => if j = i then v else m j) := by
  refine ⟨fun j hj ha => ?_, fun j hj hi => ?_, fun j hj => ?_⟩
  · by_cases e : j = i
    · subst e; simp only [if_pos]; exact hv ha
    · simp only [if_neg e]; exact h.done j (by omega) ha
  · rw [if_neg (by omega)]; exact h.rest j hj (by omega)
  · show (if j = i then v else m j) ≤ _
    split
    · exact hf
    · exact h.few j hj
theorem Sums.skip {al : Nat → Bool} {d i : Nat} {m : Nat → Nat} (h : Sums n LN CS al d i m) (ha : al i = false) : Sums n LN CS al d (i + 1) m :=
  ⟨fun j hj hj2 => by
    by_cases e : j = i
    · subst e; rw [ha] at hj2; cases hj2
    · exact h.done j (by omega) hj2, fun j hj hi => h.rest j hj (by omega), h.few⟩
/-- Within a graph's nodes: k of them, those that they call cl, v reckoned. -/
def Sum1 (LN : Nat → Nat) (CS : Nat → List Int) (d k : Nat) (cl : List Int) (v : Nat) : Prop := Cut v (k + (cl.map fun c => W LN CS d c.toNat).sum) ∧ v ≤ 1048576 + k
theorem Sum1.start {d : Nat} : Sum1 LN CS d 0 [] 0 := ⟨rfl, by omega⟩
theorem Sum1.plain {d k v : Nat} {cl : List Int} (h : Sum1 LN CS d k cl v) : Sum1 LN CS d (k + 1) cl (v + 1) := by
  obtain ⟨h1, h2⟩ := h
  unfold Sum1 Cut at *
  refine ⟨?_, by omega⟩
  omega
theorem Sum1.call {d k v mc c : Nat} {cl : List Int} (h : Sum1 LN CS d k cl v) (hm : Cut mc (W LN CS d c)) : Sum1 LN CS d (k + 1) (cl ++ [(c : Int)]) (min (v + 1 + mc) 1048576) := by
  obtain ⟨h1, h2⟩ := h
  unfold Sum1 Cut at *
  rw [List.map_append, List.sum_append]
  simp only [List.map_cons, List.map_nil, List.sum_cons, List.sum_nil, Int.toNat_natCast]
  refine ⟨?_, by omega⟩
  omega
theorem Sum1.whole {d i v : Nat} (h : Sum1 LN CS d (LN i) (CS i) v) (hl : LN i ≤ 1048576) : Cut v (W LN CS (d + 1) i) ∧ v ≤ 2097152 := ⟨h.1, by have := h.2; omega⟩
theorem told_sum {g : Nat} {m : Nat → Nat} {al : Nat → Bool} (hg : g < n) (hc : Closed n CS g) (hn : NP CS 9 g) (ha : al g = true) (h : Sums n LN CS al 10 n m) : Cut (m g) (W LN CS 9 g) := by
  have h1 := h.done g hg ha
  rwa [W_stable hc hn (show 9 ≤ 10 by omega)] at h1
theorem work_deep {g : Nat} (hg : g < n) (hc : Closed n CS g) (hn : ¬ NP CS 9 g) : work n LN CS g = (0, 9) := by
  unfold work
  rw [if_neg (by rw [Int.toNat_natCast]; intro h; rcases h with h | h | h; · omega
                 · omega
                 · exact h hc), if_pos (by rwa [Int.toNat_natCast])]
theorem work_big {g v : Nat} (hg : g < n) (hc : Closed n CS g) (hn : NP CS 9 g) (hv : Cut v (W LN CS 9 g)) (hb : 4096 < v) : work n LN CS g = (0, 10) := by
  unfold work
  unfold Cut at hv
  rw [if_neg (by rw [Int.toNat_natCast]; intro h; rcases h with h | h | h; · omega
                 · omega
                 · exact h hc), if_neg (by rw [Int.toNat_natCast]; exact fun h => h hn), if_pos (by rw [Int.toNat_natCast]; omega)]
theorem work_well {g v : Nat} (hg : g < n) (hc : Closed n CS g) (hn : NP CS 9 g) (hv : Cut v (W LN CS 9 g)) (hb : ¬ 4096 < v) : work n LN CS g = ((v : Int), 0) := by
  unfold work
  unfold Cut at hv
  have e : W LN CS 9 g = v := by omega
  rw [if_neg (by rw [Int.toNat_natCast]; intro h; rcases h with h | h | h; · omega
                 · omega
                 · exact h hc), if_neg (by rw [Int.toNat_natCast]; exact fun h => h hn), if_neg (by rw [Int.toNat_natCast]; omega), Int.toNat_natCast, e]
end Wk
end Go.Proofs.Ytedpppkknmeheaa
