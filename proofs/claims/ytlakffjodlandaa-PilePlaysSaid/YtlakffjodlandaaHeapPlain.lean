/-
  A heap in a row: what 'up' and 'down' keep. Plain laws: no program, no memory.
-/
namespace Go.Proofs.Ytlakffjodlandaa

/-- An item: its id, its rank, when it was pushed. -/
structure It where
  id : Int
  rank : Int
  at_ : Int
instance : Inhabited It := ⟨⟨0, 0, 0⟩⟩
/-- Does x come before y? -/
def lessB (x y : It) : Bool := if x.rank != y.rank then decide (y.rank < x.rank) else if x.id != y.id then decide (x.id < y.id) else decide (x.at_ < y.at_)
/-- y does not come before x. -/
def Bf (x y : It) : Prop := lessB y x = false

theorem bf_iff (x y : It) : Bf x y ↔ (y.rank < x.rank ∨ (y.rank = x.rank ∧ (x.id < y.id ∨ (x.id = y.id ∧ x.at_ ≤ y.at_)))) := by
  unfold Bf lessB
  by_cases h1 : y.rank = x.rank
  · by_cases h2 : y.id = x.id
    · simp [h1, h2]
    · simp [h1, h2]; omega
  · simp [h1]; omega
theorem Bf.trans {x y z : It} (h : Bf x y) (k : Bf y z) : Bf x z := by
  rw [bf_iff] at *; omega
theorem Bf.refl (x : It) : Bf x x := by rw [bf_iff]; omega
theorem bf_of_less {x y : It} (h : lessB x y = true) : Bf x y := by
  have : ¬ Bf y x := by unfold Bf; rw [h]; simp
  rw [bf_iff] at *; omega

/-- Positions i and j change places. -/
def sw (f : Nat → It) (i j : Nat) : Nat → It := fun k => if k = j then f i else if k = i then f j else f k

/-- What 'up' keeps: all but position j stands well. -/
def UpI (n : Nat) (f : Nat → It) (j : Nat) : Prop :=
  j < n ∧ (∀ k, 1 ≤ k → k < n → k ≠ j → Bf (f ((k - 1) / 2)) (f k)) ∧ (∀ k, 1 ≤ k → k < n → (k - 1) / 2 = j → 1 ≤ j → Bf (f ((j - 1) / 2)) (f k))
def HeapI (n : Nat) (f : Nat → It) : Prop := ∀ k, 1 ≤ k → k < n → Bf (f ((k - 1) / 2)) (f k)

theorem up_step {n : Nat} {f : Nat → It} {j : Nat} (h : UpI n f j) (hj : 1 ≤ j) (hl : lessB (f j) (f ((j - 1) / 2)) = true) : UpI n (sw f ((j - 1) / 2) j) ((j - 1) / 2) := by
  obtain ⟨hn, h1, h2⟩ := h
  have hb := bf_of_less hl
  refine ⟨by omega, fun k hk hkn hne => ?_, fun k hk hkn hp hi => ?_⟩
  · unfold sw
    by_cases hkj : k = j
    · subst hkj
      rw [if_pos rfl, if_neg (by omega), if_pos rfl]
      exact hb
    · rw [if_neg hkj, if_neg hne]
      by_cases hpj : (k - 1) / 2 = j
      · rw [if_pos hpj]; exact h2 k hk hkn hpj hj
      · rw [if_neg hpj]
        by_cases hpi : (k - 1) / 2 = (j - 1) / 2
        · rw [if_pos hpi]
          have := h1 k hk hkn hkj
          rw [hpi] at this
          exact hb.trans this
        · rw [if_neg hpi]; exact h1 k hk hkn hkj
  · unfold sw
    have hpp := h1 ((j - 1) / 2) hi (by omega) (by omega)
    rw [if_neg (show ¬ ((j - 1) / 2 - 1) / 2 = j by omega), if_neg (show ¬ ((j - 1) / 2 - 1) / 2 = (j - 1) / 2 by omega)]
    by_cases hkj : k = j
    · rw [if_pos hkj]; exact hpp
    · rw [if_neg hkj, if_neg (by omega)]
      have := h1 k hk hkn hkj
      rw [hp] at this
      exact hpp.trans this
theorem up_end {n : Nat} {f : Nat → It} {j : Nat} (h : UpI n f j) (hl : j = 0 ∨ lessB (f j) (f ((j - 1) / 2)) = false) : HeapI n f := by
  intro k hk hkn
  by_cases hkj : k = j
  · subst hkj
    rcases hl with h0 | h0
    · omega
    · exact h0
  · exact h.2.1 k hk hkn hkj

/-- What 'down' keeps, from position s on: all but position i stands well. -/
def DownI (s n : Nat) (f : Nat → It) (i : Nat) : Prop :=
  s ≤ i ∧ (∀ k, 1 ≤ k → k < n → s ≤ (k - 1) / 2 → (k - 1) / 2 ≠ i → Bf (f ((k - 1) / 2)) (f k)) ∧ (∀ k, 1 ≤ k → k < n → (k - 1) / 2 = i → 1 ≤ i → s ≤ (i - 1) / 2 → Bf (f ((i - 1) / 2)) (f k))
def HeapFrom (s n : Nat) (f : Nat → It) : Prop := ∀ k, 1 ≤ k → k < n → s ≤ (k - 1) / 2 → Bf (f ((k - 1) / 2)) (f k)

theorem down_step {s n : Nat} {f : Nat → It} {i j : Nat} (h : DownI s n f i) (hj : j = 2 * i + 1 ∨ j = 2 * i + 2) (hjn : j < n)
    (hmin : ∀ k, k < n → (k = 2 * i + 1 ∨ k = 2 * i + 2) → Bf (f j) (f k)) (hl : lessB (f j) (f i) = true) : DownI s n (sw f i j) j := by
  obtain ⟨hs, h1, h2⟩ := h
  have hb := bf_of_less hl
  refine ⟨by omega, fun k hk hkn hsk hne => ?_, fun k hk hkn hp hj1 hsj => ?_⟩
  · unfold sw
    rw [if_neg hne]
    by_cases hpi : (k - 1) / 2 = i
    · rw [if_pos hpi]
      by_cases hkj : k = j
      · rw [if_pos hkj]; exact hb
      · rw [if_neg hkj, if_neg (by omega)]
        exact hmin k hkn (by omega)
    · rw [if_neg hpi, if_neg (show ¬ k = j by omega)]
      by_cases hki : k = i
      · subst hki
        rw [if_pos rfl]
        exact h2 j (by omega) hjn (by omega) hk hsk
      · rw [if_neg hki]; exact h1 k hk hkn hsk hpi
  · unfold sw
    rw [show (j - 1) / 2 = i by omega, if_neg (show ¬ i = j by omega), if_pos rfl, if_neg (show ¬ k = j by omega), if_neg (show ¬ k = i by omega)]
    have := h1 k hk hkn (by omega) (by omega)
    rwa [hp] at this
theorem down_end {s n : Nat} {f : Nat → It} {i : Nat} (h : DownI s n f i) (hl : ∀ k, k < n → (k = 2 * i + 1 ∨ k = 2 * i + 2) → Bf (f i) (f k)) : HeapFrom s n f := by
  intro k hk hkn hsk
  by_cases hpi : (k - 1) / 2 = i
  · rw [hpi]; exact hl k hkn (by omega)
  · exact h.2.1 k hk hkn hsk hpi
theorem down_begin {s n : Nat} {f : Nat → It} (h : HeapFrom (s + 1) n f) : DownI s n f s :=
  ⟨Nat.le_refl _, fun k hk hkn hsk hne => h k hk hkn (by omega), fun k hk hkn hp hs1 hss => by omega⟩
theorem heap_of_from {n : Nat} {f : Nat → It} (h : HeapFrom 0 n f) : HeapI n f := fun k hk hkn => h k hk hkn (Nat.zero_le _)
theorem from_half {s n : Nat} {f : Nat → It} (h : n / 2 ≤ s) : HeapFrom s n f := fun k hk hkn hsk => by omega

/-- The first of a heap is the best. -/
theorem heap_first {n : Nat} {f : Nat → It} (h : HeapI n f) : ∀ k, k < n → Bf (f 0) (f k) := by
  intro k
  induction k using Nat.strongRecOn with
  | _ k ih =>
    intro hk
    by_cases h0 : k = 0
    · subst h0; exact Bf.refl _
    · exact (ih ((k - 1) / 2) (by omega) (by omega)).trans (h k (by omega) hk)

/-! ### The same of lists -/
def fn (xs : List It) : Nat → It := fun k => xs.getD k default
def swl (xs : List It) (i j : Nat) : List It := (xs.set i (fn xs j)).set j (fn xs i)
theorem length_swl (xs : List It) (i j : Nat) : (swl xs i j).length = xs.length := by simp [swl]
theorem fn_swl (xs : List It) (i j : Nat) (hi : i < xs.length) (hj : j < xs.length) : fn (swl xs i j) = sw (fn xs) i j := by
  funext k
  unfold swl
  by_cases h1 : k = j
  · subst h1
    simp [fn, sw, List.getD, hj]
  · by_cases h2 : k = i
    · subst h2
      simp [fn, sw, List.getD, h1, hi, Ne.symm h1]
    · simp [fn, sw, List.getD, h1, h2, Ne.symm h1, Ne.symm h2]
theorem perm_swl (xs : List It) (i j : Nat) (hi : i < xs.length) (hj : j < xs.length) : (swl xs i j).Perm xs := by
  have h := List.set_set_perm (as := xs) hi hj
  unfold swl fn
  simpa [List.getD, hi, hj] using h
theorem fn_get (xs : List It) (k : Nat) (h : k < xs.length) : fn xs k = xs[k] := by simp [fn, h]
theorem fn_append_left (xs ys : List It) (k : Nat) (h : k < xs.length) : fn (xs ++ ys) k = fn xs k := by simp [fn, List.getD, List.getElem?_append_left h]
theorem heap_congr {n : Nat} {f g : Nat → It} (h : HeapI n f) (e : ∀ k, k < n → f k = g k) : HeapI n g := fun k hk hkn => by
  rw [← e k hkn, ← e _ (by omega)]; exact h k hk hkn

end Go.Proofs.Ytlakffjodlandaa
