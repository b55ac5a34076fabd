/-
  What more graphs behind change of the first error: a plain law. No program, no memory, no condition.
-/
import Derived.Test.YtedpppkknmeheaaG4
namespace Go.Proofs.Ytedpppkknmeheaa
open Go.RowKit

def firstN (e : Nat → Int) : Int := if e 0 ≠ 0 then e 0 else if e 1 ≠ 0 then e 1 else if e 2 ≠ 0 then e 2 else if e 3 ≠ 0 then e 3 else if e 4 ≠ 0 then e 4 else if e 5 ≠ 0 then e 5 else e 6
theorem firstN_more {e e' : Nat → Int} (h : ∀ j, j ≠ 3 → e' j = e j) (h3 : e 3 = 0 → e' 3 = 0) (h6 : e 3 = 0 ∨ e 3 = 6) : (firstN e = 0 → firstN e' = 0) ∧ (firstN e ≠ 0 → firstN e ≠ 6 → firstN e' = firstN e) := by
  unfold firstN
  rw [h 0 (by omega), h 1 (by omega), h 2 (by omega), h 4 (by omega), h 5 (by omega), h 6 (by omega)]
  by_cases e0 : e 0 = 0
  · by_cases e1 : e 1 = 0
    · by_cases e2 : e 2 = 0
      · by_cases e3 : e 3 = 0
        · simp [e0, e1, e2, e3, h3 e3]
        · have e36 : e 3 = 6 := h6.resolve_left e3
          simp [e0, e1, e2, e36]
      · simp [e0, e1, e2]
    · simp [e0, e1]
  · simp [e0]
theorem nodeE_first (L VL : Nat) (V : List (List Int)) (n : Nd) (i : Int) : nodeE L VL V n i = firstN (es L VL V n i) := rfl
theorem nodeE_more {L L' VL : Nat} {V : List (List Int)} {n : Nd} {i : Int} (hL : L ≤ L') : (nodeE L VL V n i = 0 → nodeE L' VL V n i = 0) ∧ (nodeE L VL V n i ≠ 0 → nodeE L VL V n i ≠ 6 → nodeE L' VL V n i = nodeE L VL V n i) := by
  rw [nodeE_first, nodeE_first]
  refine firstN_more (fun j hj => ?_) (fun h => ?_) ?_
  · rcases j with _ | _ | _ | _ | _ | _ | _ | j
    · rfl
    · rfl
    · rfl
    · exact absurd rfl hj
    · rfl
    · rfl
    · rfl
    · rfl
  · have hg : grB L' n = true → grB L n = true := by
      unfold grB
      rw [decide_eq_true_iff, decide_eq_true_iff]
      rintro ⟨h1, h2⟩
      exact ⟨h1, by omega⟩
    simp only [es] at h ⊢
    cases ha : n.ins.any (fun x => decide (x < 0)) with
    | true => rw [ha] at h; simp at h
    | false =>
      rw [ha] at h
      cases hb : grB L' n with
      | true => rw [hg hb] at h; simp at h
      | false => simp
  · simp only [es]
    cases (n.ins.any (fun x => decide (x < 0)) || grB L n) <;> simp
theorem bad_more {L L' VL : Nat} {V : List (List Int)} (hL : L ≤ L') : ∀ (l : List Nd) (i : Nat),
    (bad L VL V l i = none → bad L' VL V l i = none) ∧
    (∀ k e, bad L VL V l i = some (k, e) → e ≠ 0 ∧ i ≤ k ∧ (e ≠ 6 → bad L' VL V l i = some (k, e)) ∧ (e = 6 → bad L' VL V l i = none ∨ ∃ k' e', bad L' VL V l i = some (k', e') ∧ k ≤ k'))
  | [], i => by unfold bad; exact ⟨fun h => h, (fun k e h => by cases h)⟩
  | n :: l, i => by
    obtain ⟨h1, h2⟩ := bad_more hL l (i + 1)
    obtain ⟨m1, m2⟩ := nodeE_more (L := L) (L' := L') (VL := VL) (V := V) (n := n) (i := i) hL
    unfold bad
    by_cases hz : nodeE L VL V n i = 0
    · rw [if_pos hz, if_pos (m1 hz)]
      refine ⟨h1, fun k e h => ?_⟩
      obtain ⟨a, b, c, d⟩ := h2 k e h
      exact ⟨a, by omega, c, d⟩
    · rw [if_neg hz]
      refine ⟨(fun h => by cases h), fun k e h => ?_⟩
      cases h
      refine ⟨hz, Nat.le_refl _, fun h6 => ?_, fun h6 => ?_⟩
      · rw [if_neg (by rw [m2 hz h6]; exact hz), m2 hz h6]
      · by_cases hz' : nodeE L' VL V n i = 0
        · rw [if_pos hz']
          cases hb : bad L' VL V l (i + 1) with
          | none => exact .inl rfl
          | some p =>
            obtain ⟨k', e'⟩ := p
            refine .inr ⟨k', e', rfl, ?_⟩
            have := (bad_more (VL := VL) (V := V) (Nat.le_refl L') l (i + 1)).2 k' e' hb
            omega
        · rw [if_neg hz']
          exact .inr ⟨i, _, rfl, Nat.le_refl _⟩
theorem chk_ge (L VL : Nat) (V : List (List Int)) : ∀ (l : List Gr) (g : Nat), (chk L VL V l g).2.2 = 0 ∨ (g : Int) ≤ (chk L VL V l g).1
  | [], g => by unfold chk; exact .inl rfl
  | x :: l, g => by
    unfold chk
    split
    · exact .inr (Int.le_refl _)
    · split
      · exact .inr (Int.le_refl _)
      · rcases chk_ge L VL V l (g + 1) with h | h
        · exact .inl h
        · right; omega
/-- The first error of some graphs, and the first one where more stand behind. -/
def Fst (r r' : Int × Int × Int) (n : Int) : Prop :=
  (r.2.2 = 0 → r'.2.2 = 0 ∨ n ≤ r'.1) ∧ (r.2.2 ≠ 0 → r.2.2 ≠ 6 → r' = r) ∧ (r.2.2 = 6 → r'.2.2 = 0 ∨ r.1 < r'.1 ∨ (r'.1 = r.1 ∧ r.2.1 ≤ r'.2.1))
theorem chk_more {L L' VL : Nat} {V : List (List Int)} (hL : L ≤ L') (ms : List Gr) : ∀ (l : List Gr) (g : Nat), Fst (chk L VL V l g) (chk L' VL V (l ++ ms) g) ((g + l.length : Nat) : Int)
  | [], g => by
    refine ⟨fun _ => ?_, fun h => ?_, fun h => ?_⟩
    · have := chk_ge L' VL V ms g
      simpa using this
    · exact absurd rfl h
    · cases h
  | x :: l, g => by
    have ih := chk_more (VL := VL) (V := V) hL ms l (g + 1)
    rw [show g + 1 + l.length = g + (x :: l).length by simp; omega] at ih
    rw [List.cons_append]
    unfold chk
    by_cases hx : x.len = 0 ∨ 256 < x.len
    · rw [if_pos hx, if_pos hx]
      exact ⟨(fun h => by cases h), fun _ _ => rfl, (fun h => by cases h)⟩
    · rw [if_neg hx, if_neg hx]
      obtain ⟨b1, b2⟩ := bad_more (VL := VL) (V := V) hL x.l 0
      cases hb : bad L VL V x.l 0 with
      | none =>
        rw [b1 hb]
        exact ih
      | some p =>
        obtain ⟨k, e⟩ := p
        obtain ⟨c1, _, c3, c4⟩ := b2 k e hb
        refine ⟨fun h => absurd h c1, fun _ h6 => ?_, fun h6 => ?_⟩
        · rw [c3 h6]
        · rcases c4 h6 with h | ⟨k', e', h, hk⟩
          · rw [h]
            rcases chk_ge L' VL V (l ++ ms) (g + 1) with h2 | h2
            · exact .inl h2
            · right; left
              show (g : Int) < _
              simp only
              omega
          · rw [h]
            right; right
            refine ⟨rfl, ?_⟩
            show (k : Int) ≤ (k' : Int)
            omega
theorem check_more {ll ml vl : Nat} {V : List (List Int)} {gs ms : List Gr} (hg : gs.length = ll) (h : ll + ml ≤ 16) : Fst (check ll vl V gs) (check (ll + ml) vl V (gs ++ ms)) (ll : Int) := by
  unfold check
  by_cases hv : 32 < vl
  · rw [if_pos (.inr hv), if_pos (.inr hv)]
    exact ⟨(fun h => by cases h), fun _ _ => rfl, (fun h => by cases h)⟩
  · rw [if_neg (by omega), if_neg (by omega)]
    have := chk_more (L := ll) (L' := ll + ml) (VL := vl) (V := V) (by omega) ms gs 0
    rwa [Nat.zero_add, hg] at this
end Go.Proofs.Ytedpppkknmeheaa
