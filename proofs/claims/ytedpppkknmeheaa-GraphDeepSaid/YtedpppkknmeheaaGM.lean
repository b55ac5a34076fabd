/-
  Graphs each of which calls the next one so many times: how deep, how much work. A plain law: no program, no memory, no condition.
-/
import Derived.Test.YtedpppkknmeheaaGL
namespace Go.Proofs.Ytedpppkknmeheaa
open Go.RowKit
namespace Dp

def dcs (k c : Nat) (loop : Bool) (i : Nat) : List Int := if i + 1 < k then List.replicate c ((i : Int) + 1) else if i + 1 = k then (if loop = true then [0] else []) else []
def dln (k c : Nat) (loop : Bool) (i : Nat) : Nat := 1 + (dcs k c loop i).length
/-- The work that the law reckons, on from 1. -/
def wj (x : Nat) : Nat → Nat
  | 0 => 1
  | j + 1 => min (wj x j + 1 + x) 1048576
def dw (c : Nat) : Nat → Nat
  | 0 => 1
  | t + 1 => wj (dw c t) c
def deepB (k c : Nat) (loop : Bool) : Bool := (decide (0 < c) && decide (8 < (k : Int) - 1)) || (loop && (decide (0 < c) || (k == 1)))
theorem wj_is (x : Nat) : ∀ j, wj x j = min (1 + j * (1 + x)) 1048576
  | 0 => by simp [wj]
  | j + 1 => by
    unfold wj
    rw [wj_is x j, Nat.add_mul]
    omega
theorem wj_le (x j : Nat) : wj x j ≤ 1048576 := by rw [wj_is]; exact Nat.min_le_right _ _
theorem dw_le (c : Nat) : ∀ t, dw c t ≤ 1048576
  | 0 => by simp [dw]
  | t + 1 => wj_le _ _
def D (c : Nat) : Nat → Nat
  | 0 => 1
  | t + 1 => 1 + c + c * D c t
theorem dw_is {c : Nat} (hc : 0 < c) : ∀ t, dw c t = min (D c t) 1048576
  | 0 => by simp [dw, D]
  | t + 1 => by
    unfold dw D
    rw [wj_is, dw_is hc t]
    rcases Nat.le_total (D c t) 1048576 with h | h
    · rw [Nat.min_eq_left h, Nat.mul_add]
      omega
    · rw [Nat.min_eq_right h]
      have h1 : 1 * 1048576 ≤ c * 1048576 := Nat.mul_le_mul_right _ hc
      have h2 : c * 1048576 ≤ c * D c t := Nat.mul_le_mul_left _ h
      rw [Nat.mul_add]
      omega
variable {k c : Nat} {loop : Bool} {CS : Nat → List Int} {LN : Nat → Nat}
theorem closed (hk : 0 < k) (hcs : ∀ i, CS i = dcs k c loop i) (g : Nat) : Wk.Closed k CS g := by
  intro x _ d hd
  rw [hcs] at hd
  unfold dcs at hd
  split at hd
  · have := List.eq_of_mem_replicate hd
    omega
  · split at hd
    · split at hd
      · rw [List.mem_singleton] at hd; omega
      · cases hd
    · cases hd
theorem deep_yes (hk : 0 < k) (hcs : ∀ i, CS i = dcs k c loop i) (h : deepB k c loop = true) : ¬ Wk.NP CS 9 0 := by
  unfold deepB at h
  simp only [Bool.or_eq_true, Bool.and_eq_true, decide_eq_true_eq, beq_iff_eq] at h
  rcases h with ⟨hc, hd⟩ | ⟨hl, hd⟩
  · have : ∀ m, m ≤ 9 → Wk.Lv CS 0 m m := by
      intro m
      induction m with
      | zero => intro _; rfl
      | succ m ih =>
        intro hm
        refine ⟨m, ih (by omega), ?_⟩
        rw [hcs]
        unfold dcs
        rw [if_pos (by omega)]
        exact List.mem_replicate.2 ⟨by omega, by omega⟩
    exact fun hn => hn 9 (this 9 (Nat.le_refl _))
  · subst hl
    have : ∀ m, Wk.Lv CS 0 m (m % k) := by
      intro m
      induction m with
      | zero => show 0 = 0 % k; simp
      | succ m ih =>
        refine ⟨m % k, ih, ?_⟩
        rw [hcs]
        unfold dcs
        have hlt : m % k < k := Nat.mod_lt _ hk
        by_cases h1 : m % k + 1 < k
        · rw [if_pos h1]
          have e : (m + 1) % k = m % k + 1 := by rw [Nat.add_mod, Nat.mod_eq_of_lt (show 1 < k by omega), Nat.mod_eq_of_lt h1]
          exact List.mem_replicate.2 ⟨by omega, by rw [e]; omega⟩
        · have h2 : m % k + 1 = k := by omega
          rw [if_neg h1, if_pos h2, if_pos rfl]
          have e : (m + 1) % k = 0 := by
            by_cases h3 : k = 1
            · rw [h3]; omega
            · rw [Nat.add_mod, Nat.mod_eq_of_lt (show 1 < k by omega), h2, Nat.mod_self]
          rw [e]
          simp
    exact fun hn => hn _ (this 9)
theorem sum_rep (f : Int → Nat) (x : Int) : ∀ c, ((List.replicate c x).map f).sum = c * f x
  | 0 => by simp
  | c + 1 => by rw [List.replicate_succ, List.map_cons, List.sum_cons, sum_rep f x c, Nat.add_mul]; omega
theorem W_is (hcs : ∀ i, CS i = dcs k c false i) (hln : ∀ i, i < k → LN i = dln k c false i) : ∀ t f, t < k → t + 1 ≤ f → Wk.W LN CS f (k - 1 - t) = D c t
  | 0, f, ht, hf => by
    obtain ⟨f, rfl⟩ : ∃ f', f = f' + 1 := ⟨f - 1, by omega⟩
    unfold Wk.W
    have e : dcs k c false (k - 1 - 0) = [] := by unfold dcs; rw [if_neg (by omega), if_pos (by omega)]; rfl
    rw [hln _ (by omega), hcs, dln, e]
    rfl
  | t + 1, f, ht, hf => by
    obtain ⟨f, rfl⟩ : ∃ f', f = f' + 1 := ⟨f - 1, by omega⟩
    unfold Wk.W
    have e : dcs k c false (k - 1 - (t + 1)) = List.replicate c (((k - 1 - t : Nat)) : Int) := by
      unfold dcs
      rw [if_pos (by omega)]
      congr 1
      omega
    rw [hln _ (by omega), hcs, dln, e, sum_rep, Int.toNat_natCast, W_is hcs hln t f (by omega) (by omega), List.length_replicate]
    rfl
theorem deep_no (hk : 0 < k) (hcs : ∀ i, CS i = dcs k c loop i) (hln : ∀ i, i < k → LN i = dln k c loop i) (h : deepB k c loop = false) : Wk.NP CS 9 0 ∧ min (Wk.W LN CS 9 0) 1048576 = dw c (k - 1) := by
  unfold deepB at h
  simp only [Bool.or_eq_false_iff, Bool.and_eq_false_iff, decide_eq_false_iff_not, beq_eq_false_iff_ne] at h
  obtain ⟨h1, h2⟩ := h
  by_cases hc : 0 < c
  · have hl : loop = false := by
      rcases h2 with h | h
      · exact h
      · exact absurd hc h.1
    subst hl
    have hk9 : k ≤ 9 := by
      rcases h1 with h | h
      · exact absurd hc h
      · omega
    have hlv : ∀ m x, Wk.Lv CS 0 m x → x = m ∧ m < k := by
      intro m
      induction m with
      | zero => intro x e; exact ⟨Eq.symm e, hk⟩
      | succ m ih =>
        rintro x ⟨y, hy, hx⟩
        obtain ⟨rfl, hm⟩ := ih y hy
        rw [hcs] at hx
        unfold dcs at hx
        split at hx
        · rename_i hlt
          have := List.eq_of_mem_replicate hx
          exact ⟨by omega, hlt⟩
        · split at hx
          · cases hx
          · cases hx
    refine ⟨fun x hx => by have := (hlv 9 x hx).2; omega, ?_⟩
    have := W_is hcs hln (k - 1) 9 (by omega) (by omega)
    rw [show k - 1 - (k - 1) = 0 by omega] at this
    rw [this, dw_is hc]
  · have hc0 : c = 0 := by omega
    subst hc0
    have e0 : dcs k 0 loop 0 = [] := by
      unfold dcs
      by_cases h3 : 0 + 1 < k
      · rw [if_pos h3]; rfl
      · have h4 : k = 1 := by omega
        have hl : loop = false := by
          rcases h2 with h | h
          · exact h
          · exact absurd h4 h.2
        rw [if_neg h3, if_pos (by omega), hl]; rfl
    refine ⟨?_, ?_⟩
    · have h1 : Wk.NP CS 1 0 := by
        rintro x ⟨y, hy, hx⟩
        cases hy
        rw [hcs, e0] at hx
        cases hx
      exact h1.mono (by omega)
    · unfold Wk.W
      rw [hln 0 hk, hcs, dln, e0]
      cases hkk : k - 1 with
      | zero => rfl
      | succ t => rfl
theorem told {ll : Nat} {gs : List Gr} (hk : 0 < ll) (hcs : ∀ i, cs gs i = dcs ll c loop i) (hln : ∀ i, i < ll → ln gs i = dln ll c loop i) :
    (deepB ll c loop = true → wkR ll gs 0 = (0, 9)) ∧ (deepB ll c loop = false → (4096 < dw c (ll - 1) → wkR ll gs 0 = (0, 10)) ∧ (¬ 4096 < dw c (ll - 1) → wkR ll gs 0 = (((dw c (ll - 1) : Nat) : Int), 0))) := by
  refine ⟨fun h => ?_, fun h => ?_⟩
  · unfold wkR Wk.work
    rw [if_neg (by intro q; rcases q with q | q | q; · omega
                   · omega
                   · exact q (closed hk hcs _)), show (0 : Int).toNat = 0 from rfl, if_pos (deep_yes hk hcs h)]
  · obtain ⟨hn, hw⟩ := deep_no hk hcs hln h
    have e := wk_mk (gs := gs) hk (closed hk hcs 0) hn
    rw [show ((0 : Nat) : Int) = 0 from rfl] at e
    refine ⟨fun h2 => ?_, fun h2 => ?_⟩
    · rw [e, if_pos (by omega)]
    · rw [e, if_neg (by omega), show Wk.W (ln gs) (cs gs) 9 0 = dw c (ll - 1) by omega]
end Dp
end Go.Proofs.Ytedpppkknmeheaa
