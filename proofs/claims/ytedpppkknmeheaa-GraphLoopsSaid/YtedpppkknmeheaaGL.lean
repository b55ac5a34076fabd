/-
  Nodes in a row of the call's own; a row that is written; how much work a graph is with leaves more. No condition.
-/
import Derived.Test.YtedpppkknmeheaaGK
import Derived.Test.YtedpppkknmeheaaReadW
namespace Go.Proofs.Ytedpppkknmeheaa
open Go.RowKit

theorem node_info : (Try.prog.info? 41).map (fun i => (i.zero, i.size, i.bytes)) = some (some (.agg #[.int .i64 0, .slice none 0 0, .slice none 0 0, .int .i64 0, .slice none 0 0, .slice none 0 0, .slice none 0 0]), 7, 136) := by kernel_rfl
def ndc (n : Nd) : List Value := [.int .i64 n.op, .slice n.ia n.il n.ic, .slice n.ta n.tl n.tc, .int .i64 n.no, .slice n.sa n.sl n.sc, .slice n.da n.dl n.dc, .slice n.ha n.hl n.hc]
def ndv : List Nd → List Value
  | [] => []
  | n :: l => ndc n ++ ndv l
theorem ndv_length : ∀ l : List Nd, (ndv l).length = l.length * 7
  | [] => rfl
  | n :: l => by unfold ndv; rw [List.length_append, ndv_length l]; simp [ndc]; omega
theorem ndv_append : ∀ l m : List Nd, ndv (l ++ m) = ndv l ++ ndv m
  | [], m => rfl
  | n :: l, m => by
    show ndc n ++ ndv (l ++ m) = (ndc n ++ ndv l) ++ ndv m
    rw [ndv_append l m, List.append_assoc]
theorem ndv_one : ∀ l : List Nd, ∀ u ∈ ndv l, u.oneCell' = true
  | [], u, hu => by cases hu
  | n :: l, u, hu => by
    unfold ndv at hu
    rcases List.mem_append.1 hu with h | h
    · simp [ndc] at h
      rcases h with rfl | rfl | rfl | rfl | rfl | rfl | rfl <;> rfl
    · exact ndv_one l u h
theorem ndv_get : ∀ (l : List Nd) (i j : Nat), i < l.length → j < 7 → (ndv l)[i * 7 + j]? = (ndc (l.getD i default))[j]?
  | n :: l, 0, j, _, hj => by
    unfold ndv
    rw [Nat.zero_mul, Nat.zero_add, List.getElem?_append_left (by simp [ndc]; omega)]
    rfl
  | n :: l, i + 1, j, hi, hj => by
    unfold ndv
    rw [show (i + 1) * 7 + j = (ndc n).length + (i * 7 + j) by simp [ndc]; omega, List.getElem?_append_right (by omega), Nat.add_sub_cancel_left, ndv_get l i j (by simpa using hi) hj]
    simp [List.getD]
/-- What a node looks like in its cells. -/
theorem cells_of_ndv {w : World} {g : Nat} {l : List Nd} (h : ∀ k u, (ndv l)[k]? = some u → w.cell? ⟨g, k, none⟩ = some u) {i : Nat} (hi : i < l.length) :
    w.cell? ⟨g, 0 + i * 7, none⟩ = some (.int .i64 (l.getD i default).op) ∧ w.cell? ⟨g, 0 + i * 7 + 1, none⟩ = some (.slice (l.getD i default).ia (l.getD i default).il (l.getD i default).ic) ∧ w.cell? ⟨g, 0 + i * 7 + 2, none⟩ = some (.slice (l.getD i default).ta (l.getD i default).tl (l.getD i default).tc) ∧ w.cell? ⟨g, 0 + i * 7 + 3, none⟩ = some (.int .i64 (l.getD i default).no) ∧ w.cell? ⟨g, 0 + i * 7 + 4, none⟩ = some (.slice (l.getD i default).sa (l.getD i default).sl (l.getD i default).sc) ∧ w.cell? ⟨g, 0 + i * 7 + 5, none⟩ = some (.slice (l.getD i default).da (l.getD i default).dl (l.getD i default).dc) ∧ w.cell? ⟨g, 0 + i * 7 + 6, none⟩ = some (.slice (l.getD i default).ha (l.getD i default).hl (l.getD i default).hc) := by
  rw [Nat.zero_add]
  refine ⟨?_, ?_, ?_, ?_, ?_, ?_, ?_⟩
  · exact h (i * 7 + 0) _ (by rw [ndv_get l i 0 hi (by omega)]; rfl)
  · exact h (i * 7 + 1) _ (by rw [ndv_get l i 1 hi (by omega)]; rfl)
  · exact h (i * 7 + 2) _ (by rw [ndv_get l i 2 hi (by omega)]; rfl)
  · exact h (i * 7 + 3) _ (by rw [ndv_get l i 3 hi (by omega)]; rfl)
  · exact h (i * 7 + 4) _ (by rw [ndv_get l i 4 hi (by omega)]; rfl)
  · exact h (i * 7 + 5) _ (by rw [ndv_get l i 5 hi (by omega)]; rfl)
  · exact h (i * 7 + 6) _ (by rw [ndv_get l i 6 hi (by omega)]; rfl)
theorem ndw_own {w : World} {base : Nat} {v : Value} {n : Nat} {l : List Nd} (h : w.ownsRow base 41 7 v n (ndv l)) : ∃ a c, v = .slice a n c ∧ Ndw w a n c l := by
  have hl : l.length = n := by have := h.1; rw [ndv_length] at this; omega
  rcases h.2 with ⟨rfl, rfl⟩ | ⟨g, cap, cur, rfl, _, hg, hn, _, hs, ht⟩
  · exact ⟨none, 0, rfl, hl, Nat.le_refl _, fun i hi => by omega⟩
  · refine ⟨_, cap, rfl, hl, hn, fun i hi => ⟨g, 0, rfl, ?_⟩⟩
    refine cells_of_ndv (fun k u hu => ?_) (by rw [hl]; exact hi)
    have hc := h.cells (g := g) rfl k u hu
    rwa [Go.WideShapes.add_plain, Nat.zero_add] at hc
theorem nsrc {w : World} {a : Option Addr} {len cap : Nat} {l : List Nd} (h : Ndw w a len cap l) (hn : a = none → cap = 0) : Src w a len cap 7 (ndv l) := by
  refine ⟨by rw [ndv_length, h.1], ?_⟩
  cases a with
  | none =>
    have h0 := hn rfl
    have := h.2.1
    exact .inl ⟨rfl, by omega, h0⟩
  | some ad =>
    refine .inr ⟨ad, rfl, fun k u hk => ?_⟩
    have hkl : k < l.length * 7 := by
      rcases Nat.lt_or_ge k (l.length * 7) with h' | h'
      · exact h'
      · rw [List.getElem?_eq_none (by rw [ndv_length]; exact h')] at hk; cases hk
    have hi : k / 7 < l.length := by omega
    have hj : k % 7 < 7 := Nat.mod_lt _ (by omega)
    have hk7 : k / 7 * 7 + k % 7 = k := by omega
    obtain ⟨b, off, e, c0, c1, c2, c3, c4, c5, c6⟩ := h.2.2 (k / 7) (by rw [← h.1]; exact hi)
    cases e
    have hg := ndv_get l (k / 7) (k % 7) hi hj
    rw [hk7, hk] at hg
    rw [Go.WideShapes.add_plain, ← hk7]
    generalize k / 7 = i at *
    generalize k % 7 = j at *
    rcases (by omega : j = 0 ∨ j = 1 ∨ j = 2 ∨ j = 3 ∨ j = 4 ∨ j = 5 ∨ j = 6) with rfl | rfl | rfl | rfl | rfl | rfl | rfl
    · cases hg; exact c0
    · cases hg; rw [← Nat.add_assoc]; exact c1
    · cases hg; rw [← Nat.add_assoc]; exact c2
    · cases hg; rw [← Nat.add_assoc]; exact c3
    · cases hg; rw [← Nat.add_assoc]; exact c4
    · cases hg; rw [← Nat.add_assoc]; exact c5
    · cases hg; rw [← Nat.add_assoc]; exact c6
/-- A row of one cell an element is written. -/
theorem own_set {w : World} {base : Nat} {e : TypeId} {g n cap : Nat} {xs : List Value} (h : w.ownsRow base e 1 (.slice (some ⟨g, 0, none⟩) n cap) n xs) {i : Nat} (hi : i < n) (u : Value) : (w.setCell ⟨g, i, none⟩ u).ownsRow base e 1 (.slice (some ⟨g, 0, none⟩) n cap) n (xs.set i u) := by
  have hl := h.1
  rcases h.2 with ⟨h0, _⟩ | ⟨g', cap', cur, hv, hbase, hb, h1, h2, h3, h4⟩
  · cases h0
  · cases hv
    refine ⟨by simpa using hl, .inr ⟨g, cap, cur.setIfInBounds i u, rfl, hbase, ?_, h1, h2, by simpa using h3, ?_⟩⟩
    · simp [World.setCell, Array.getElem?_modify, hb]
    · rw [← h4]
      apply List.ext_getElem?
      intro j
      rw [List.getElem?_take, List.getElem?_set, List.getElem?_take, Array.getElem?_toList, Array.getElem?_toList, Array.getElem?_setIfInBounds, List.length_take, Array.length_toList]
      by_cases hij : i = j
      · subst hij
        have hc : i < cur.size := by omega
        simp [hi, hc]
        omega
      · simp [hij]
theorem own_free {w : World} {base : Nat} {e : TypeId} {size g n cap : Nat} {xs : List Value} (h : w.ownsRow base e size (.slice (some ⟨g, 0, none⟩) n cap) n xs) (i : Nat) : w.frozen? ⟨g, i, none⟩ = false := by
  rcases h.2 with ⟨h0, _⟩ | ⟨g', cap', cur, hv, hbase, hb, h1, h2, h3, h4⟩
  · cases h0
  · cases hv
    exact frozen_of_row w g i _ _ hb

/-! ### leaves more -/
section
variable {n : Nat} {LN LN' : Nat → Nat} {CS : Nat → List Int} {g M : Nat}
theorem W_same (hLN : ∀ x, LN' x = LN x + if x = g then M else 0) : ∀ (f x : Nat), Wk.Closed n CS x → ¬ Wk.Rc CS x g → Wk.W LN' CS f x = Wk.W LN CS f x
  | 0, _, _, _ => rfl
  | f + 1, x, hc, hr => by
    unfold Wk.W
    rw [hLN, if_neg (fun e => hr (by rw [e]; exact Wk.Rc.refl g)), Nat.add_zero]
    congr 1
    refine Wk.map_sum_congr fun c hcm => ?_
    have h0 := (hc.here c hcm).1
    have hcm' : ((c.toNat : Nat) : Int) ∈ CS x := by rwa [Int.toNat_of_nonneg h0]
    exact W_same hLN f _ (hc.down hcm') (fun ⟨k, hk⟩ => hr ⟨k + 1, hk.head hcm'⟩)
theorem W_plus (hLN : ∀ x, LN' x = LN x + if x = g then M else 0) (hc : Wk.Closed n CS g) (hn : Wk.NP CS 9 g) : Wk.W LN' CS 9 g = Wk.W LN CS 9 g + M := by
  show LN' g + ((CS g).map fun c => Wk.W LN' CS 8 c.toNat).sum = LN g + ((CS g).map fun c => Wk.W LN CS 8 c.toNat).sum + M
  rw [hLN, if_pos rfl, Wk.map_sum_congr (l := CS g) (f := fun c => Wk.W LN' CS 8 c.toNat) (h := fun c => Wk.W LN CS 8 c.toNat) fun c hcm => by
    have h0 := (hc.here c hcm).1
    have hcm' : ((c.toNat : Nat) : Int) ∈ CS g := by rwa [Int.toNat_of_nonneg h0]
    exact W_same hLN 8 _ (hc.down hcm') (no_back hn hcm')]
  omega
theorem le_sum {f : Int → Nat} : ∀ {l : List Int} {c : Int}, c ∈ l → f c ≤ (l.map f).sum
  | x :: l, c, h => by
    rw [List.map_cons, List.sum_cons]
    rcases List.mem_cons.1 h with rfl | h
    · omega
    · have := le_sum (f := f) h; omega
theorem W_calls (hc : Wk.Closed n CS g) (hn : Wk.NP CS 9 g) : Wk.W LN CS 9 g = LN g + ((CS g).map fun c => Wk.W LN CS 9 c.toNat).sum := by
  show LN g + ((CS g).map fun c => Wk.W LN CS 8 c.toNat).sum = _
  congr 1
  refine Wk.map_sum_congr fun c hcm => ?_
  have h0 := (hc.here c hcm).1
  have hcm' : ((c.toNat : Nat) : Int) ∈ CS g := by rwa [Int.toNat_of_nonneg h0]
  exact (Wk.W_stable (hc.down hcm') (hn.down hcm') (by omega)).symm
end
/-- What Work tells where it tells no error. -/
theorem wk_ok {ll : Nat} {gs : List Gr} {g : Nat} (hg : g < ll) (h : (wkR ll gs g).2 = 0) : Wk.Closed ll (cs gs) g ∧ Wk.NP (cs gs) 9 g ∧ Wk.W (ln gs) (cs gs) 9 g ≤ 4096 ∧ wkR ll gs g = (((Wk.W (ln gs) (cs gs) 9 g : Nat) : Int), 0) := by
  unfold wkR Wk.work at h ⊢
  rw [Int.toNat_natCast] at h ⊢
  by_cases hc : Wk.Closed ll (cs gs) g
  · rw [if_neg (by intro k; rcases k with k | k | k; · omega
                   · omega
                   · exact k hc)] at h ⊢
    by_cases hn : Wk.NP (cs gs) 9 g
    · rw [if_neg (fun k => k hn)] at h ⊢
      by_cases hw : 4096 < Wk.W (ln gs) (cs gs) 9 g
      · rw [if_pos hw] at h; cases h
      · rw [if_neg hw]
        exact ⟨hc, hn, by omega, rfl⟩
    · rw [if_pos hn] at h; cases h
  · rw [if_pos (.inr (.inr hc))] at h; cases h
theorem wk_bad {ll : Nat} {gs : List Gr} {g : Int} (h : (wkR ll gs g).2 ≠ 0) : (wkR ll gs g).1 = 0 := by
  unfold wkR Wk.work at h ⊢
  split
  · rfl
  · split
    · rfl
    · split
      · rfl
      · rename_i h1 h2 h3
        rw [if_neg h1, if_neg h2, if_neg h3] at h
        exact absurd rfl h
theorem wk_mk {ll : Nat} {gs : List Gr} {g : Nat} (hg : g < ll) (hc : Wk.Closed ll (cs gs) g) (hn : Wk.NP (cs gs) 9 g) : wkR ll gs g = if 4096 < Wk.W (ln gs) (cs gs) 9 g then (0, 10) else (((Wk.W (ln gs) (cs gs) 9 g : Nat) : Int), 0) := by
  unfold wkR Wk.work
  rw [Int.toNat_natCast, if_neg (by intro k; rcases k with k | k | k; · omega
                                    · omega
                                    · exact k hc), if_neg (fun k => k hn)]
theorem wk_call {ll : Nat} {gs : List Gr} {g : Nat} (hc : Wk.Closed ll (cs gs) g) (hn : Wk.NP (cs gs) 9 g) (hw : Wk.W (ln gs) (cs gs) 9 g ≤ 4096) {c : Nat} (hcm : (c : Int) ∈ cs gs g) : wkR ll gs c = (((Wk.W (ln gs) (cs gs) 9 c : Nat) : Int), 0) ∧ Wk.W (ln gs) (cs gs) 9 c ≤ 4096 := by
  have h1 : Wk.W (ln gs) (cs gs) 9 c ≤ 4096 := by
    rw [W_calls hc hn] at hw
    have := le_sum (f := fun c : Int => Wk.W (ln gs) (cs gs) 9 c.toNat) hcm
    simp only [Int.toNat_natCast] at this
    omega
  have h2 := hc.here (c : Int) hcm
  refine ⟨?_, h1⟩
  rw [wk_mk (by omega) (hc.down hcm) ((hn.down (k := 8) hcm).mono (by omega)), if_neg (by omega)]
end Go.Proofs.Ytedpppkknmeheaa
