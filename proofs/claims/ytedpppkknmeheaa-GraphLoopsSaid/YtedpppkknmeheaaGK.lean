/-
  Graphs that are appended. No condition.
-/
import Derived.Test.YtedpppkknmeheaaGH
import Derived.Test.YtedpppkknmeheaaGJ
namespace Go.Proofs.Ytedpppkknmeheaa
open Go.RowKit

theorem graph_info : (Try.prog.info? 34).map (fun i => (i.zero, i.size, i.bytes)) = some (some (.agg #[.slice none 0 0]), 1, 24) := by kernel_rfl
def gsv (gs : List Gr) : List Value := gs.map fun g => .slice g.a g.len g.cap
theorem gsv_one (gs : List Gr) : ∀ u ∈ gsv gs, u.oneCell' = true := by
  intro u hu; obtain ⟨z, _, rfl⟩ := List.mem_map.1 hu; rfl
theorem gsv_get {gs : List Gr} {j : Nat} {u : Value} (h : (gsv gs)[j]? = some u) : j < gs.length ∧ u = .slice (gs.getD j default).a (gs.getD j default).len (gs.getD j default).cap := by
  have hj : j < gs.length := by
    rcases Nat.lt_or_ge j gs.length with h' | h'
    · exact h'
    · rw [List.getElem?_eq_none (by simpa [gsv] using h')] at h; cases h
  refine ⟨hj, ?_⟩
  unfold gsv at h
  rw [List.getElem?_map, List.getElem?_eq_getElem hj] at h
  rw [List.getD_eq_getElem?_getD, List.getElem?_eq_getElem hj]
  cases h
  rfl
theorem gsrc {w : World} {la : Option Addr} {ll lc : Nat} {gs : List Gr} (h : Grs w la ll lc gs) (hn : la = none → lc = 0) : Src w la ll lc 1 (gsv gs) := by
  refine ⟨by simp [gsv, h.1], ?_⟩
  cases la with
  | none =>
    have h0 := hn rfl
    have := h.2.1
    exact .inl ⟨rfl, by omega, h0⟩
  | some ad =>
    refine .inr ⟨ad, rfl, fun j u hj => ?_⟩
    obtain ⟨hl, rfl⟩ := gsv_get hj
    obtain ⟨b, off, e, hc, _⟩ := h.2.2 j (by rw [← h.1]; exact hl)
    cases e
    rwa [Go.WideShapes.add_plain]
theorem grs_own {w : World} {base : Nat} {e : TypeId} {v : Value} {n : Nat} {gs : List Gr} (h : w.ownsRow base e 1 v n (gsv gs)) (hN : ∀ i, i < n → Nds w (gs.getD i default).a (gs.getD i default).len (gs.getD i default).cap (gs.getD i default).l) : ∃ a c, v = .slice a n c ∧ Grs w a n c gs := by
  have hl : gs.length = n := by simpa [gsv] using h.1
  rcases h.2 with ⟨rfl, rfl⟩ | ⟨g, cap, cur, rfl, _, hg, hn, _, hs, ht⟩
  · exact ⟨none, 0, rfl, hl, Nat.le_refl _, fun i hi => by omega⟩
  · refine ⟨_, cap, rfl, hl, hn, fun i hi => ⟨g, 0, rfl, ?_, hN i hi⟩⟩
    rw [Nat.zero_add]
    have hc := h.cells (g := g) rfl i (.slice (gs.getD i default).a (gs.getD i default).len (gs.getD i default).cap) (by simp [gsv, List.getD, show i < gs.length by omega])
    rwa [Go.WideShapes.add_plain, Nat.zero_add] at hc
theorem nds_join {w : World} {la : Option Addr} {ll lc : Nat} {gs : List Gr} {ma : Option Addr} {ml mc : Nat} {ms : List Gr} (h : Grs w la ll lc gs) (k : Grs w ma ml mc ms) : ∀ i, i < ll + ml → Nds w ((gs ++ ms).getD i default).a ((gs ++ ms).getD i default).len ((gs ++ ms).getD i default).cap ((gs ++ ms).getD i default).l := by
  intro i hi
  by_cases hil : i < ll
  · obtain ⟨_, _, _, _, hN⟩ := h.2.2 i hil
    rw [show (gs ++ ms).getD i default = gs.getD i default by simp [List.getD, List.getElem?_append_left (show i < gs.length by rw [h.1]; exact hil)]]
    exact hN
  · obtain ⟨_, _, _, _, hN⟩ := k.2.2 (i - ll) (by omega)
    rw [show (gs ++ ms).getD i default = ms.getD (i - ll) default by simp [List.getD, List.getElem?_append_right (show gs.length ≤ i by rw [h.1]; omega), h.1]]
    exact hN
end Go.Proofs.Ytedpppkknmeheaa
