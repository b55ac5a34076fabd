/-
  container/heap's Pop over a pile. No condition.
-/
import Derived.Test.YtlakffjodlandaaPile5
namespace Go.Proofs.Ytlakffjodlandaa
open Go.RowKit
attribute [local go_sem] m_less m_swap m_len m_push m_pop

/-- Swap of any two places, one and the same too. -/
theorem swap_row' {h n cap : Nat} {I J : Int} (i j : Nat) {xs : List It} {w : World} (hI : I = i) (hJ : J = j) (r : RowM w h cap xs) (hl : xs.length = n) (hi : i < n) (hj : j < n) :
    Calls Try.prog 44 #[.slice (some ⟨h, 0, none⟩) n cap, .int .i64 I, .int .i64 J] w fun e w' => e = .returned (.tuple #[]) ∧ RowM w' h cap (swl xs i j) ∧ Only (· = h) w w' := by
  by_cases hij : i = j
  · subst hij
    subst hI hJ
    refine (swap_same h n cap i _ w hi (r.at_ (by omega)) r.frozen).mono ?_
    rintro e w' ⟨rfl, rfl⟩
    refine ⟨rfl, ?_, ((only_set3 (· = h) rfl w i _).trans (only_set3 (· = h) rfl _ i _)).drew⟩
    exact ((r.set3 (k := i) (by omega) (fn xs i)).set3 (k := i) (by simp; omega) (fn xs i)).drew
  · exact swap_row i j hI hJ r hl hi hj hij

theorem RowM.take {w : World} {h cap : Nat} {xs : List It} (r : RowM w h cap xs) (m : Nat) : RowM w h cap (xs.take m) := by
  obtain ⟨cur, hc, hs, hl, hx⟩ := r
  refine ⟨cur, hc, hs, by rw [List.length_take]; omega, fun k hk => ?_⟩
  rw [List.length_take] at hk
  have e : fn (xs.take m) k = fn xs k := by simp [fn, List.getD, show k < m from by omega]
  rw [e]
  exact hx k (by omega)

/-- What container/heap's Pop does to a pile. -/
def Popped (w : World) (g : Nat) (t : Int) (xs : List It) (w' : World) : Prop :=
  ∃ ys, PileM w' g t ys ∧ (fn xs 0 :: ys).Perm xs ∧ HeapI ys.length (fn ys) ∧ Only (Of w g) w w' ∧ ∀ k, Of w' g k → Of w g k ∨ w.heap.size ≤ k

theorem last_perm {xs zs : List It} {m : Nat} (hp : zs.Perm xs) (hl : zs.length = m + 1) (he : fn zs m = fn xs 0) : (fn xs 0 :: zs.take m).Perm xs := by
  have e : zs = zs.take m ++ [fn zs m] := by
    rw [fn_get zs m (by omega), ← List.take_succ_eq_append_getElem, ← hl, List.take_length]
  have h1 : (fn xs 0 :: zs.take m).Perm zs := by
    rw [← he]
    conv => rhs; rw [e]
    exact (List.perm_append_comm (l₁ := zs.take m) (l₂ := [fn zs m])).symm
  exact h1.trans hp

set_option maxHeartbeats 4000000 in
theorem heap_pop (g m : Nat) (t : Int) (xs : List It) (w : World) (p : PileM w g t xs) (hh : HeapI xs.length (fn xs)) (hl : xs.length = m + 1) (hm : m ≤ 549755813888) :
    Calls Try.prog 19 #[.iface 58 (.pointer (some ⟨g, 0, none⟩))] w fun e w' =>
      e = .returned (.iface 60 (.agg #[.int .i64 (fn xs 0).id, .int .i64 (fn xs 0).rank, .int .i64 (fn xs 0).at_])) ∧ Popped w g t xs w' := by
  have hgl := p.lt
  obtain ⟨A, cap, hg, hcap, hr⟩ := p
  obtain ⟨h, rfl, hng, r⟩ : ∃ h, A = some ⟨h, 0, none⟩ ∧ h ≠ g ∧ RowM w h cap xs := by
    rcases hr with ⟨_, rfl, _⟩ | hr
    · simp at hl
    · exact hr
  rw [hl] at hg
  have hs : w.cell? ⟨g, 0, none⟩ = some (.slice (some ⟨h, 0, none⟩) (m + 1) cap) := by rw [cell_of_row w g 0 _ _ (0, 0) hg]; rfl
  have hof : Of w g h := .inr ⟨_, _, hs⟩
  have hmc : m + 1 ≤ cap := by obtain ⟨_, _, _, hlc, _⟩ := r; omega
  have HG := hide hg
  have HC := hide hcap
  have HNG := hide hng
  have HL := hide hl
  have HH := hide hh
  have HR := hide r
  have HOF := hide hof
  clear hg hcap hng hl hh r hof hr
  go_enter Try.func19, Try.ntmps19
  go_wp2_with (first | (go_at_call 42; refine (len_any _ _ _ _).mono ?_; rintro e w' ⟨rfl, rfl⟩))
  refine (swap_row' 0 m rfl (by omega) HR.out HL.out (by omega) (by omega)).mono ?_
  rintro e w1 ⟨rfl, hr1, ho1⟩
  have hg1 : w1.heap[g]? = some (.cells #[.slice (some ⟨h, 0, none⟩) (m + 1) cap, .int .i64 t] 56 (0, 0)) := by
    rw [ho1.block g hgl (fun e => HNG.out e.symm)]; exact HG.out
  have hs1 : w1.cell? ⟨g, 0, none⟩ = some (.slice (some ⟨h, 0, none⟩) (m + 1) cap) := by rw [cell_of_row w1 g 0 _ _ (0, 0) hg1]; rfl
  have hl1 : (swl xs 0 m).length = m + 1 := by rw [length_swl]; exact HL.out
  have hf1 : HeapFrom (0 + 1) m (fn (swl xs 0 m)) := by
    rw [fn_swl xs 0 m (by rw [HL.out]; omega) (by rw [HL.out]; omega)]
    intro k hk hkm hsk
    unfold sw
    rw [if_neg (by omega), if_neg (by omega), if_neg (by omega), if_neg (by omega)]
    exact HH.out k hk (by rw [HL.out]; omega)
  have D := hide (down_any g h m cap (m + 1) 0 (swl xs 0 m) w1 (Ne.symm HNG.out) hs1 hr1 hl1 (by omega) (by omega) (by omega) hf1)
  have HG1 := hide hg1
  have HO1 := hide ho1
  clear hg1 ho1 hr1 hl1 hf1
  go_wp2_with fail
  refine (D.out).mono ?_
  rintro e w2 ⟨b, zs, rfl, hr2, hp2, hf2, hre2, ho2⟩
  have hgl1 : g < w1.heap.size := by have := HO1.out.size; omega
  have hg2 : w2.heap[g]? = some (.cells #[.slice (some ⟨h, 0, none⟩) (m + 1) cap, .int .i64 t] 56 (0, 0)) := by
    rw [ho2.block g hgl1 (fun e => HNG.out e.symm)]; exact HG1.out
  have hs2 : w2.cell? ⟨g, 0, none⟩ = some (.slice (some ⟨h, 0, none⟩) (m + 1) cap) := by rw [cell_of_row w2 g 0 _ _ (0, 0) hg2]; rfl
  have hfz2 : w2.frozen? ⟨g, 0, none⟩ = false := by simp [World.frozen?, hg2]
  have hl2 : zs.length = m + 1 := by rw [hp2.length_eq, length_swl]; exact HL.out
  have hlast : fn zs m = fn xs 0 := by
    rw [hre2 m (Nat.le_refl _) (by omega), fn_swl xs 0 m (by rw [HL.out]; omega) (by rw [HL.out]; omega)]
    simp [sw]
  have P := pop_row g h m cap zs w2 HNG.out hs2 hfz2 hr2 hl2 (by omega) hmc
  rw [hlast] at P
  have PP := hide P
  have HPERM := hide (last_perm (hp2.trans (perm_swl xs 0 m (by rw [HL.out]; omega) (by rw [HL.out]; omega))) hl2 hlast)
  have HG2 := hide hg2
  have HO2 := hide ho2
  have HR2 := hide hr2
  have HL2 := hide hl2
  have HF2 := hide hf2
  clear hs1 hs2 hfz2 hg2 ho2 hr2 hl2 hf2 hre2 hp2 hlast P
  go_wp2_with fail
  refine PP.out.mono ?_
  rintro e w3 ⟨rfl, o, rfl⟩
  go_wp2_with fail
  go_ret
  have htl : (zs.take m).length = m := by rw [List.length_take, HL2.out]; omega
  have hgl2 : g < w2.heap.size := by have := HO2.out.size; omega
  have hb3 : ((w2.setCell ⟨g, 0, none⟩ (.slice (some ⟨h, 0, none⟩) m cap)).alloc o).heap[g]? = some (.cells #[.slice (some ⟨h, 0, none⟩) m cap, .int .i64 t] 56 (0, 0)) := by
    rw [Below.heap_alloc _ o g (by simpa [World.setCell] using hgl2)]
    exact heap_set _ _ _ _ _ _ HG2.out
  have hall : Only (Of w g) w ((w2.setCell ⟨g, 0, none⟩ (.slice (some ⟨h, 0, none⟩) m cap)).alloc o) := by
    have a1 : Only (Of w g) w w1 := HO1.out.mono fun k _ e => by subst e; exact HOF.out
    have a2 : Only (Of w g) w1 w2 := HO2.out.mono fun k _ e => by subst e; exact HOF.out
    exact ((a1.trans a2).setCell (.inl (.inl rfl)) _).alloc o
  refine ⟨rfl, zs.take m, ⟨_, cap, by rw [htl]; exact hb3, HC.out, .inr ⟨h, rfl, HNG.out, ?_⟩⟩, HPERM.out, ?_, hall, ?_⟩
  · have hh2 : h < (w2.setCell ⟨g, 0, none⟩ (.slice (some ⟨h, 0, none⟩) m cap)).heap.size := by simpa [World.setCell] using HR2.out.lt
    exact (((HR2.out.take m).keep (Below.heap_setCell _ _ _ _ HNG.out)).keep (Below.heap_alloc _ o h hh2))
  · rw [htl]
    refine heap_congr (heap_of_from HF2.out) fun k hk => ?_
    simp [fn, List.getD, hk]
  · rintro k (rfl | ⟨n, c, hk⟩)
    · exact .inl (.inl rfl)
    · rw [cell_of_row _ g 0 _ _ (0, 0) hb3] at hk
      have e : h = k := slice_block hk
      subst e
      exact .inl HOF.out
end Go.Proofs.Ytlakffjodlandaa
