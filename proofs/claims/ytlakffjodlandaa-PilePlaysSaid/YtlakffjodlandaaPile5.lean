/-
  A pile in memory; container/heap's Push and Pop over it. No condition.
-/
import Derived.Test.YtlakffjodlandaaPile4
namespace Go.Proofs.Ytlakffjodlandaa
open Go.RowKit
attribute [local go_sem] m_less m_swap m_len m_push m_pop

/-- A pile in block g: its row's items, how many were pushed. -/
def PileM (w : World) (g : Nat) (t : Int) (xs : List It) : Prop :=
  ∃ A cap, w.heap[g]? = some (.cells #[.slice A xs.length cap, .int .i64 t] 56 (0, 0)) ∧ cap ≤ maxLen ∧
    ((A = none ∧ xs = [] ∧ cap = 0) ∨ ∃ h, A = some ⟨h, 0, none⟩ ∧ h ≠ g ∧ RowM w h cap xs)
/-- The blocks that are a pile's own. -/
def Of (w : World) (g k : Nat) : Prop := k = g ∨ ∃ n c, w.cell? ⟨g, 0, none⟩ = some (.slice (some ⟨k, 0, none⟩) n c)

section
variable {w w' : World} {g : Nat} {t : Int} {xs : List It}
theorem PileM.lt (p : PileM w g t xs) : g < w.heap.size := by
  obtain ⟨A, cap, hg, _⟩ := p
  rcases Nat.lt_or_ge g w.heap.size with hlt | hge
  · exact hlt
  · rw [Array.getElem?_eq_none hge] at hg; cases hg
theorem PileM.keep (p : PileM w g t xs) (hk : ∀ k, k < w.heap.size → Of w g k → w'.heap[k]? = w.heap[k]?) : PileM w' g t xs := by
  have hlt := p.lt
  obtain ⟨A, cap, hg, hc, hr⟩ := p
  refine ⟨A, cap, (hk g hlt (.inl rfl)).trans hg, hc, hr.imp id ?_⟩
  rintro ⟨h, rfl, hn, r⟩
  refine ⟨h, rfl, hn, r.keep (hk h r.lt (.inr ⟨xs.length, cap, ?_⟩))⟩
  rw [cell_of_row w g 0 _ _ (0, 0) hg]; rfl
theorem PileM.below (p : PileM w g t xs) (hb : Below w.heap.size w w') : PileM w' g t xs := p.keep fun k hk _ => hb.block k hk
theorem PileM.drewN (p : PileM w g t xs) (n : Nat) : PileM (w.drewN n) g t xs := p.keep fun _ _ _ => rfl
theorem PileM.drew (p : PileM w g t xs) : PileM w.drew g t xs := p.keep fun _ _ _ => rfl
theorem Of.keep (hg : w'.heap[g]? = w.heap[g]?) (k : Nat) : Of w' g k ↔ Of w g k := by
  unfold Of
  rw [World.cell?_of_block (a := ⟨g, 0, none⟩) hg]
end

theorem slice_block {h k n m c d : Nat} {u : Value} (e : (#[Value.slice (some ⟨h, 0, none⟩) n c, u])[0]? = some (.slice (some ⟨k, 0, none⟩) m d)) : h = k := by
  simp at e
  exact e.1

/-- What container/heap's Push does to a pile. -/
def Pushed (w : World) (g : Nat) (t : Int) (xs : List It) (x : It) (w' : World) : Prop :=
  ∃ ys, PileM w' g t ys ∧ ys.Perm (xs ++ [x]) ∧ HeapI ys.length (fn ys) ∧ Only (Of w g) w w' ∧ ∀ k, Of w' g k → Of w g k ∨ w.heap.size ≤ k

theorem up_of_heap {xs : List It} {x : It} (h : HeapI xs.length (fn xs)) : UpI (xs.length + 1) (fn (xs ++ [x])) xs.length := by
  refine ⟨by omega, fun k hk hkn hne => ?_, fun k hk hkn hp hj => by omega⟩
  rw [fn_append_left _ _ _ (by omega), fn_append_left _ _ _ (by omega)]
  exact h k hk (by omega)

set_option maxHeartbeats 4000000 in
theorem heap_push (g : Nat) (t : Int) (xs : List It) (x : It) (w : World) (p : PileM w g t xs) (hh : HeapI xs.length (fn xs)) (hn : xs.length ≤ 549755813888) :
    Calls Try.prog 18 #[.iface 58 (.pointer (some ⟨g, 0, none⟩)), .iface 60 (.agg #[.int .i64 x.id, .int .i64 x.rank, .int .i64 x.at_])] w fun e w' =>
      e = .returned (.tuple #[]) ∧ Pushed w g t xs x w' := by
  have hgl := p.lt
  have hp := p
  obtain ⟨A, cap, hg, hcap, hr⟩ := p
  have hs : w.cell? ⟨g, 0, none⟩ = some (.slice A xs.length cap) := by rw [cell_of_row w g 0 _ _ (0, 0) hg]; rfl
  have hf : w.frozen? ⟨g, 0, none⟩ = false := by simp [World.frozen?, hg]
  have hown : w.ownsRow 0 60 3 (.slice A xs.length cap) xs.length (flat xs) := by
    rcases hr with ⟨rfl, rfl, rfl⟩ | ⟨h, rfl, _, r⟩
    · exact World.ownsRow_nil _ _ _ _
    · exact r.own (Nat.zero_le _) hcap
  have hne : (Value.slice A xs.length cap).ownBlock ≠ some g := by
    rcases hr with ⟨rfl, _, _⟩ | ⟨h, rfl, hng, _⟩
    · simp [Value.ownBlock]
    · simpa [Value.ownBlock] using hng
  have hofA : ∀ k, (Value.slice A xs.length cap).ownBlock = some k → Of w g k := by
    intro k hk
    rcases hr with ⟨rfl, _, _⟩ | ⟨h, rfl, hng, _⟩
    · simp [Value.ownBlock] at hk
    · have : h = k := by simpa [Value.ownBlock] using hk
      subst this
      exact .inr ⟨_, _, hs⟩
  have C := hide (push_row g xs.length cap A x w hs hf hne xs 0 (Nat.zero_le _) hown (by omega))
  have HG := hide hg
  have HOF := hide hofA
  have HH := hide hh
  have HNE := hide hne
  clear hr hown hne hg hp hofA hh hs hf
  go_enter Try.func18, Try.ntmps18
  go_wp2_with fail
  refine C.out.mono ?_
  rintro e w2 ⟨rfl, h', cap', w1, -, hc', hne', hrow', -, hgr, hat, rfl⟩
  have hb1 : w1.heap[g]? = w.heap[g]? := hgr.block g hgl (fun e => HNE.out e.symm)
  have hb2 : (w1.setCell ⟨g, 0, none⟩ (.slice (some ⟨h', 0, none⟩) (xs.length + 1) cap')).heap[g]? = some (.cells #[.slice (some ⟨h', 0, none⟩) (xs.length + 1) cap', .int .i64 t] 56 (0, 0)) :=
    heap_set _ _ _ _ _ _ (hb1.trans HG.out)
  have hr2 : RowM (w1.setCell ⟨g, 0, none⟩ (.slice (some ⟨h', 0, none⟩) (xs.length + 1) cap')) h' cap' (xs ++ [x]) := hrow'.keep (Below.heap_setCell _ _ _ _ hne')
  have ho2 : Only (Of w g) w (w1.setCell ⟨g, 0, none⟩ (.slice (some ⟨h', 0, none⟩) (xs.length + 1) cap')) :=
    Only.setCell ⟨hgr.os, hgr.tape, hgr.output, hgr.size, fun k hk hS => hgr.block k hk (fun e => hS (HOF.out k e.symm))⟩ (.inl (.inl rfl)) _
  have hof' : Of w g h' ∨ w.heap.size ≤ h' := hat.imp (HOF.out h') id
  generalize w1.setCell ⟨g, 0, none⟩ (.slice (some ⟨h', 0, none⟩) (xs.length + 1) cap') = w2 at *
  have hs2 : w2.cell? ⟨g, 0, none⟩ = some (.slice (some ⟨h', 0, none⟩) (xs.length + 1) cap') := by rw [cell_of_row w2 g 0 _ _ (0, 0) hb2]; rfl
  have U := hide (up_any g h' (xs.length + 1) cap' xs.length (xs ++ [x]) w2 (Ne.symm hne') hs2 hr2 (by simp) (by omega) (up_of_heap HH.out))
  have HB2 := hide hb2
  have HO2 := hide ho2
  have HOF2 := hide hof'
  have HNE' := hide hne'
  have HC' := hide hc'
  have HS2 := hide hs2
  clear hb1 hb2 hr2 ho2 hof' hrow' hgr hat hne' hc'
  go_wp2_with (first | (go_at_call 42; refine (len_any _ _ _ _).mono ?_; rintro e w' ⟨rfl, rfl⟩) | (go_at_call 23; (with_reducible refine U.out.mono ?_); rintro e w3 ⟨rfl, ys, hr3, hp3, hh3, ho3⟩))
  go_end0
  have hlen : ys.length = xs.length + 1 := by rw [hp3.length_eq]; simp
  have hg3 : w3.heap[g]? = some (.cells #[.slice (some ⟨h', 0, none⟩) (xs.length + 1) cap', .int .i64 t] 56 (0, 0)) := by
    rw [ho3.block g (by have := HO2.out.size; omega) (fun e => HNE'.out e.symm)]; exact HB2.out
  refine ⟨rfl, ys, ⟨_, cap', by rw [hlen]; exact hg3, HC'.out, .inr ⟨h', rfl, HNE'.out, hr3⟩⟩, hp3, by rw [hlen]; exact hh3, ?_, ?_⟩
  · refine ⟨ho3.os.trans HO2.out.os, ho3.tape.trans HO2.out.tape, ho3.output.trans HO2.out.output, Nat.le_trans HO2.out.size ho3.size, fun k hk hS => ?_⟩
    refine (ho3.block k (Nat.lt_of_lt_of_le hk HO2.out.size) ?_).trans (HO2.out.block k hk hS)
    rintro rfl
    rcases HOF2.out with h1 | h1
    · exact hS h1
    · omega
  · rintro k (rfl | ⟨n, c, hk⟩)
    · exact .inl (.inl rfl)
    · rw [cell_of_row w3 g 0 _ _ (0, 0) hg3] at hk
      have e : h' = k := slice_block hk
      subst e
      exact HOF2.out
end Go.Proofs.Ytlakffjodlandaa
