/-
  Package graph's Edges. No condition.
-/
import Derived.Test.YtedpppkknmeheaaGB
namespace Go.Proofs.Ytedpppkknmeheaa
open Go.RowKit

/-- How many inputs nodes have, as int adds. -/
def edgF (l : List Nd) : Int := l.foldl (fun N n => wrap64 (N + n.il)) 0
theorem edgF_snoc (l : List Nd) (k : Nat) (h : k < l.length) : edgF (l.take (k + 1)) = wrap64 (edgF (l.take k) + (l.getD k default).il) := by
  unfold edgF
  rw [List.take_succ_eq_append_getElem h, List.foldl_append, List.getD_eq_getElem?_getD, List.getElem?_eq_getElem h]
  rfl
set_option maxRecDepth 100000 in
set_option maxHeartbeats 4000000 in
theorem edges_any (a : Option Addr) (len cap : Nat) (l : List Nd) (w : World) (h : Ndw w a len cap l) (hl : len ≤ 140737488355328) :
    Calls Try.prog 14 #[.agg #[.slice a len cap]] w fun e w' => e = .returned (.int .i64 (edgF l)) ∧ Below w.heap.size w w' := by
  have HN := hide h
  clear h
  have hb0 : Below w.heap.size w (w.alloc (.cells #[.slice a len cap] 34)) := (Below.refl _ _).alloc (Nat.le_refl _) _
  have HB0 := hide hb0
  clear hb0
  go_enter Try.func14, Try.ntmps14
  go_wp2_with fail
  go_loopw [3, 9] (fun s i wr => ∃ (k : Nat) (N : Int), k ≤ len ∧ i = .int .i64 k ∧ s = .int .i64 N ∧ Hid (N = edgF (l.take k)) ∧ Hid (Below w.heap.size w wr)) (fun _ i _ => len - (intOf i).toNat)
  case atStart => exact ⟨0, 0, Nat.zero_le _, rfl, rfl, rfl, HB0.out⟩
  case round =>
    obtain ⟨k, N, hk, rfl, rfl, HE, HB⟩ := hrel
    by_cases hlt : k < len
    · obtain ⟨b2, off2, rfl, ⟨c0, c1, c2, c3, c4, c5, c6⟩⟩ := HN.out.2.2 k hlt
      have HS := hide (edgF_snoc l k (by rw [HN.out.1]; exact hlt))
      obtain ⟨n, hn⟩ : ∃ n, l.getD k default = n := ⟨_, rfl⟩
      rw [hn] at c0 c1 c2 c3 c4 c5 c6 HS
      have d0 := cell_later HB.out c0
      have d1 := cell_later HB.out c1
      have d2 := cell_later HB.out c2
      have d3 := cell_later HB.out c3
      have d4 := cell_later HB.out c4
      have d5 := cell_later HB.out c5
      have d6 := cell_later HB.out c6
      clear hn c0 c1 c2 c3 c4 c5 c6
      obtain ⟨op, ia, il, ic, ins, ta, tl, tc, no, qa, ql, qc, qs, da, dl, dc, ha, hl, hc, hs⟩ := n
      simp only at d0 d1 d2 d3 d4 d5 d6 HS
      go_wp2_with fail
      go_roundw
      case rel => exact ⟨k + 1, _, by omega, by go_num, rfl, by unfold Hid; rw [HS.out, ← HE.out], HB.out.alloc HB.out.size _⟩
      case measure => simp [intOf]; omega
    · obtain rfl : len = k := by omega
      have HR : Hid (N = edgF l) := by
        have h := HE.out
        rwa [← HN.out.1, List.take_length] at h
      go_wp2_with fail
      go_ret
      exact ⟨by rw [← HR.out]; rfl, HB.out⟩
end Go.Proofs.Ytedpppkknmeheaa
