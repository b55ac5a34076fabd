/-
  GraphChecks: the walk. For every input the law returns true. No condition.
-/
import Derived.Test.YtedpppkknmeheaaGH
import Derived.Test.YtedpppkknmeheaaG6
namespace Go.Proofs.Ytedpppkknmeheaa.GraphChecks
open Go.RowKit

set_option maxRecDepth 100000 in
set_option maxHeartbeats 16000000 in
theorem walk (la : Option Addr) (ll lc : Nat) (gs : List Gr) (va : Option Addr) (vl vc : Nat) (V : List (List Int)) (W : World) (hG : Grs W la ll lc gs) (hS : Szs gs ll) (hl : ll ≤ 140737488355328) (hV : Vs W va vl vc V) (hvl : vl ≤ 140737488355328) :
    Calls Try.prog 3 #[.slice la ll lc, .slice va vl vc] W fun e w' => e = .returned (.bool true) ∧ Below W.heap.size W w' := by
  have C1 := hide (awake_any W)
  have C2 : Hid (∀ w', Below W.heap.size W w' → Calls Try.prog 10 #[.slice la ll lc] w' fun e w2 => ∃ b, e = .returned (.bool b) ∧ Below W.heap.size W w2) := hide (fun w' hb => (small_any la ll lc gs w' (hG.later hb) hS hl).mono fun e w2 ⟨b, h1, _, h2⟩ => ⟨b, h1, hb.trans (h2.mono hb.size)⟩)
  have C3 : Hid (∀ w', Below W.heap.size W w' → Calls Try.prog 11 #[.slice va vl vc] w' fun e w2 => ∃ b, e = .returned (.bool b) ∧ Below W.heap.size W w2) := hide (fun w' hb => (short_any va vl vc V w' (hV.later hb) hvl).mono fun e w2 ⟨b, h1, _, h2⟩ => ⟨b, h1, hb.trans (h2.mono hb.size)⟩)
  obtain ⟨r, hr⟩ : ∃ r, check ll vl V gs = r := ⟨_, rfl⟩
  obtain ⟨r1, r2, r3⟩ := r
  have C4 : Hid (∀ w', Below W.heap.size W w' → Calls Try.prog 12 #[.slice la ll lc, .slice va vl vc] w' fun e w2 => e = .returned (.tuple #[.int .i64 r1, .int .i64 r2, .int .i64 r3]) ∧ Below W.heap.size W w2) := hide (fun w' hb => (check_any la ll lc va vl vc V gs w' (hG.later hb) (hV.later hb)).mono fun e w2 h => ⟨by rw [h.1, hr], hb.trans (h.2.mono hb.size)⟩)
  have C5 : Hid (∀ w', Below W.heap.size W w' → Calls Try.prog 13 #[.slice la ll lc, .slice va vl vc] w' fun e w2 => e = .returned (.tuple #[.int .i64 r1, .int .i64 r2, .int .i64 r3]) ∧ Below W.heap.size W w2) := hide (fun w' hb => (check_ref la ll lc va vl vc V gs w' (hG.later hb) (hV.later hb)).mono fun e w2 h => ⟨by rw [h.1, hr], hb.trans (h.2.mono hb.size)⟩)
  clear hr
  have HG := hide hG
  have HS := hide hS
  clear hG hS hV
  go_enter Try.func3, Try.ntmps3
  go_wp2_with (first | (go_at_call 9; (with_reducible refine C1.out.mono ?_); rintro e w1 ⟨rfl, hb1⟩; have HB1 := hide hb1; clear hb1) | (go_at_call 10; (with_reducible refine (C2.out _ HB1.out).mono ?_); rintro e w2 ⟨b2, rfl, hb2⟩; have HB2 := hide hb2; clear hb2; cases b2))
  · go_ret
    exact ⟨rfl, HB2.out⟩
  go_wp2_with (go_at_call 11; (with_reducible refine (C3.out _ HB2.out).mono ?_); rintro e w3 ⟨b3, rfl, hb3⟩; have HB3 := hide hb3; clear hb3; cases b3)
  · go_ret
    exact ⟨rfl, HB3.out⟩
  go_wp2_with (first | (go_at_call 12; (with_reducible refine (C4.out _ HB3.out).mono ?_); rintro e w4 ⟨rfl, hb4⟩; have HB4 := hide hb4; clear hb4) | (go_at_call 13; (with_reducible refine (C5.out _ HB4.out).mono ?_); rintro e w5 ⟨rfl, hb5⟩; have HB5 := hide hb5; clear hb5))
  by_cases h0 : ll = 0
  · subst h0
    go_loopw [11, 12] (fun s i wr => s = .int .i64 0 ∧ i = .int .i64 0 ∧ w5 = wr) (fun _ _ _ => 0)
    case atStart => exact ⟨rfl, rfl, rfl⟩
    case round =>
      obtain ⟨rfl, rfl, rfl⟩ := hrel
      go_wp2_with fail
      go_ret
      exact ⟨rfl, HB5.out⟩
  · obtain ⟨b, off, rfl, hc, hN⟩ := HG.out.2.2 0 (by omega)
    have hsz := (HS.out 0 (by omega)).1
    obtain ⟨x, hx⟩ : ∃ x, gs.getD 0 default = x := ⟨_, rfl⟩
    rw [hx] at hc hN hsz
    obtain ⟨xa, xl, xc, xs⟩ := x
    simp only at hc hN hsz
    have hr := cell_later HB5.out hc
    rw [Nat.add_zero] at hr
    have HND := hide (hN.c.later HB5.out)
    have C6 := hide (edges_any xa xl xc xs w5 HND.out hsz)
    have hpos : 0 < ll := by omega
    clear hx hc hN
    go_loopw [11, 12] (fun s i wr => ∃ (k : Nat) (N : Int), k ≤ xl ∧ i = .int .i64 k ∧ s = .int .i64 N ∧ w5 = wr ∧ Hid (N = edgF (xs.take k))) (fun _ i _ => xl - (intOf i).toNat)
    case atStart => exact ⟨0, 0, Nat.zero_le _, rfl, rfl, rfl, rfl⟩
    case round =>
      obtain ⟨k, N, hk, rfl, rfl, rfl, HE⟩ := hrel
      by_cases hlt : k < xl
      · obtain ⟨b2, off2, rfl, ⟨c0, c1, c2, c3, c4, c5, c6⟩⟩ := HND.out.2.2 k hlt
        have HSN := hide (edgF_snoc xs k (by rw [HND.out.1]; exact hlt))
        obtain ⟨n, hn⟩ : ∃ n, xs.getD k default = n := ⟨_, rfl⟩
        rw [hn] at c1 HSN
        clear c0 c2 c3 c4 c5 c6 hn
        obtain ⟨op, ia, il, ic, ins, ta, tl, tc, no, qa, ql, qc, qs, da, dl, dc, ha, hl', hc, hs⟩ := n
        simp only at c1 HSN
        go_wp2_with fail
        go_roundw
        case rel => exact ⟨k + 1, _, by omega, by go_num, rfl, trivial, by unfold Hid; rw [HSN.out, ← HE.out]⟩
        case measure => simp [intOf]; omega
      · obtain rfl : xl = k := by omega
        have HR : Hid (edgF xs = N) := by
          have h := HE.out
          rw [← HND.out.1, List.take_length] at h
          exact h.symm
        rw [HR.out] at C6
        go_wp2_with (go_at_call 14; (with_reducible refine C6.out.mono ?_); rintro e w6 ⟨rfl, hb6⟩; have HB6 := hide (HB5.out.trans (hb6.mono HB5.out.size)); clear hb6)
        go_ret
        exact ⟨rfl, HB6.out⟩
end Go.Proofs.Ytedpppkknmeheaa.GraphChecks
