/-
  The document's Check: the same plain function. No condition.
-/
import Derived.Test.YtedpppkknmeheaaG5
namespace Go.Proofs.Ytedpppkknmeheaa
open Go.RowKit

set_option maxHeartbeats 16000000 in
theorem check_ref (la : Option Addr) (ll lc : Nat) (va : Option Addr) (vl vc : Nat) (V : List (List Int)) (gs : List Gr) (w : World) (hG : Grs w la ll lc gs) (hV : Vs w va vl vc V) :
    Calls Try.prog 13 #[.slice la ll lc, .slice va vl vc] w fun e w' => e = .returned (.tuple #[.int .i64 (check ll vl V gs).1, .int .i64 (check ll vl V gs).2.1, .int .i64 (check ll vl V gs).2.2]) ∧ Below w.heap.size w w' := by
  have HG := hide hG
  have HV := hide hV
  clear hG hV
  by_cases h1 : 16 < ll
  · have HR : Hid (check ll vl V gs = (0, 0, 13)) := by unfold Hid check; rw [if_pos (.inl h1)]
    rw [HR.out]
    go_enter Try.func13, Try.ntmps13
    go_wp2_with fail
    go_ret3
    exact ⟨rfl, Below.refl _ _⟩
  by_cases h2 : 32 < vl
  · have HR : Hid (check ll vl V gs = (0, 0, 13)) := by unfold Hid check; rw [if_pos (.inr h2)]
    rw [HR.out]
    go_enter Try.func13, Try.ntmps13
    go_wp2_with fail
    go_ret3
    exact ⟨rfl, Below.refl _ _⟩
  have HR : Hid (check ll vl V gs = chk ll vl V gs 0) := by unfold Hid check; rw [if_neg (by omega)]
  rw [HR.out]
  obtain ⟨R, hR⟩ : ∃ R, chk ll vl V gs 0 = R := ⟨_, rfl⟩
  rw [hR]
  have HRR := hide hR
  clear hR HR
  go_enter Try.func13, Try.ntmps13
  go_wp2_with fail
  go_loopw [7] (fun i wr => ∃ g : Nat, g ≤ ll ∧ i = .int .i64 g ∧ Below w.heap.size w wr ∧ Hid (chk ll vl V (gs.drop g) g = R)) (fun i _ => ll - (intOf i).toNat)
  case atStart => exact ⟨0, Nat.zero_le _, rfl, Below.refl _ _, HRR.out⟩
  case round =>
    obtain ⟨g, hg, rfl, hbel, HN⟩ := hrel
    by_cases hlt : g < ll
    · obtain ⟨b, off, rfl, hc, hN⟩ := HG.out.2.2 g hlt
      obtain ⟨wo, rfl⟩ : ∃ wo : World, wo = wr := ⟨_, rfl⟩
      have hr := cell_later hbel hc
      have hdrop := drop_cons (l := gs) (k := g) (by rw [HG.out.1]; exact hlt)
      obtain ⟨x, hx⟩ : ∃ x, gs.getD g default = x := ⟨_, rfl⟩
      rw [hx] at hr hN hdrop hc
      have HN0 := HN.out
      rw [hdrop] at HN0
      have HNX := hide HN0
      have HND := hide hN
      have HBE := hide hbel
      obtain ⟨xa, xl, xc, xs⟩ := x
      simp only at hr HND hc
      have HC := hide hc
      clear hx hc hN hdrop HN0 HN hbel
      by_cases z : xl = 0 ∨ 256 < xl
      · have HE : Hid (R = ((g : Int), 0, 13)) := by
          have h := HNX.out
          unfold chk at h
          rw [if_pos z] at h
          exact h.symm
        rcases z with rfl | z
        · go_wp2_with fail
          go_ret3
          rw [HE.out]
          exact ⟨rfl, HBE.out⟩
        · have zn : xl ≠ 0 := by omega
          go_wp2_with fail
          go_ret3
          rw [HE.out]
          exact ⟨rfl, HBE.out⟩
      · have z0 : xl ≠ 0 := fun h => z (.inl h)
        have z1 : ¬ 256 < xl := fun h => z (.inr h)
        have e0 : ((xl : Int) == 0) = false := by rw [beq_eq_false_iff_ne]; omega
        have e1 : decide ((256 : Int) < (xl : Int)) = false := by rw [decide_eq_false_iff_not]; omega
        have HE : Hid ((match bad ll vl V xs 0 with | some (i, e) => ((g : Int), (i : Int), e) | none => chk ll vl V (gs.drop (g + 1)) (g + 1)) = R) := by
          have h := HNX.out
          unfold chk at h
          rw [if_neg z] at h
          exact h
        obtain ⟨B, hB⟩ : ∃ B, bad ll vl V xs 0 = B := ⟨_, rfl⟩
        rw [hB] at HE
        have HBB := hide hB
        clear z hB HNX
        go_wp2_with fail
        clear e0 e1
        go_loopw [8] (fun i wr => ∃ k : Nat, k ≤ xl ∧ i = .int .i64 k ∧ Below w.heap.size w wr ∧ Hid (bad ll vl V (xs.drop k) k = B)) (fun i _ => xl - (intOf i).toNat)
        case atStart => exact ⟨0, Nat.zero_le _, rfl, HBE.out, HBB.out⟩
        case round =>
          obtain ⟨k, hk, rfl, hbel, HK⟩ := hrel
          clear hr
          have hr := cell_later hbel HC.out
          by_cases hlt2 : k < xl
          · obtain ⟨b2, off2, rfl, ⟨c0, c1, c2, c3, c4, c5, c6⟩, hok, hsm⟩ := HND.out.2.2 k hlt2
            have hdrop := drop_cons (l := xs) (k := k) (by rw [HND.out.1]; exact hlt2)
            obtain ⟨n, hn⟩ : ∃ n, xs.getD k default = n := ⟨_, rfl⟩
            rw [hn] at c0 c1 c2 c3 c4 c5 c6 hok hsm hdrop
            have HK0 := HK.out
            rw [hdrop] at HK0
            unfold bad at HK0
            have d0 := cell_later hbel c0
            have d1 := cell_later hbel c1
            have d2 := cell_later hbel c2
            have d3 := cell_later hbel c3
            have d4 := cell_later hbel c4
            have d5 := cell_later hbel c5
            have d6 := cell_later hbel c6
            have C : Hid (∀ w', Below w.heap.size w w' → Calls Try.prog 20 #[n.val, .int .i64 k, .int .i64 ll, .slice va vl vc] w' fun e w2 => e = .returned (.int .i64 (nodeE ll vl V n k)) ∧ Below w.heap.size w w2) :=
              hide (fun w' hbw => (node_ref va vl vc ll n k w' V (hok.later hbw) hsm (HV.out.later hbw)).mono (fun e w2 h => ⟨h.1, hbw.trans (h.2.mono hbw.size)⟩))
            unfold Nd.val at C
            have HBL := hide hbel
            clear hn c0 c1 c2 c3 c4 c5 c6 hok hsm hdrop HK hbel
            by_cases hz : nodeE ll vl V n k = 0
            · rw [if_pos hz] at HK0
              rw [hz] at C
              have HK1 := hide HK0
              clear HK0 hz
              go_wp2_with (go_at_call 20; (with_reducible refine (C.out _ HBL.out).mono ?_); rintro e w2 ⟨rfl, hb2⟩; have HB2 := hide hb2; clear hb2)
              go_roundw
              case rel => exact ⟨k + 1, by omega, by go_num, HB2.out, HK1.out⟩
              case measure => simp [intOf]; omega
            · rw [if_neg hz] at HK0
              have HRR2 : Hid (R = ((g : Int), (k : Int), nodeE ll vl V n k)) := by
                have h := HE.out
                rw [← HK0] at h
                exact h.symm
              have hne : (nodeE ll vl V n k == 0) = false := by simpa using hz
              clear HK0 hz
              generalize nodeE ll vl V n k = e0 at C HRR2 hne
              go_wp2_with (go_at_call 20; (with_reducible refine (C.out _ HBL.out).mono ?_); rintro e w2 ⟨rfl, hb2⟩; have HB2 := hide hb2; clear hb2)
              go_ret3
              rw [HRR2.out]
              exact ⟨rfl, HB2.out⟩
          · obtain rfl : xl = k := by omega
            have HR3 : Hid (chk ll vl V (gs.drop (g + 1)) (g + 1) = R) := by
              have h := HK.out
              rw [List.drop_eq_nil_of_le (by rw [HND.out.1]; exact Nat.le_refl _)] at h
              have h2 := HE.out
              rw [← show none = B from h] at h2
              exact h2
            have HB := hide hbel
            clear hbel
            go_wp2_with fail
            go_roundw
            case rel => exact ⟨g + 1, by omega, by go_num, HB.out, HR3.out⟩
            case measure => simp [intOf]; omega
    · obtain rfl : ll = g := by omega
      have HE : Hid (R = (0, 0, 0)) := by
        have h := HN.out
        rw [List.drop_eq_nil_of_le (by rw [HG.out.1]; exact Nat.le_refl _)] at h
        exact h.symm
      have HB := hide hbel
      clear hbel
      go_wp2_with fail
      go_ret3
      rw [HE.out]
      exact ⟨rfl, HB.out⟩
end Go.Proofs.Ytedpppkknmeheaa
