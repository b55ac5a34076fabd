/-
  container/heap's up and down over a pile's row. No condition.
-/
import Derived.Test.YtlakffjodlandaaPile2
namespace Go.Proofs.Ytlakffjodlandaa
open Go.RowKit
attribute [local go_sem] m_less m_swap m_len

set_option maxHeartbeats 4000000 in
theorem up_any (g h n cap j : Nat) (xs : List It) (w : World) (hgh : g ≠ h) (hg : w.cell? ⟨g, 0, none⟩ = some (.slice (some ⟨h, 0, none⟩) n cap)) (r : RowM w h cap xs) (hl : xs.length = n) (hn : n ≤ 1099511627776)
    (hu : UpI n (fn xs) j) :
    Calls Try.prog 23 #[.iface 58 (.pointer (some ⟨g, 0, none⟩)), .int .i64 j] w fun e w' =>
      e = .returned (.tuple #[]) ∧ ∃ ys, RowM w' h cap ys ∧ ys.Perm xs ∧ HeapI n (fn ys) ∧ Only (· = h) w w' := by
  have HG := hide hgh
  have HL := hide hl
  have HR := hide r
  have HU := hide hu
  clear hl r hu hgh
  go_enter Try.func23, Try.ntmps23
  go_wp2_with fail
  go_loopw [1, 4] (fun j _ wr => ∃ (k : Nat) (ys : List It), j = .int .i64 k ∧ RowM wr h cap ys ∧ ys.Perm xs ∧ UpI n (fn ys) k ∧ Only (· = h) w wr) (fun j _ _ => (intOf j).toNat)
  case atStart => exact ⟨j, xs, rfl, HR.out, .refl _, HU.out, Only.refl _ _⟩
  case round =>
    obtain ⟨k, ys, rfl, hrow, hp, hui, honly⟩ := hrel
    have hkn : k < n := hui.1
    have hyl : ys.length = n := by rw [hp.length_eq]; exact HL.out
    have hgr : wr.cell? ⟨g, 0, none⟩ = some (.slice (some ⟨h, 0, none⟩) n cap) := honly.cell hg (fun e => HG.out e)
    have HY := hide hyl
    have HROW := hide hrow
    have HP := hide hp
    have HUI := hide hui
    have HO := hide honly
    clear hyl hrow hp hui honly
    by_cases hk : k = 0
    · subst hk
      go_wp2_with fail
      go_end0
      exact ⟨rfl, ys, HROW.out, HP.out, up_end HUI.out (.inl rfl), HO.out⟩
    · have h1 : (((k : Int) - 1) / 2 == (k : Int)) = false := by simp; omega
      have h2 : (((k : Int) - 1) / 2) = (((k - 1) / 2 : Nat) : Int) := by omega
      have hk1 : 1 ≤ k := by omega
      have H2 := hide h2
      clear h2 hk
      cases hb : lessB (fn ys k) (fn ys ((k - 1) / 2)) with
      | false =>
        have HB := hide hb
        clear hb
        go_wp2_with (go_at_call 43; refine (less_row k ((k - 1) / 2) rfl (by omega) HROW.out HY.out hkn (by omega) false HB.out).mono ?_; rintro e w2 ⟨rfl, hbe⟩)
        go_end0
        exact ⟨rfl, ys, HROW.out.below hbe, HP.out, up_end HUI.out (.inr HB.out), HO.out.trans (Only.of_below hbe)⟩
      | true =>
        have HB := hide hb
        clear hb
        go_wp2_with (go_at_call 43; refine (less_row k ((k - 1) / 2) rfl (by omega) HROW.out HY.out hkn (by omega) true HB.out).mono ?_; rintro e w2 ⟨rfl, hbe⟩; have HBE := hide hbe; have hgr2 := cell_later hbe hgr; clear hbe)
        have RW := hide (HROW.out.below HBE.out)
        go_wp2_with (go_at_call 44; refine (swap_row ((k - 1) / 2) k (by omega) rfl RW.out HY.out (by omega) hkn (by omega)).mono ?_; rintro e w3 ⟨rfl, hr3, ho3⟩; have HR3 := hide hr3; have HO3 := hide ho3; clear hr3 ho3)
        go_roundw
        case rel =>
          refine ⟨(k - 1) / 2, swl ys ((k - 1) / 2) k, by rw [H2.out], HR3.out, (perm_swl ys _ _ (by rw [HY.out]; omega) (by rw [HY.out]; exact hkn)).trans HP.out, ?_, (HO.out.trans (Only.of_below HBE.out)).trans HO3.out⟩
          rw [fn_swl ys _ _ (by rw [HY.out]; omega) (by rw [HY.out]; exact hkn)]
          exact up_step HUI.out hk1 HB.out
        case measure => rw [H2.out]; simp [intOf]; omega

set_option maxHeartbeats 8000000 in
theorem down_any (g h n cap m s : Nat) (xs : List It) (w : World) (hgh : g ≠ h) (hg : w.cell? ⟨g, 0, none⟩ = some (.slice (some ⟨h, 0, none⟩) m cap)) (r : RowM w h cap xs) (hl : xs.length = m) (hm : m ≤ 1099511627776) (hnm : n ≤ m) (hsm : s < m)
    (hd : HeapFrom (s + 1) n (fn xs)) :
    Calls Try.prog 24 #[.iface 58 (.pointer (some ⟨g, 0, none⟩)), .int .i64 s, .int .i64 n] w fun e w' =>
      ∃ b ys, e = .returned (.bool b) ∧ RowM w' h cap ys ∧ ys.Perm xs ∧ HeapFrom s n (fn ys) ∧ (∀ k, n ≤ k → k < m → fn ys k = fn xs k) ∧ Only (· = h) w w' := by
  have HG := hide hgh
  have HL := hide hl
  have HR := hide r
  have HD := hide (down_begin hd)
  clear hl r hd hgh
  go_enter Try.func24, Try.ntmps24
  go_wp2_with fail
  go_loopw [7, 8, 9, 10] (fun i _ _ _ wr => ∃ (k : Nat) (ys : List It), i = .int .i64 k ∧ k < m ∧ RowM wr h cap ys ∧ ys.Perm xs ∧ DownI s n (fn ys) k ∧ (∀ k, n ≤ k → k < m → fn ys k = fn xs k) ∧ Only (· = h) w wr) (fun i _ _ _ _ => m - (intOf i).toNat)
  case atStart => exact ⟨s, xs, rfl, hsm, HR.out, .refl _, HD.out, fun _ _ _ => rfl, Only.refl _ _⟩
  case round =>
    obtain ⟨k, ys, rfl, hkm, hrow, hp, hdi, hrest, honly⟩ := hrel
    have hyl : ys.length = m := by rw [hp.length_eq]; exact HL.out
    have hgr : wr.cell? ⟨g, 0, none⟩ = some (.slice (some ⟨h, 0, none⟩) m cap) := honly.cell hg (fun e => HG.out e)
    have HY := hide hyl
    have HROW := hide hrow
    have HP := hide hp
    have HDI := hide hdi
    have HRE := hide hrest
    have HO := hide honly
    clear hyl hrow hp hdi hrest honly
    by_cases hc : n ≤ 2 * k + 1
    · have hc' : (n : Int) ≤ 2 * (k : Int) + 1 := by omega
      go_wp2_with fail
      all_goals
        go_ret
        exact ⟨_, ys, rfl, HROW.out, HP.out, down_end HDI.out (fun i hi hik => by omega), HRE.out, HO.out⟩
    · have hc1 : 2 * (k : Int) + 1 < (n : Int) := by omega
      have hc0 : ¬ (2 * (k : Int) + 1 < 0) := by omega
      have hcd : decide (2 * (k : Int) + 1 < 0) = false := by simpa using hc0
      have hj1 : 2 * k + 1 < n := by omega
      clear hc
      by_cases h2 : 2 * k + 2 < n
      · have h2' : 2 * (k : Int) + 1 + 1 < (n : Int) := by omega
        cases hb : lessB (fn ys (2 * k + 2)) (fn ys (2 * k + 1)) with
        | false =>
          have HB := hide hb
          clear hb
          cases hb2 : lessB (fn ys (2 * k + 1)) (fn ys k) with
          | false =>
            have HB2 := hide hb2
            clear hb2
            go_wp2_with fail
            refine (less_row (2 * k + 2) (2 * k + 1) (by omega) (by omega) HROW.out HY.out (by omega) (by omega) false HB.out).mono ?_
            rintro e w2 ⟨rfl, hbe⟩
            have HBE2 := hide hbe
            have hgr2 := cell_later hbe hgr
            have RW := hide (HROW.out.below hbe)
            clear hbe
            go_wp2_with fail
            all_goals
              refine (less_row (2 * k + 1) k (by omega) rfl RW.out HY.out (by omega) (by omega) false HB2.out).mono ?_
              rintro e w3 ⟨rfl, hbe⟩
              have HBE3 := hide hbe
              clear hbe
              go_wp2_with fail
              go_ret
              exact ⟨_, ys, rfl, RW.out.below HBE3.out, HP.out, down_end HDI.out (fun i _ hik => by rcases hik with rfl | rfl <;> first | exact HB2.out | exact Bf.trans HB2.out HB.out), HRE.out, (HO.out.trans (Only.of_below HBE2.out)).trans (Only.of_below HBE3.out)⟩
          | true =>
            have HB2 := hide hb2
            clear hb2
            go_wp2_with fail
            refine (less_row (2 * k + 2) (2 * k + 1) (by omega) (by omega) HROW.out HY.out (by omega) (by omega) false HB.out).mono ?_
            rintro e w2 ⟨rfl, hbe⟩
            have HBE2 := hide hbe
            have hgr2 := cell_later hbe hgr
            have RW := hide (HROW.out.below hbe)
            clear hbe
            go_wp2_with fail
            all_goals
              refine (less_row (2 * k + 1) k (by omega) rfl RW.out HY.out (by omega) (by omega) true HB2.out).mono ?_
              rintro e w3 ⟨rfl, hbe⟩
              have HBE3 := hide hbe
              have hgr3 := cell_later hbe hgr2
              have RW3 := hide (RW.out.below hbe)
              clear hbe
              go_wp2_with fail
              refine (swap_row k (2 * k + 1) rfl (by omega) RW3.out HY.out (by omega) (by omega) (by omega)).mono ?_
              rintro e w4 ⟨rfl, hr4, ho4⟩
              have HR4 := hide hr4
              have HO4 := hide ho4
              clear hr4 ho4
              go_wp2_with fail
              go_roundw
              case rel =>
                refine ⟨2 * k + 1, swl ys k (2 * k + 1), by go_num, by omega, HR4.out, (perm_swl ys _ _ (by rw [HY.out]; omega) (by rw [HY.out]; omega)).trans HP.out, ?_, fun i hi him => ?_, ((HO.out.trans (Only.of_below HBE2.out)).trans (Only.of_below HBE3.out)).trans HO4.out⟩
                · rw [fn_swl ys _ _ (by rw [HY.out]; omega) (by rw [HY.out]; omega)]
                  exact down_step HDI.out (by omega) (by omega) (fun i _ hik => by rcases hik with rfl | rfl <;> first | exact Bf.refl _ | exact HB.out) HB2.out
                · rw [fn_swl ys _ _ (by rw [HY.out]; omega) (by rw [HY.out]; omega), sw, if_neg (by omega), if_neg (by omega)]
                  exact HRE.out i hi him
              case measure => simp [intOf]; omega
        | true =>
          have HB := hide hb
          clear hb
          cases hb2 : lessB (fn ys (2 * k + 2)) (fn ys k) with
          | false =>
            have HB2 := hide hb2
            clear hb2
            go_wp2_with fail
            refine (less_row (2 * k + 2) (2 * k + 1) (by omega) (by omega) HROW.out HY.out (by omega) (by omega) true HB.out).mono ?_
            rintro e w2 ⟨rfl, hbe⟩
            have HBE2 := hide hbe
            have hgr2 := cell_later hbe hgr
            have RW := hide (HROW.out.below hbe)
            clear hbe
            go_wp2_with fail
            all_goals
              refine (less_row (2 * k + 2) k (by omega) rfl RW.out HY.out (by omega) (by omega) false HB2.out).mono ?_
              rintro e w3 ⟨rfl, hbe⟩
              have HBE3 := hide hbe
              clear hbe
              go_wp2_with fail
              go_ret
              exact ⟨_, ys, rfl, RW.out.below HBE3.out, HP.out, down_end HDI.out (fun i _ hik => by rcases hik with rfl | rfl <;> first | exact HB2.out | exact Bf.trans HB2.out (bf_of_less HB.out)), HRE.out, (HO.out.trans (Only.of_below HBE2.out)).trans (Only.of_below HBE3.out)⟩
          | true =>
            have HB2 := hide hb2
            clear hb2
            go_wp2_with fail
            refine (less_row (2 * k + 2) (2 * k + 1) (by omega) (by omega) HROW.out HY.out (by omega) (by omega) true HB.out).mono ?_
            rintro e w2 ⟨rfl, hbe⟩
            have HBE2 := hide hbe
            have hgr2 := cell_later hbe hgr
            have RW := hide (HROW.out.below hbe)
            clear hbe
            go_wp2_with fail
            all_goals
              refine (less_row (2 * k + 2) k (by omega) rfl RW.out HY.out (by omega) (by omega) true HB2.out).mono ?_
              rintro e w3 ⟨rfl, hbe⟩
              have HBE3 := hide hbe
              have hgr3 := cell_later hbe hgr2
              have RW3 := hide (RW.out.below hbe)
              clear hbe
              go_wp2_with fail
              refine (swap_row k (2 * k + 2) rfl (by omega) RW3.out HY.out (by omega) (by omega) (by omega)).mono ?_
              rintro e w4 ⟨rfl, hr4, ho4⟩
              have HR4 := hide hr4
              have HO4 := hide ho4
              clear hr4 ho4
              go_wp2_with fail
              go_roundw
              case rel =>
                refine ⟨2 * k + 2, swl ys k (2 * k + 2), by go_num, by omega, HR4.out, (perm_swl ys _ _ (by rw [HY.out]; omega) (by rw [HY.out]; omega)).trans HP.out, ?_, fun i hi him => ?_, ((HO.out.trans (Only.of_below HBE2.out)).trans (Only.of_below HBE3.out)).trans HO4.out⟩
                · rw [fn_swl ys _ _ (by rw [HY.out]; omega) (by rw [HY.out]; omega)]
                  exact down_step HDI.out (by omega) (by omega) (fun i _ hik => by rcases hik with rfl | rfl <;> first | exact Bf.refl _ | exact bf_of_less HB.out) HB2.out
                · rw [fn_swl ys _ _ (by rw [HY.out]; omega) (by rw [HY.out]; omega), sw, if_neg (by omega), if_neg (by omega)]
                  exact HRE.out i hi him
              case measure => simp [intOf]; omega
      · have h2' : ¬ (2 * (k : Int) + 1 + 1 < (n : Int)) := by omega
        have h2d : decide (2 * (k : Int) + 1 + 1 < (n : Int)) = false := by simpa using h2'
        cases hb2 : lessB (fn ys (2 * k + 1)) (fn ys k) with
        | false =>
          have HB2 := hide hb2
          clear hb2
          go_wp2_with fail
          all_goals
            refine (less_row (2 * k + 1) k (by omega) rfl HROW.out HY.out (by omega) (by omega) false HB2.out).mono ?_
            rintro e w3 ⟨rfl, hbe⟩
            have HBE3 := hide hbe
            clear hbe
            go_wp2_with fail
            go_ret
            exact ⟨_, ys, rfl, HROW.out.below HBE3.out, HP.out, down_end HDI.out (fun i hi hik => by rcases hik with rfl | rfl <;> first | exact HB2.out | (exfalso; omega)), HRE.out, HO.out.trans (Only.of_below HBE3.out)⟩
        | true =>
          have HB2 := hide hb2
          clear hb2
          go_wp2_with fail
          all_goals
            refine (less_row (2 * k + 1) k (by omega) rfl HROW.out HY.out (by omega) (by omega) true HB2.out).mono ?_
            rintro e w3 ⟨rfl, hbe⟩
            have HBE3 := hide hbe
            have hgr3 := cell_later hbe hgr
            have RW3 := hide (HROW.out.below hbe)
            clear hbe
            go_wp2_with fail
            refine (swap_row k (2 * k + 1) rfl (by omega) RW3.out HY.out (by omega) (by omega) (by omega)).mono ?_
            rintro e w4 ⟨rfl, hr4, ho4⟩
            have HR4 := hide hr4
            have HO4 := hide ho4
            clear hr4 ho4
            go_wp2_with fail
            go_roundw
            case rel =>
              refine ⟨2 * k + 1, swl ys k (2 * k + 1), by go_num, by omega, HR4.out, (perm_swl ys _ _ (by rw [HY.out]; omega) (by rw [HY.out]; omega)).trans HP.out, ?_, fun i hi him => ?_, (HO.out.trans (Only.of_below HBE3.out)).trans HO4.out⟩
              · rw [fn_swl ys _ _ (by rw [HY.out]; omega) (by rw [HY.out]; omega)]
                exact down_step HDI.out (by omega) (by omega) (fun i hi hik => by rcases hik with rfl | rfl <;> first | exact Bf.refl _ | (exfalso; omega)) HB2.out
              · rw [fn_swl ys _ _ (by rw [HY.out]; omega) (by rw [HY.out]; omega), sw, if_neg (by omega), if_neg (by omega)]
                exact HRE.out i hi him
            case measure => simp [intOf]; omega
end Go.Proofs.Ytlakffjodlandaa
