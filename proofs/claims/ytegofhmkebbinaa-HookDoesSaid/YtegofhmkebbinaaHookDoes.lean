/-
  HookDoes: any hooks, any tensor: hook.Do's tensor and error are the document's, bit for bit but for a NaN's; whether hooks may be. No condition.
-/
import Derived.Test.YtegofhmkebbinaaSh12
namespace Go.Proofs.Ytegofhmkebbinaa.HookDoes
open Go.RowKit

set_option maxHeartbeats 8000000 in
theorem walk (p : Option Addr) (len cap : Nat) (hs : List (Int × Nat)) (a : Option Addr) (n c : Nat) (S : List Int) (b : Option Addr) (m d : Nat) (D : List Nat) (w : World) (hH : Hks w p len cap hs) (hS : Isl w .i64 a n c S) (hD : Fl.Sl w b m d D) (hz : b = none → d = 0) :
    Calls Try.prog 3 #[.slice p len cap, .agg #[.slice a n c, .slice b m d]] w fun e w' => e = .returned (.bool true) ∧ Below w.heap.size w w' := by
  have hb0 : Below w.heap.size w (w.alloc (.cells #[.slice a n c, .slice b m d] 26)) := (Below.refl _ _).alloc (Nat.le_refl _) _
  have r0 := heap_alloc_new w (.cells #[.slice a n c, .slice b m d] 26)
  have HH := hide (hH.later hb0)
  have HS := hide (hS.later hb0)
  have HD := hide (hD.later hb0)
  have hl0 : (w.alloc (.cells #[.slice a n c, .slice b m d] 26)).heap.size = w.heap.size + 1 := by simp
  clear hH hS hD
  go_enter Try.func3, Try.ntmps3
  go_wp2_with fail
  generalize w.alloc (.cells #[.slice a n c, .slice b m d] 26) = W at hb0 r0 hl0 HH HS HD ⊢
  have HL0 := hide hl0
  have HR0 := hide r0
  have HB0 := hide hb0
  clear hb0 r0 hl0
  refine (awake_any W).mono ?_
  rintro e w1 ⟨rfl, hb1⟩
  have hr1 := (hb1.block w.heap.size (by rw [HL0.out]; omega)).trans HR0.out
  have HR1 := hide hr1
  have HH1 := hide (HH.out.later hb1)
  have HS1 := hide (HS.out.later hb1)
  have HD1 := hide (HD.out.later hb1)
  have HB1 := hide (HB0.out.trans (hb1.mono HB0.out.size))
  obtain ⟨p0, p1, p2, p3⟩ := two_cells hr1
  have hw1 : w.heap.size < w1.heap.size := lt_of_row hr1
  have HW1 := hide hw1
  clear hb1 hr1
  by_cases h40 : 40 < len
  · have e1 : decide (40 < (len : Int)) = true := by simp; omega
    clear h40
    go_wp2_with fail
    go_ret
    exact ⟨rfl, HB1.out⟩
  · have e1 : decide (40 < (len : Int)) = false := by simp; omega
    have C := hide (small_any a n c b m d w1)
    cases hs0 : (decide (n ≤ 40) && decide (m ≤ 8192)) with
    | false =>
      rw [hs0] at C
      have HZ := hide hs0
      clear hs0
      go_wp2_with (go_at_call 8; refine C.out.mono ?_; rintro e w2 ⟨rfl, hb2⟩; have HB2 := hide (HB1.out.trans (hb2.mono HB1.out.size)); clear hb2)
      go_ret
      exact ⟨rfl, HB2.out⟩
    | true =>
      rw [hs0] at C
      have hnm : n ≤ 40 ∧ m ≤ 8192 := by simpa using hs0
      obtain ⟨hn, hm⟩ := hnm
      clear hs0
      go_wp2_with (go_at_call 8; refine C.out.mono ?_; rintro e w2 ⟨rfl, hb2⟩; have HB2 := hide hb2; have hr2 := (hb2.block _ HW1.out).trans HR1.out; obtain ⟨q0, q1, q2, q3⟩ := two_cells hr2; have HR2 := hide hr2; clear hb2 hr2)
      have hH2 := HH1.out.later HB2.out
      have hS2 := HS1.out.later HB2.out
      have hD2 := HD1.out.later HB2.out
      have HH2 := hide hH2
      have HS2 := hide hS2
      have HD2 := hide hD2
      refine (do_any p len cap hs a n c b m d S D w2 hH2 hS2 hD2 (by omega) (by omega) (by omega)).mono ?_
      rintro e w3 ⟨⟨a3, n3, c3, b3, m3, d3, D3, he, ht3, hD3⟩, hb3⟩
      obtain ⟨⟨E, S', C'⟩, hres⟩ : ∃ r, resC hs S (D.map Fl.can) = r := ⟨_, rfl⟩
      rw [hres] at he ht3 hD3
      subst he
      simp only at ht3 hD3 ⊢
      have HRES := hide hres
      have hb23 : Below w2.heap.size w2 (w3.alloc (.cells #[.slice a3 n3 c3, .slice b3 m3 d3] 26)) := hb3.alloc hb3.size _
      have hr3 := (hb3.block w.heap.size (lt_of_row HR2.out)).trans HR2.out
      have hr4 := (hb23.block w.heap.size (lt_of_row HR2.out)).trans HR2.out
      have hn4 : w.heap.size < w3.heap.size := lt_of_row hr3
      have hm4 : w.heap.size ≠ w3.heap.size := by omega
      have hx4 := heap_alloc_new w3 (.cells #[.slice a3 n3 c3, .slice b3 m3 d3] 26)
      have hl4 : w3.heap.size < (w3.alloc (.cells #[.slice a3 n3 c3, .slice b3 m3 d3] 26)).heap.size := by simp
      have HT3 := hide (ht3.below ((Below.refl _ _).alloc (Nat.le_refl _) (.cells #[.slice a3 n3 c3, .slice b3 m3 d3] 26)))
      have HD3 := hide hD3
      have HB23 := hide hb23
      have HR4 := hide hr4
      have HX4 := hide hx4
      have HL4 := hide hl4
      obtain ⟨o0, o1, o2, o3⟩ := two_cells hr3
      clear hb3 hb23 hr3 hr4 hx4 hl4 ht3 hD3 hres hH2 hS2 hD2 p0 p1 p2 p3 q0 q1 q2 q3
      go_wp2_with fail
      generalize w3.alloc (.cells #[.slice a3 n3 c3, .slice b3 m3 d3] 26) = w4 at HB23 HR4 HX4 HL4 HT3 ⊢
      refine (do_ref p len cap hs a n c b m d S D w4 (HH2.out.later HB23.out) (HS2.out.later HB23.out) (HD2.out.later HB23.out) (by omega) (by omega) (by omega) hz).mono ?_
      rintro e w5 ⟨⟨a5, n5, c5, b5, m5, d5, D5, he, hS5, hF5, hD5⟩, hb5⟩
      rw [HRES.out] at he hS5 hD5
      subst he
      simp only at hS5 hD5 ⊢
      obtain rfl : n3 = n5 := HT3.out.isl.1.symm.trans hS5.1
      obtain rfl : m3 = m5 := by
        have h1 := HT3.out.sl.1
        have h2 := hF5.1
        have h3 := congrArg List.length (HD3.out.trans hD5.symm)
        simp only [List.length_map] at h3
        omega
      have hS5' := hS5
      have hb6 : Below w5.heap.size w5 (w5.alloc (.cells #[.slice a5 n3 c5, .slice b5 m3 d5] 26)) := (Below.refl _ _).alloc (Nat.le_refl _) _
      have hx5 := (hb5.block w3.heap.size HL4.out).trans HX4.out
      have hx6 := (hb6.block w3.heap.size (lt_of_row hx5)).trans hx5
      have hz6 := heap_alloc_new w5 (.cells #[.slice a5 n3 c5, .slice b5 m3 d5] 26)
      have hn6 : w3.heap.size < w5.heap.size := lt_of_row hx5
      have hm6 : w3.heap.size ≠ w5.heap.size := by omega
      obtain ⟨t0, t1, t2, t3⟩ := two_cells hx6
      obtain ⟨u0, u1, u2, u3⟩ := two_cells hz6
      have hall : Below w2.heap.size w2 (w5.alloc (.cells #[.slice a5 n3 c5, .slice b5 m3 d5] 26)) := (HB23.out.trans (hb5.mono HB23.out.size)).alloc (Nat.le_trans HB23.out.size hb5.size) _
      have hn3 : n3 ≤ 1099511627776 := by
        have h1 := hS5.1
        have h2 := HRES.out
        have h3 := (HS2.out).1
        unfold resC at h2
        have : S'.length ≤ S.length := by
          split at h2
          · cases h2; simp
          · split at h2
            · cases h2; simp
            · split at h2 <;> cases h2 <;> simp
        omega
      have hm3 : m3 ≤ 1099511627776 := by
        have h1 := hF5.1
        have h4 := congrArg List.length hD5
        have h2 := HRES.out
        have h3 := (HD2.out).1
        rw [List.length_map] at h4
        have : C'.length ≤ D.length := by have := res_len h2; rwa [List.length_map] at this
        omega
      have HSM := hide (same_tensor a3 n3 c3 b3 m3 d3 a5 c5 b5 d5 S' D3 D5 _ ((HT3.out.isl.later hb5).later hb6) ((HT3.out.sl.later hb5).later hb6) (hS5.later hb6) (hF5.later hb6) hn3 hm3 (HD3.out.trans hD5.symm))
      have HALL := hide hall
      have eE : (E == E) = true := by simp
      clear hb5 hb6 hx5 hx6 hz6 hall hS5 hF5 hD5 hS5' hn3 hm3 o0 o1 o2 o3
      go_wp2_with fail
      generalize w5.alloc (.cells #[.slice a5 n3 c5, .slice b5 m3 d5] 26) = w6 at HSM HALL t0 t1 t2 t3 u0 u1 u2 u3 ⊢
      refine HSM.out.mono ?_
      rintro e w7 ⟨rfl, hb7⟩
      have hall7 := HALL.out.trans (hb7.mono HALL.out.size)
      have C1 := hide (mays_any p len cap hs w7 (HH2.out.later hall7) (by omega))
      have HALL7 := hide hall7
      clear hb7 hall7 t0 t1 t2 t3 u0 u1 u2 u3
      cases hmb : maysB hs
      all_goals (
        rw [hmb] at C1
        go_wp2_with fail
        refine C1.out.mono ?_
        rintro e w8 ⟨rfl, hb8⟩
        have hall8 := HALL7.out.trans (hb8.mono HALL7.out.size)
        have C2 := hide (mays_ref p len cap hs w8 (HH2.out.later hall8) (by omega))
        rw [hmb] at C2
        have HALL8 := hide hall8
        clear hb8 hall8
        go_wp2_with fail
        refine C2.out.mono ?_
        rintro e w9 ⟨rfl, hb9⟩
        have HALL9 := hide (HB1.out.trans ((HB2.out.trans ((HALL8.out.trans (hb9.mono HALL8.out.size)).mono HB2.out.size)).mono HB1.out.size))
        clear hb9
        go_wp2_with fail
        go_ret
        exact ⟨rfl, HALL9.out⟩)
end Go.Proofs.Ytegofhmkebbinaa.HookDoes
