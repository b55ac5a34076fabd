/-
  HookParts: hooks in two parts, one behind the other, are as all of them at once. No condition.
-/
import Derived.Test.YtegofhmkebbinaaSh12
import Derived.OpenShut
namespace Go.Proofs.Ytegofhmkebbinaa.HookParts
open Go.RowKit

theorem do_append (hs hs' : List (Int × Nat)) : ∀ cs, doC (hs ++ hs') cs = (doC hs cs).bind (doC hs') := by
  induction hs with
  | nil => intro cs; rfl
  | cons h hs ih =>
    intro cs
    show (stepC h cs).bind (doC (hs ++ hs')) = ((stepC h cs).bind (doC hs)).bind (doC hs')
    cases stepC h cs with
    | none => rfl
    | some r => exact ih r
theorem mays_take {hs : List (Int × Nat)} (h : maysB hs = true) (k : Nat) : maysB (hs.take k) = true := by
  unfold maysB at *
  rw [Bool.and_eq_true, decide_eq_true_eq] at *
  refine ⟨by rw [List.length_take]; omega, ?_⟩
  rw [List.all_eq_true] at *
  exact fun x hx => h.2 x (List.mem_of_mem_take hx)
theorem mays_drop {hs : List (Int × Nat)} (h : maysB hs = true) (k : Nat) : maysB (hs.drop k) = true := by
  unfold maysB at *
  rw [Bool.and_eq_true, decide_eq_true_eq] at *
  refine ⟨by rw [List.length_drop]; omega, ?_⟩
  rw [List.all_eq_true] at *
  exact fun x hx => h.2 x (List.mem_of_mem_drop hx)
theorem res_of {hs : List (Int × Nat)} {S : List Int} {cs : List (Option Nat)} (h : maysB hs = true) (hm : mayB S cs.length = true) : resC hs S cs = match doC hs cs with | none => (8, [], []) | some r => (0, S, r) := by
  unfold resC
  rw [if_neg (by rw [h]; simp), if_neg (by rw [hm]; simp)]
  cases doC hs cs <;> rfl
theorem parts_none {hs : List (Int × Nat)} {S : List Int} {cs : List (Option Nat)} (k : Nat) (h : maysB hs = true) (hm : mayB S cs.length = true) (hd : doC (hs.take k) cs = none) : resC (hs.take k) S cs = (8, [], []) ∧ resC hs S cs = (8, [], []) := by
  refine ⟨by rw [res_of (mays_take h k) hm, hd], ?_⟩
  rw [res_of h hm, ← List.take_append_drop k hs, do_append, hd]; rfl
theorem parts_some {hs : List (Int × Nat)} {S : List Int} {cs r : List (Option Nat)} (k : Nat) (h : maysB hs = true) (hm : mayB S cs.length = true) (hd : doC (hs.take k) cs = some r) : resC (hs.take k) S cs = (0, S, r) ∧ resC (hs.drop k) S r = resC hs S cs := by
  refine ⟨by rw [res_of (mays_take h k) hm, hd], ?_⟩
  rw [res_of (mays_drop h k) (by rw [do_len hd]; exact hm), res_of h hm]
  conv => rhs; rw [← List.take_append_drop k hs]
  rw [do_append, hd]; rfl
theorem hks_take {w : World} {p : Option Addr} {len cap : Nat} {hs : List (Int × Nat)} (h : Hks w p len cap hs) {k : Nat} (hk' : k ≤ len) : Hks w p k cap (hs.take k) := by
  refine ⟨by rw [List.length_take, h.1]; omega, Nat.le_trans hk' h.2.1, fun i hi => ?_⟩
  have e : hk (hs.take k) i = hk hs i := by unfold hk; simp [List.getD, hi]
  rw [e]
  exact h.2.2 i (by omega)
theorem hks_drop {w : World} {b off len cap : Nat} {hs : List (Int × Nat)} (h : Hks w (some ⟨b, off, none⟩) len cap hs) {k : Nat} (hk' : k ≤ len) : Hks w (some ⟨b, off + k * 2, none⟩) (len - k) (cap - k) (hs.drop k) := by
  have h1 := h.1
  have h2 := h.2.1
  refine ⟨by rw [List.length_drop]; omega, by omega, fun i hi => ?_⟩
  have e : hk (hs.drop k) i = hk hs (k + i) := by unfold hk; simp [List.getD, List.getElem?_drop]
  rw [e]
  obtain ⟨b', off', hb, c0, c1⟩ := h.2.2 (k + i) (by omega)
  cases hb
  refine ⟨b, off + k * 2, rfl, ?_, ?_⟩
  · rw [show off + k * 2 + i * 2 = off + (k + i) * 2 by omega]; exact c0
  · rw [show off + k * 2 + i * 2 = off + (k + i) * 2 by omega]; exact c1
theorem hks_nil (w : World) (p : Option Addr) (c : Nat) : Hks w p 0 c [] := ⟨rfl, Nat.zero_le _, fun i hi => by omega⟩

set_option maxHeartbeats 8000000 in
theorem walk (p : Option Addr) (len cap : Nat) (hs : List (Int × Nat)) (a : Option Addr) (n c : Nat) (S : List Int) (b : Option Addr) (m d : Nat) (D : List Nat) (cut : Int) (w : World) (hH : Hks w p len cap hs) (hS : Isl w .i64 a n c S) (hD : Fl.Sl w b m d D) (_hz : b = none → d = 0) (hpn : p = none → cap = 0) (hcut : (Lit.int .u8 cut).wf = true) :
    Calls Try.prog 4 #[.slice p len cap, .agg #[.slice a n c, .slice b m d], .int .u8 cut] w fun e w' => e = .returned (.bool true) ∧ Below w.heap.size w w' := by
  have hb0 : Below w.heap.size w (w.alloc (.cells #[.slice a n c, .slice b m d] 26)) := (Below.refl _ _).alloc (Nat.le_refl _) _
  have r0 := heap_alloc_new w (.cells #[.slice a n c, .slice b m d] 26)
  have hcb : 0 ≤ cut ∧ cut ≤ 255 := bounds_u8 hcut
  obtain ⟨hc0, hc1⟩ := hcb
  have HH := hide (hH.later hb0)
  have HS := hide (hS.later hb0)
  have HD := hide (hD.later hb0)
  have hl0 : (w.alloc (.cells #[.slice a n c, .slice b m d] 26)).heap.size = w.heap.size + 1 := by simp
  have HPN := hide hpn
  have HHL := hide hH.1
  have HCL := hide hH.2.1
  have HDL := hide hD.1
  have HSL := hide hS.1
  clear hH hS hD hcut hpn
  go_enter Try.func4, Try.ntmps4
  go_wp2_with fail
  generalize w.alloc (.cells #[.slice a n c, .slice b m d] 26) = W at hb0 r0 hl0 HH HS HD ⊢
  have HL0 := hide hl0
  have HR0 := hide r0
  have HB0 := hide hb0
  clear hb0 r0 hl0
  refine (awake_any W).mono ?_
  rintro e w1 ⟨rfl, hb1⟩
  have hr1 := (hb1.block w.heap.size (by rw [HL0.out]; omega)).trans HR0.out
  have HR1 := hide hr1
  have HH1 := hide (HH.out.later hb1)
  have HS1 := hide (HS.out.later hb1)
  have HD1 := hide (HD.out.later hb1)
  have HB1 := hide (HB0.out.trans (hb1.mono HB0.out.size))
  obtain ⟨p0, p1, p2, p3⟩ := two_cells hr1
  have hw1 : w.heap.size < w1.heap.size := lt_of_row hr1
  have HW1 := hide hw1
  clear hb1 hr1
  by_cases h40 : 40 < len
  · have e1 : decide (40 < (len : Int)) = true := by simp; omega
    clear h40
    go_wp2_with fail
    go_ret
    exact ⟨rfl, HB1.out⟩
  · have e1 : decide (40 < (len : Int)) = false := by simp; omega
    have C := hide (small_any a n c b m d w1)
    cases hs0 : (decide (n ≤ 40) && decide (m ≤ 8192)) with
    | false =>
      rw [hs0] at C
      have HZ := hide hs0
      clear hs0
      go_wp2_with (go_at_call 8; refine C.out.mono ?_; rintro e w2 ⟨rfl, hb2⟩; have HB2 := hide (HB1.out.trans (hb2.mono HB1.out.size)); clear hb2)
      go_ret
      exact ⟨rfl, HB2.out⟩
    | true =>
      rw [hs0] at C
      have hnm : n ≤ 40 ∧ m ≤ 8192 := by simpa using hs0
      obtain ⟨hn, hm⟩ := hnm
      have C1 := hide (fun (w2 : World) (hb : Below w1.heap.size w1 w2) => mays_ref p len cap hs w2 (HH1.out.later hb) (by omega))
      clear hs0
      cases hmy : maysB hs with
      | false =>
        rw [hmy] at C1
        have HZ := hide hmy
        clear hmy
        go_wp2_with (first
          | (go_at_call 8; refine C.out.mono ?_; rintro e w2 ⟨rfl, hb2⟩; have HB2 := hide hb2; clear hb2)
          | (go_at_call 13; refine (C1.out _ HB2.out).mono ?_; rintro e w3 ⟨rfl, hb3⟩; have HB3 := hide (HB1.out.trans ((HB2.out.trans (hb3.mono HB2.out.size)).mono HB1.out.size)); clear hb3))
        go_ret
        exact ⟨rfl, HB3.out⟩
      | true =>
        rw [hmy] at C1
        have HMY := hide hmy
        have C2 := hide (fun (w2 : World) (hb : Below w1.heap.size w1 w2) => may_ref a n c b m d S w2 (HS1.out.later hb) (by omega))
        clear hmy
        cases hmt : mayB S m with
        | false =>
          rw [hmt] at C2
          have HZ := hide hmt
          clear hmt
          go_wp2_with (first
            | (go_at_call 8; refine C.out.mono ?_; rintro e w2 ⟨rfl, hb2⟩; have HB2 := hide hb2; clear hb2)
            | (go_at_call 13; refine (C1.out _ HB2.out).mono ?_; rintro e w3 ⟨rfl, hb3⟩; have HB3 := hide (HB2.out.trans (hb3.mono HB2.out.size)); obtain ⟨q0, q1, q2, q3⟩ := two_cells ((HB3.out.block _ HW1.out).trans HR1.out); clear hb3)
            | (go_at_call 14; refine (C2.out _ HB3.out).mono ?_; rintro e w4 ⟨rfl, hb4⟩; have HB4 := hide (HB1.out.trans ((HB3.out.trans (hb4.mono HB3.out.size)).mono HB1.out.size)); clear hb4))
          go_ret
          exact ⟨rfl, HB4.out⟩
        | true =>
          rw [hmt] at C2
          have HMT := hide hmt
          clear hmt
          go_wp2_with (first
            | (go_at_call 8; refine C.out.mono ?_; rintro e w2 ⟨rfl, hb2⟩; have HB2 := hide hb2; clear hb2)
            | (go_at_call 13; refine (C1.out _ HB2.out).mono ?_; rintro e w3 ⟨rfl, hb3⟩; have HB3 := hide (HB2.out.trans (hb3.mono HB2.out.size)); obtain ⟨q0, q1, q2, q3⟩ := two_cells ((HB3.out.block _ HW1.out).trans HR1.out); clear hb3)
            | (go_at_call 14; refine (C2.out _ HB3.out).mono ?_; rintro e w4 ⟨rfl, hb4⟩; have HB4 := hide (HB3.out.trans (hb4.mono HB3.out.size)); obtain ⟨o0, o1, o2, o3⟩ := two_cells ((HB4.out.block _ HW1.out).trans HR1.out); clear hb4))
          have hall4 := HB4.out
          obtain ⟨⟨E, S', C'⟩, hres⟩ : ∃ r, resC hs S (D.map Fl.can) = r := ⟨_, rfl⟩
          refine (do_any p len cap hs a n c b m d S D w4 (HH1.out.later hall4) (HS1.out.later hall4) (HD1.out.later hall4) (by omega) (by omega) (by omega)).mono ?_
          rintro e w5 ⟨⟨a5, n5, c5, b5, m5, d5, D5, he, ht5, hD5⟩, hb5⟩
          rw [hres] at he ht5 hD5
          subst he
          simp only at ht5 hD5 ⊢
          have HRES := hide hres
          have hb45 : Below w4.heap.size w4 (w5.alloc (.cells #[.slice a5 n5 c5, .slice b5 m5 d5] 26)) := hb5.alloc hb5.size _
          have hr4 := (HB4.out.block _ HW1.out).trans HR1.out
          have hr5 := (hb5.block w.heap.size (lt_of_row hr4)).trans hr4
          have hr6 := (hb45.block w.heap.size (lt_of_row hr4)).trans hr4
          have hx6 := heap_alloc_new w5 (.cells #[.slice a5 n5 c5, .slice b5 m5 d5] 26)
          have hn5 : w.heap.size < w5.heap.size := lt_of_row hr5
          have hm5 : w.heap.size ≠ w5.heap.size := by omega
          have HT5 := hide (ht5.below ((Below.refl _ _).alloc (Nat.le_refl _) (.cells #[.slice a5 n5 c5, .slice b5 m5 d5] 26)))
          have HD5 := hide hD5
          have HB5 := hide (HB4.out.trans (hb45.mono HB4.out.size))
          have HR6 := hide (And.intro hr6 hx6)
          obtain ⟨s0, s1, s2, s3⟩ := two_cells hr5
          clear hb5 hb45 hr4 hr5 hr6 hx6 ht5 hD5 hres hall4 p0 p1 p2 p3 q0 q1 q2 q3 o0 o1 o2 o3
          have hl1 : ((len : Int) + 1 == 0) = false := by simp; omega
          have hl2 : ¬ ((len : Int) + 1 = 0) := by omega
          obtain ⟨k, hk⟩ : ∃ k : Nat, cut % ((len : Int) + 1) = k := ⟨(cut % ((len : Int) + 1)).toNat, by rw [Int.toNat_of_nonneg (Int.emod_nonneg _ hl2)]⟩
          have hkl : k ≤ len := by have := Int.emod_lt_of_pos cut (show 0 < (len : Int) + 1 by omega); omega
          go_wp2_with fail
          obtain ⟨y0, y1, y2, y3⟩ := two_cells HR6.out.1
          generalize w5.alloc (.cells #[.slice a5 n5 c5, .slice b5 m5 d5] 26) = w6 at HT5 HB5 HR6 y0 y1 y2 y3 ⊢
          simp only [hk]
          have hk0 : (0 : Int) ≤ (k : Int) := by omega
          have hkc : (k : Int) ≤ (cap : Int) := by have := HCL.out; omega
          have hkl' : (k : Int) ≤ (len : Int) := by omega
          clear s0 s1 s2 s3 hl1 hl2
          have hba : Below w6.heap.size w6 (w6.alloc (.cells #[.slice none 0 0, .slice none 0 0] 26)) := (Below.refl _ _).alloc (Nat.le_refl _) _
          have hza := heap_alloc_new w6 (.cells #[.slice none 0 0, .slice none 0 0] 26)
          have hla : (w6.alloc (.cells #[.slice none 0 0, .slice none 0 0] 26)).heap.size = w6.heap.size + 1 := by simp
          have HAL := hide (And.intro hba (And.intro hza hla))
          have C3 := hide (fun (W : World) (hb : Below w6.heap.size w6 W) => do_any p k cap (hs.take k) a n c b m d S D W (hks_take (HH1.out.later (HB5.out.trans (hb.mono HB5.out.size))) hkl) (HS1.out.later (HB5.out.trans (hb.mono HB5.out.size))) (HD1.out.later (HB5.out.trans (hb.mono HB5.out.size))) (by omega) (by omega) (by omega))
          clear hba hza hla
          have hw6 : w.heap.size ≤ w6.heap.size := by have := HB1.out.size; have := HB5.out.size; omega
          have hlt6 : w.heap.size < w6.heap.size := lt_of_row HR6.out.1
          have hne6 : w.heap.size ≠ w6.heap.size := by omega
          cases hdk : doC (hs.take k) (D.map Fl.can) with
          | none =>
            have hp := parts_none (S := S) k HMY.out (by rw [List.length_map, HDL.out]; exact HMT.out) hdk
            rw [hp.1] at C3
            obtain ⟨rfl, rfl, rfl⟩ : E = 8 ∧ S' = [] ∧ C' = [] := by have := HRES.out.symm.trans hp.2; simpa using this
            clear hdk hp
            go_region_with (go_at_call 9; first
              | ((with_reducible refine (C3.out w6.drew (Below.refl _ _).drew).mono ?_); rintro e w7 ⟨⟨a7, n7, c7, b7, m7, d7, D7, rfl, ht7, hD7⟩, hb7⟩; have HB7 := hide (HB5.out.drew.trans (hb7.mono HB5.out.size)); clear ht7 hD7 hb7)
              | ((with_reducible refine (C3.out (w6.alloc (.cells #[.slice none 0 0, .slice none 0 0] 26)).drew HAL.out.1.drew).mono ?_); rintro e w7 ⟨⟨a7, n7, c7, b7, m7, d7, D7, rfl, ht7, hD7⟩, hb7⟩; have HB7 := hide ((HB5.out.trans (HAL.out.1.drew.mono HB5.out.size)).trans (hb7.mono (Nat.le_trans HB5.out.size HAL.out.1.size))); obtain ⟨z0, z1, z2, z3⟩ := two_cells ((hb7.block w6.heap.size (show w6.heap.size < (w6.alloc _).heap.size by rw [HAL.out.2.2]; omega)).trans HAL.out.2.1); clear ht7 hD7 hb7))
            all_goals (
              go_wp2_with fail
              go_ret
              first
                | exact ⟨rfl, HB1.out.trans ((HB7.out.alloc HB7.out.size _).mono HB1.out.size)⟩
                | exact ⟨rfl, ((HB1.out.trans (HB7.out.mono HB1.out.size)).setCell hw6 _).setCell hw6 _⟩)
          | some r =>
            have hp := parts_some (S := S) k HMY.out (by rw [List.length_map, HDL.out]; exact HMT.out) hdk
            rw [hp.1] at C3
            have HP2 := hide (hp.2.trans HRES.out)
            have HDK := hide hdk
            clear hdk hp
            go_region_with (go_at_call 9; first
              | ((with_reducible refine (C3.out w6.drew (Below.refl _ _).drew).mono ?_); rintro e w7 ⟨⟨a7, n7, c7, b7, m7, d7, D7, rfl, ht7, hD7⟩, hb7⟩; have HB7 := hide ((Below.refl w6.heap.size w6).drew.trans hb7); have HT7 := hide ht7; have HD7 := hide hD7; clear ht7 hD7 hb7)
              | ((with_reducible refine (C3.out (w6.alloc (.cells #[.slice none 0 0, .slice none 0 0] 26)).drew HAL.out.1.drew).mono ?_); rintro e w7 ⟨⟨a7, n7, c7, b7, m7, d7, D7, rfl, ht7, hD7⟩, hb7⟩; have HB7 := hide (HAL.out.1.drew.trans (hb7.mono HAL.out.1.size)); have HZ7 := hide ((hb7.block w6.heap.size (show w6.heap.size < (w6.alloc _).heap.size by rw [HAL.out.2.2]; omega)).trans HAL.out.2.1); obtain ⟨z0, z1, z2, z3⟩ := two_cells HZ7.out; have HT7 : Hid (Ten (w6.heap.size + 1) w7 a7 n7 c7 b7 m7 d7 S D7) := (by have h9 := ht7; rw [show (w6.alloc _).drew.heap.size = w6.heap.size + 1 from HAL.out.2.2] at h9; exact h9); have HD7 := hide hD7; clear ht7 hD7 hb7))
            all_goals (
              go_wp2_with fail
              first
                | (have hg := heap_alloc_new w7 (.cells #[.slice a7 n7 c7, .slice b7 m7 d7] 26)
                   have ht : Ten w6.heap.size (w7.alloc (.cells #[.slice a7 n7 c7, .slice b7 m7 d7] 26)) a7 n7 c7 b7 m7 d7 S D7 := HT7.out.below ((Below.refl _ _).alloc (Nat.le_refl _) _)
                   have hb := HB7.out.alloc HB7.out.size (.cells #[.slice a7 n7 c7, .slice b7 m7 d7] 26)
                   have hgl : w6.heap.size ≤ w7.heap.size := HB7.out.size
                   generalize w7.alloc (.cells #[.slice a7 n7 c7, .slice b7 m7 d7] 26) = W8 at hg ht hb ⊢
                   generalize w7.heap.size = g8 at hg hgl ⊢)
                | (have hg := put_self HZ7.out (u := .slice a7 n7 c7) (v := .slice b7 m7 d7)
                   have ht : Ten w6.heap.size ((w7.setCell ⟨w6.heap.size, 0, none⟩ (.slice a7 n7 c7)).setCell ⟨w6.heap.size, 1, none⟩ (.slice b7 m7 d7)) a7 n7 c7 b7 m7 d7 S D7 := (put_ten HT7.out HZ7.out _ _).mono (by omega)
                   have hb := (HB7.out.setCell (Nat.le_refl _) (p := ⟨w6.heap.size, 0, none⟩) (.slice a7 n7 c7)).setCell (Nat.le_refl _) (p := ⟨w6.heap.size, 1, none⟩) (.slice b7 m7 d7)
                   have hgl : w6.heap.size ≤ w6.heap.size := Nat.le_refl _
                   clear z0 z1 z2 z3
                   generalize (w7.setCell ⟨w6.heap.size, 0, none⟩ (.slice a7 n7 c7)).setCell ⟨w6.heap.size, 1, none⟩ (.slice b7 m7 d7) = W8 at hg ht hb ⊢
                   generalize hge : w6.heap.size = g8 at hg ⊢
                   rw [hge] at hgl
                   have hgl : w6.heap.size ≤ g8 := Nat.le_of_eq hge
                   clear hge)
              have HG8 := hide hg
              have HT8 := hide ht
              have HB8 := hide hb
              have HGL := hide hgl
              obtain ⟨v0, v1, v2, v3⟩ := two_cells hg
              have hx8 := (hb.block _ (lt_of_row HR6.out.2)).trans HR6.out.2
              have HX8 := hide hx8
              clear hg ht hb hgl hx8 HB7 HT7
              have hla8 : (W8.alloc (.cells #[.slice none 0 0, .slice none 0 0] 26)).heap.size = W8.heap.size + 1 := by simp
              have HA8 := hide (And.intro ((Below.refl W8.heap.size W8).alloc (Nat.le_refl _) (.cells #[.slice none 0 0, .slice none 0 0] 26)) (And.intro (heap_alloc_new W8 (.cells #[.slice none 0 0, .slice none 0 0] 26)) hla8))
              have hlt8 : g8 < W8.heap.size := lt_of_row HG8.out
              have hne8 : g8 ≠ W8.heap.size := by omega
              clear hla8
              have hn7 : n7 ≤ 1099511627776 := by have := HT8.out.isl.1; have := HSL.out; omega
              have hm7 : m7 ≤ 1099511627776 := by have h1 := HT8.out.sl.1; have h2 := congrArg List.length HD7.out; rw [List.length_map] at h2; have h3 := do_len HDK.out; rw [List.length_map] at h3; have := HDL.out; omega
              have C4 := hide (fun (q : Option Addr) (l c : Nat) (W : World) (hb : Below W8.heap.size W8 W) (hq : Hks W q l c (hs.drop k)) (hl : l ≤ 40) => do_any q l c (hs.drop k) a7 n7 c7 b7 m7 d7 S D7 W hq (HT8.out.isl.later hb) (HT8.out.sl.later hb) (by omega) hn7 hm7)
              rw [HD7.out, HP2.out] at C4
              have hl40 : len - k ≤ 40 := by omega
              clear hn7 hm7
              rcases (by omega : len = k ∨ k < len) with hlk | hlk
              · have e0 : len - k = 0 := by omega
                have ed : hs.drop k = [] := List.drop_eq_nil_of_le (by rw [HHL.out]; omega)
                have HE := hide (And.intro e0 ed)
                have HLK := hide hlk
                clear e0 ed hlk
                by_cases hck : cap = k
                · have HQ : Hid (∀ W : World, Below W8.heap.size W8 W → Hks W p (len - k) 0 (hs.drop k)) := fun W _ => by rw [HE.out.1, HE.out.2]; exact hks_nil _ _ _
                  go_region_with (go_at_call 9; first
                    | ((with_reducible refine (C4.out _ _ _ W8.drew (Below.refl _ _).drew (HQ.out _ (Below.refl _ _).drew) hl40).mono ?_); rintro e w9 ⟨⟨a9, n9, c9, b9, m9, d9, D9, rfl, ht9, hD9⟩, hb9⟩; have HB9 := hide ((Below.refl W8.heap.size W8).drew.trans hb9); have HT9 : Hid (Ten W8.heap.size w9 a9 n9 c9 b9 m9 d9 S' D9) := ht9; have HD9 := hide hD9; have hx9 := (HB9.out.block _ (lt_of_row HX8.out)).trans HX8.out; obtain ⟨x0, x1, x2, x3⟩ := two_cells hx9; have hl9 : w5.heap.size < w9.heap.size := lt_of_row hx9; have hn9 : w5.heap.size ≠ w9.heap.size := (by omega); have hv9 : w5.heap.size < W8.heap.size := lt_of_row HX8.out; have hu9 : w5.heap.size ≠ W8.heap.size := (by omega); have eE : (E == E) = true := (by simp); clear hx9 ht9 hD9 hb9)
                    | ((with_reducible refine (C4.out _ _ _ (W8.alloc (.cells #[.slice none 0 0, .slice none 0 0] 26)).drew HA8.out.1.drew (HQ.out _ HA8.out.1.drew) hl40).mono ?_); rintro e w9 ⟨⟨a9, n9, c9, b9, m9, d9, D9, rfl, ht9, hD9⟩, hb9⟩; have HB9 := hide (HA8.out.1.drew.trans (hb9.mono HA8.out.1.size)); have HZ9 := hide ((hb9.block W8.heap.size (show W8.heap.size < (W8.alloc _).heap.size by rw [HA8.out.2.2]; omega)).trans HA8.out.2.1); obtain ⟨z0, z1, z2, z3⟩ := two_cells HZ9.out; have HT9 : Hid (Ten (W8.heap.size + 1) w9 a9 n9 c9 b9 m9 d9 S' D9) := (by have h9 := ht9; rw [show (W8.alloc _).drew.heap.size = W8.heap.size + 1 from HA8.out.2.2] at h9; exact h9); have HD9 := hide hD9; have hx9 := (HB9.out.block _ (lt_of_row HX8.out)).trans HX8.out; obtain ⟨x0, x1, x2, x3⟩ := two_cells hx9; have hl9 : w5.heap.size < w9.heap.size := lt_of_row hx9; have hn9 : w5.heap.size ≠ w9.heap.size := (by omega); have hv9 : w5.heap.size < W8.heap.size := lt_of_row HX8.out; have hu9 : w5.heap.size ≠ W8.heap.size := (by omega); have eE : (E == E) = true := (by simp); clear hx9 ht9 hD9 hb9))
                  all_goals (
                    go_wp2_with fail
                    first
                      | (have hg := heap_alloc_new w9 (.cells #[.slice a9 n9 c9, .slice b9 m9 d9] 26)
                         have ht : Ten W8.heap.size (w9.alloc (.cells #[.slice a9 n9 c9, .slice b9 m9 d9] 26)) a9 n9 c9 b9 m9 d9 S' D9 := HT9.out.below ((Below.refl _ _).alloc (Nat.le_refl _) _)
                         have hb := HB9.out.alloc HB9.out.size (.cells #[.slice a9 n9 c9, .slice b9 m9 d9] 26)
                         generalize w9.alloc (.cells #[.slice a9 n9 c9, .slice b9 m9 d9] 26) = WA at hg ht hb ⊢
                         generalize w9.heap.size = gA at hg ⊢)
                      | (have hg := put_self HZ9.out (u := .slice a9 n9 c9) (v := .slice b9 m9 d9)
                         have ht : Ten W8.heap.size ((w9.setCell ⟨W8.heap.size, 0, none⟩ (.slice a9 n9 c9)).setCell ⟨W8.heap.size, 1, none⟩ (.slice b9 m9 d9)) a9 n9 c9 b9 m9 d9 S' D9 := (put_ten HT9.out HZ9.out _ _).mono (by omega)
                         have hb := (HB9.out.setCell (Nat.le_refl _) (p := ⟨W8.heap.size, 0, none⟩) (.slice a9 n9 c9)).setCell (Nat.le_refl _) (p := ⟨W8.heap.size, 1, none⟩) (.slice b9 m9 d9)
                         clear z0 z1 z2 z3
                         generalize (w9.setCell ⟨W8.heap.size, 0, none⟩ (.slice a9 n9 c9)).setCell ⟨W8.heap.size, 1, none⟩ (.slice b9 m9 d9) = WA at hg ht hb ⊢
                         generalize W8.heap.size = gA at hg ⊢)
                    have hxA := (hb.block _ (lt_of_row HX8.out)).trans HX8.out
                    obtain ⟨h0, h1, h2, h3⟩ := two_cells hxA
                    obtain ⟨j0, j1, j2, j3⟩ := two_cells hg
                    have h6A : Below w6.heap.size w6 WA := HB8.out.trans (hb.mono HB8.out.size)
                    have hT5 := HT5.out
                    obtain rfl : n5 = n9 := hT5.isl.1.symm.trans ht.isl.1
                    obtain rfl : m5 = m9 := by
                      have k1 := hT5.sl.1
                      have k2 := ht.sl.1
                      have k3 := congrArg List.length (HD5.out.trans HD9.out.symm)
                      simp only [List.length_map] at k3
                      omega
                    have hn5' : n5 ≤ 1099511627776 := by have k1 := hT5.isl.1; have k2 := res_slen HRES.out; have := HSL.out; omega
                    have hm5' : m5 ≤ 1099511627776 := by have k1 := hT5.sl.1; have k2 := congrArg List.length HD5.out; rw [List.length_map] at k2; have k3 := res_len HRES.out; rw [List.length_map] at k3; have := HDL.out; omega
                    have CS := hide (same_tensor a5 n5 c5 b5 m5 d5 a9 c9 b9 d9 S' D5 D9 WA (hT5.isl.later h6A) (hT5.sl.later h6A) ht.isl ht.sl hn5' hm5' (HD5.out.trans HD9.out.symm))
                    have HBA := hide (HB1.out.trans ((HB5.out.trans (h6A.mono HB5.out.size)).mono HB1.out.size))
                    clear x0 x1 x2 x3 hl9 hn9 hv9 hu9 hxA hg ht hb h6A hT5 hn5' hm5' HT9 HB9 HT8 HB8 HT5 HX8
                    go_wp2_with (go_at_call 11; refine CS.out.mono ?_; rintro e wB ⟨rfl, hbB⟩; have HBB := hide (HBA.out.trans (hbB.mono HBA.out.size)); clear hbB)
                    go_ret
                    exact ⟨rfl, HBB.out⟩)
                · obtain ⟨ad, rfl⟩ : ∃ ad, p = some ad := by
                    cases p with
                    | none => exact absurd (HPN.out rfl) (by omega)
                    | some ad => exact ⟨ad, rfl⟩
                  have HQ : Hid (∀ W : World, Below W8.heap.size W8 W → Hks W (some (ad.add (k * 2))) (len - k) (cap - k) (hs.drop k)) := fun W _ => by rw [HE.out.1, HE.out.2]; exact hks_nil _ _ _
                  go_region_with (go_at_call 9; first
                    | ((with_reducible refine (C4.out _ _ _ W8.drew (Below.refl _ _).drew (HQ.out _ (Below.refl _ _).drew) hl40).mono ?_); rintro e w9 ⟨⟨a9, n9, c9, b9, m9, d9, D9, rfl, ht9, hD9⟩, hb9⟩; have HB9 := hide ((Below.refl W8.heap.size W8).drew.trans hb9); have HT9 : Hid (Ten W8.heap.size w9 a9 n9 c9 b9 m9 d9 S' D9) := ht9; have HD9 := hide hD9; have hx9 := (HB9.out.block _ (lt_of_row HX8.out)).trans HX8.out; obtain ⟨x0, x1, x2, x3⟩ := two_cells hx9; have hl9 : w5.heap.size < w9.heap.size := lt_of_row hx9; have hn9 : w5.heap.size ≠ w9.heap.size := (by omega); have hv9 : w5.heap.size < W8.heap.size := lt_of_row HX8.out; have hu9 : w5.heap.size ≠ W8.heap.size := (by omega); have eE : (E == E) = true := (by simp); clear hx9 ht9 hD9 hb9)
                    | ((with_reducible refine (C4.out _ _ _ (W8.alloc (.cells #[.slice none 0 0, .slice none 0 0] 26)).drew HA8.out.1.drew (HQ.out _ HA8.out.1.drew) hl40).mono ?_); rintro e w9 ⟨⟨a9, n9, c9, b9, m9, d9, D9, rfl, ht9, hD9⟩, hb9⟩; have HB9 := hide (HA8.out.1.drew.trans (hb9.mono HA8.out.1.size)); have HZ9 := hide ((hb9.block W8.heap.size (show W8.heap.size < (W8.alloc _).heap.size by rw [HA8.out.2.2]; omega)).trans HA8.out.2.1); obtain ⟨z0, z1, z2, z3⟩ := two_cells HZ9.out; have HT9 : Hid (Ten (W8.heap.size + 1) w9 a9 n9 c9 b9 m9 d9 S' D9) := (by have h9 := ht9; rw [show (W8.alloc _).drew.heap.size = W8.heap.size + 1 from HA8.out.2.2] at h9; exact h9); have HD9 := hide hD9; have hx9 := (HB9.out.block _ (lt_of_row HX8.out)).trans HX8.out; obtain ⟨x0, x1, x2, x3⟩ := two_cells hx9; have hl9 : w5.heap.size < w9.heap.size := lt_of_row hx9; have hn9 : w5.heap.size ≠ w9.heap.size := (by omega); have hv9 : w5.heap.size < W8.heap.size := lt_of_row HX8.out; have hu9 : w5.heap.size ≠ W8.heap.size := (by omega); have eE : (E == E) = true := (by simp); clear hx9 ht9 hD9 hb9))
                  all_goals (
                    go_wp2_with fail
                    first
                      | (have hg := heap_alloc_new w9 (.cells #[.slice a9 n9 c9, .slice b9 m9 d9] 26)
                         have ht : Ten W8.heap.size (w9.alloc (.cells #[.slice a9 n9 c9, .slice b9 m9 d9] 26)) a9 n9 c9 b9 m9 d9 S' D9 := HT9.out.below ((Below.refl _ _).alloc (Nat.le_refl _) _)
                         have hb := HB9.out.alloc HB9.out.size (.cells #[.slice a9 n9 c9, .slice b9 m9 d9] 26)
                         generalize w9.alloc (.cells #[.slice a9 n9 c9, .slice b9 m9 d9] 26) = WA at hg ht hb ⊢
                         generalize w9.heap.size = gA at hg ⊢)
                      | (have hg := put_self HZ9.out (u := .slice a9 n9 c9) (v := .slice b9 m9 d9)
                         have ht : Ten W8.heap.size ((w9.setCell ⟨W8.heap.size, 0, none⟩ (.slice a9 n9 c9)).setCell ⟨W8.heap.size, 1, none⟩ (.slice b9 m9 d9)) a9 n9 c9 b9 m9 d9 S' D9 := (put_ten HT9.out HZ9.out _ _).mono (by omega)
                         have hb := (HB9.out.setCell (Nat.le_refl _) (p := ⟨W8.heap.size, 0, none⟩) (.slice a9 n9 c9)).setCell (Nat.le_refl _) (p := ⟨W8.heap.size, 1, none⟩) (.slice b9 m9 d9)
                         clear z0 z1 z2 z3
                         generalize (w9.setCell ⟨W8.heap.size, 0, none⟩ (.slice a9 n9 c9)).setCell ⟨W8.heap.size, 1, none⟩ (.slice b9 m9 d9) = WA at hg ht hb ⊢
                         generalize W8.heap.size = gA at hg ⊢)
                    have hxA := (hb.block _ (lt_of_row HX8.out)).trans HX8.out
                    obtain ⟨h0, h1, h2, h3⟩ := two_cells hxA
                    obtain ⟨j0, j1, j2, j3⟩ := two_cells hg
                    have h6A : Below w6.heap.size w6 WA := HB8.out.trans (hb.mono HB8.out.size)
                    have hT5 := HT5.out
                    obtain rfl : n5 = n9 := hT5.isl.1.symm.trans ht.isl.1
                    obtain rfl : m5 = m9 := by
                      have k1 := hT5.sl.1
                      have k2 := ht.sl.1
                      have k3 := congrArg List.length (HD5.out.trans HD9.out.symm)
                      simp only [List.length_map] at k3
                      omega
                    have hn5' : n5 ≤ 1099511627776 := by have k1 := hT5.isl.1; have k2 := res_slen HRES.out; have := HSL.out; omega
                    have hm5' : m5 ≤ 1099511627776 := by have k1 := hT5.sl.1; have k2 := congrArg List.length HD5.out; rw [List.length_map] at k2; have k3 := res_len HRES.out; rw [List.length_map] at k3; have := HDL.out; omega
                    have CS := hide (same_tensor a5 n5 c5 b5 m5 d5 a9 c9 b9 d9 S' D5 D9 WA (hT5.isl.later h6A) (hT5.sl.later h6A) ht.isl ht.sl hn5' hm5' (HD5.out.trans HD9.out.symm))
                    have HBA := hide (HB1.out.trans ((HB5.out.trans (h6A.mono HB5.out.size)).mono HB1.out.size))
                    clear x0 x1 x2 x3 hl9 hn9 hv9 hu9 hxA hg ht hb h6A hT5 hn5' hm5' HT9 HB9 HT8 HB8 HT5 HX8
                    go_wp2_with (go_at_call 11; refine CS.out.mono ?_; rintro e wB ⟨rfl, hbB⟩; have HBB := hide (HBA.out.trans (hbB.mono HBA.out.size)); clear hbB)
                    go_ret
                    exact ⟨rfl, HBB.out⟩)
              · have hck : ¬ cap = k := by have := HCL.out; omega
                obtain ⟨b', off', rfl, -, -⟩ := HH1.out.2.2 0 (by omega)
                have HQ : Hid (∀ W : World, Below W8.heap.size W8 W → Hks W (some ⟨b', off' + k * 2, none⟩) (len - k) (cap - k) (hs.drop k)) := fun W hb => hks_drop (HH1.out.later (HB5.out.trans ((HB8.out.trans (hb.mono HB8.out.size)).mono HB5.out.size))) hkl
                go_region_with (go_at_call 9; first
                  | ((with_reducible refine (C4.out _ _ _ W8.drew (Below.refl _ _).drew (HQ.out _ (Below.refl _ _).drew) hl40).mono ?_); rintro e w9 ⟨⟨a9, n9, c9, b9, m9, d9, D9, rfl, ht9, hD9⟩, hb9⟩; have HB9 := hide ((Below.refl W8.heap.size W8).drew.trans hb9); have HT9 : Hid (Ten W8.heap.size w9 a9 n9 c9 b9 m9 d9 S' D9) := ht9; have HD9 := hide hD9; have hx9 := (HB9.out.block _ (lt_of_row HX8.out)).trans HX8.out; obtain ⟨x0, x1, x2, x3⟩ := two_cells hx9; have hl9 : w5.heap.size < w9.heap.size := lt_of_row hx9; have hn9 : w5.heap.size ≠ w9.heap.size := (by omega); have hv9 : w5.heap.size < W8.heap.size := lt_of_row HX8.out; have hu9 : w5.heap.size ≠ W8.heap.size := (by omega); have eE : (E == E) = true := (by simp); clear hx9 ht9 hD9 hb9)
                  | ((with_reducible refine (C4.out _ _ _ (W8.alloc (.cells #[.slice none 0 0, .slice none 0 0] 26)).drew HA8.out.1.drew (HQ.out _ HA8.out.1.drew) hl40).mono ?_); rintro e w9 ⟨⟨a9, n9, c9, b9, m9, d9, D9, rfl, ht9, hD9⟩, hb9⟩; have HB9 := hide (HA8.out.1.drew.trans (hb9.mono HA8.out.1.size)); have HZ9 := hide ((hb9.block W8.heap.size (show W8.heap.size < (W8.alloc _).heap.size by rw [HA8.out.2.2]; omega)).trans HA8.out.2.1); obtain ⟨z0, z1, z2, z3⟩ := two_cells HZ9.out; have HT9 : Hid (Ten (W8.heap.size + 1) w9 a9 n9 c9 b9 m9 d9 S' D9) := (by have h9 := ht9; rw [show (W8.alloc _).drew.heap.size = W8.heap.size + 1 from HA8.out.2.2] at h9; exact h9); have HD9 := hide hD9; have hx9 := (HB9.out.block _ (lt_of_row HX8.out)).trans HX8.out; obtain ⟨x0, x1, x2, x3⟩ := two_cells hx9; have hl9 : w5.heap.size < w9.heap.size := lt_of_row hx9; have hn9 : w5.heap.size ≠ w9.heap.size := (by omega); have hv9 : w5.heap.size < W8.heap.size := lt_of_row HX8.out; have hu9 : w5.heap.size ≠ W8.heap.size := (by omega); have eE : (E == E) = true := (by simp); clear hx9 ht9 hD9 hb9))
                all_goals (
                  go_wp2_with fail
                  first
                    | (have hg := heap_alloc_new w9 (.cells #[.slice a9 n9 c9, .slice b9 m9 d9] 26)
                       have ht : Ten W8.heap.size (w9.alloc (.cells #[.slice a9 n9 c9, .slice b9 m9 d9] 26)) a9 n9 c9 b9 m9 d9 S' D9 := HT9.out.below ((Below.refl _ _).alloc (Nat.le_refl _) _)
                       have hb := HB9.out.alloc HB9.out.size (.cells #[.slice a9 n9 c9, .slice b9 m9 d9] 26)
                       generalize w9.alloc (.cells #[.slice a9 n9 c9, .slice b9 m9 d9] 26) = WA at hg ht hb ⊢
                       generalize w9.heap.size = gA at hg ⊢)
                    | (have hg := put_self HZ9.out (u := .slice a9 n9 c9) (v := .slice b9 m9 d9)
                       have ht : Ten W8.heap.size ((w9.setCell ⟨W8.heap.size, 0, none⟩ (.slice a9 n9 c9)).setCell ⟨W8.heap.size, 1, none⟩ (.slice b9 m9 d9)) a9 n9 c9 b9 m9 d9 S' D9 := (put_ten HT9.out HZ9.out _ _).mono (by omega)
                       have hb := (HB9.out.setCell (Nat.le_refl _) (p := ⟨W8.heap.size, 0, none⟩) (.slice a9 n9 c9)).setCell (Nat.le_refl _) (p := ⟨W8.heap.size, 1, none⟩) (.slice b9 m9 d9)
                       clear z0 z1 z2 z3
                       generalize (w9.setCell ⟨W8.heap.size, 0, none⟩ (.slice a9 n9 c9)).setCell ⟨W8.heap.size, 1, none⟩ (.slice b9 m9 d9) = WA at hg ht hb ⊢
                       generalize W8.heap.size = gA at hg ⊢)
                  have hxA := (hb.block _ (lt_of_row HX8.out)).trans HX8.out
                  obtain ⟨h0, h1, h2, h3⟩ := two_cells hxA
                  obtain ⟨j0, j1, j2, j3⟩ := two_cells hg
                  have h6A : Below w6.heap.size w6 WA := HB8.out.trans (hb.mono HB8.out.size)
                  have hT5 := HT5.out
                  obtain rfl : n5 = n9 := hT5.isl.1.symm.trans ht.isl.1
                  obtain rfl : m5 = m9 := by
                    have k1 := hT5.sl.1
                    have k2 := ht.sl.1
                    have k3 := congrArg List.length (HD5.out.trans HD9.out.symm)
                    simp only [List.length_map] at k3
                    omega
                  have hn5' : n5 ≤ 1099511627776 := by have k1 := hT5.isl.1; have k2 := res_slen HRES.out; have := HSL.out; omega
                  have hm5' : m5 ≤ 1099511627776 := by have k1 := hT5.sl.1; have k2 := congrArg List.length HD5.out; rw [List.length_map] at k2; have k3 := res_len HRES.out; rw [List.length_map] at k3; have := HDL.out; omega
                  have CS := hide (same_tensor a5 n5 c5 b5 m5 d5 a9 c9 b9 d9 S' D5 D9 WA (hT5.isl.later h6A) (hT5.sl.later h6A) ht.isl ht.sl hn5' hm5' (HD5.out.trans HD9.out.symm))
                  have HBA := hide (HB1.out.trans ((HB5.out.trans (h6A.mono HB5.out.size)).mono HB1.out.size))
                  clear x0 x1 x2 x3 hl9 hn9 hv9 hu9 hxA hg ht hb h6A hT5 hn5' hm5' HT9 HB9 HT8 HB8 HT5 HX8
                  go_wp2_with (go_at_call 11; refine CS.out.mono ?_; rintro e wB ⟨rfl, hbB⟩; have HBB := hide (HBA.out.trans (hbB.mono HBA.out.size)); clear hbB)
                  go_ret
                  exact ⟨rfl, HBB.out⟩))
end Go.Proofs.Ytegofhmkebbinaa.HookParts
