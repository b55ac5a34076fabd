/-
  GraphFirst: the walk. For every input the law returns true. No condition.
-/
import Derived.Test.YtedpppkknmeheaaGK
namespace Go.Proofs.Ytedpppkknmeheaa.GraphFirst
open Go.RowKit

set_option maxRecDepth 100000 in
set_option maxHeartbeats 16000000 in
theorem walk (la : Option Addr) (ll lc : Nat) (gs : List Gr) (ma : Option Addr) (ml mc : Nat) (ms : List Gr) (va : Option Addr) (vl vc : Nat) (V : List (List Int)) (W : World) (hG : Grs W la ll lc gs) (hS : Szs gs ll) (hl : ll ≤ 140737488355328) (hn : la = none → lc = 0) (hM : Grs W ma ml mc ms) (hT : Szs ms ml) (hm : ml ≤ 140737488355328) (hmn : ma = none → mc = 0) (hV : Vs W va vl vc V) (hvl : vl ≤ 140737488355328) :
    Calls Try.prog 7 #[.slice la ll lc, .slice ma ml mc, .slice va vl vc] W fun e w' => e = .returned (.bool true) ∧ Below W.heap.size W w' := by
  obtain ⟨i0, hi, hz0, hz1, hz2⟩ := parts_of graph_info
  have C1 := hide (awake_any W)
  have C2 : Hid (∀ w', Below W.heap.size W w' → Calls Try.prog 10 #[.slice la ll lc] w' fun e w2 => ∃ b, e = .returned (.bool b) ∧ Below W.heap.size W w2) := hide (fun w' hb => (small_any la ll lc gs w' (hG.later hb) hS hl).mono fun e w2 ⟨b, h1, _, h2⟩ => ⟨b, h1, hb.trans (h2.mono hb.size)⟩)
  have C2m : Hid (∀ w', Below W.heap.size W w' → Calls Try.prog 10 #[.slice ma ml mc] w' fun e w2 => ∃ b, e = .returned (.bool b) ∧ Below W.heap.size W w2) := hide (fun w' hb => (small_any ma ml mc ms w' (hM.later hb) hT hm).mono fun e w2 ⟨b, h1, _, h2⟩ => ⟨b, h1, hb.trans (h2.mono hb.size)⟩)
  have C3 : Hid (∀ w', Below W.heap.size W w' → Calls Try.prog 11 #[.slice va vl vc] w' fun e w2 => ∃ b, e = .returned (.bool b) ∧ Below W.heap.size W w2) := hide (fun w' hb => (short_any va vl vc V w' (hV.later hb) hvl).mono fun e w2 ⟨b, h1, _, h2⟩ => ⟨b, h1, hb.trans (h2.mono hb.size)⟩)
  obtain ⟨r, hr⟩ : ∃ r, check ll vl V gs = r := ⟨_, rfl⟩
  obtain ⟨r1, r2, r3⟩ := r
  have C4 : Hid (∀ w', Below W.heap.size W w' → Calls Try.prog 12 #[.slice la ll lc, .slice va vl vc] w' fun e w2 => e = .returned (.tuple #[.int .i64 r1, .int .i64 r2, .int .i64 r3]) ∧ Below W.heap.size W w2) := hide (fun w' hb => (check_any la ll lc va vl vc V gs w' (hG.later hb) (hV.later hb)).mono fun e w2 h => ⟨by rw [h.1, hr], hb.trans (h.2.mono hb.size)⟩)
  obtain ⟨q, hq⟩ : ∃ q, check (ll + ml) vl V (gs ++ ms) = q := ⟨_, rfl⟩
  obtain ⟨q1, q2, q3⟩ := q
  have C5 : Hid (∀ v w' base, Below W.heap.size W w' → w'.ownsRow base 34 1 v (ll + ml) (gsv (gs ++ ms)) → ∃ a c, v = .slice a (ll + ml) c ∧ Calls Try.prog 12 #[.slice a (ll + ml) c, .slice va vl vc] w' fun e w2 => e = .returned (.tuple #[.int .i64 q1, .int .i64 q2, .int .i64 q3]) ∧ Below W.heap.size W w2) := hide (fun v w' base hb ho => by
    obtain ⟨a, c, rfl, hg⟩ := grs_own ho (nds_join (hG.later hb) (hM.later hb))
    exact ⟨a, c, rfl, (check_any a (ll + ml) c va vl vc V (gs ++ ms) w' hg (hV.later hb)).mono fun e w2 h => ⟨by rw [h.1, hq], hb.trans (h.2.mono hb.size)⟩⟩)
  have HF : Hid (ll + ml ≤ 16 → Fst (r1, r2, r3) (q1, q2, q3) (ll : Int)) := hide (fun h => by rw [← hr, ← hq]; exact check_more hG.1 h)
  have HG := hide hG
  have HM := hide hM
  have HN := hide hn
  have HMN := hide hmn
  clear hr hq hG hS hV hM hT hn hmn
  go_enter Try.func7, Try.ntmps7
  go_wp2_with (go_at_call 9; (with_reducible refine C1.out.mono ?_); rintro e w1 ⟨rfl, hb1⟩; have HB1 := hide hb1; clear hb1)
  refine (C2.out _ HB1.out).mono ?_
  rintro e w2 ⟨b2, rfl, hb2⟩
  have HB2 := hide hb2
  clear hb2
  cases b2
  · go_wp2_with fail
    go_ret
    exact ⟨rfl, HB2.out⟩
  go_wp2_with fail
  refine (C2m.out _ HB2.out).mono ?_
  rintro e w3 ⟨b3, rfl, hb3⟩
  have HB3 := hide hb3
  clear hb3
  cases b3
  · go_wp2_with fail
    go_ret
    exact ⟨rfl, HB3.out⟩
  go_wp2_with fail
  refine (C3.out _ HB3.out).mono ?_
  rintro e w4 ⟨b4, rfl, hb4⟩
  have HB4 := hide hb4
  clear hb4
  cases b4
  · go_wp2_with fail
    go_ret
    exact ⟨rfl, HB4.out⟩
  by_cases h16 : 16 < ll + ml
  · have hd : decide ((16 : Int) < (ll : Int) + (ml : Int)) = true := by rw [decide_eq_true_iff]; omega
    go_wp2_with fail
    go_ret
    exact ⟨rfl, HB4.out⟩
  · have hd : decide ((16 : Int) < (ll : Int) + (ml : Int)) = false := by rw [decide_eq_false_iff_not]; omega
    have HFF := hide (HF.out (by omega))
    have hlm : ll + ml ≤ 16 := by omega
    clear h16 HF
    go_wp2_with fail
    refine (C4.out _ HB4.out).mono ?_
    rintro e w5 ⟨rfl, hb5⟩
    have HB5 := hide hb5
    have hs5 := hb5.size
    have HS1 := hide (gsrc (HG.out.later hb5) HN.out)
    clear hb5
    have HO0 : Hid ((w5.alloc (.cells #[] 34)).ownsRow w5.heap.size 34 1 (.slice (some ⟨w5.heap.size, 0, none⟩) 0 0) 0 (gsv [])) := World.ownsRow_made w5 #[] 0 (Nat.le_refl _) (Nat.zero_le _) rfl
    have hb50 : Below w5.heap.size w5 (w5.alloc (.cells #[] 34)) := (Below.refl _ _).alloc (Nat.le_refl _) _
    have HS1' := hide (gsrc ((HG.out.later HB5.out).later hb50) HN.out)
    clear hb50
    go_wp2_with (at_builtin; refine wpl_append rfl _ _ 22 rfl w5.heap.size 34 i0 (.agg #[.slice none 0 0]) 1 24 Try.underlying22 hi hz0 hz1 hz2 rfl (by decide) (.slice (some ⟨w5.heap.size, 0, none⟩) 0 0) 0 _ rfl HO0.out _ _ _ (gsv gs) rfl HS1'.out (gsv_one gs) ?a3 ?a4 ?a5 ?_)
    case a3 => unfold maxLen; omega
    case a4 => omega
    case a5 => simp
    intro v6 w6 hown6 hgrow6
    have HO6 : Hid (w6.ownsRow w5.heap.size 34 1 v6 ll (gsv gs)) := hown6
    have HB6 : Hid (Below W.heap.size W w6) := (HB5.out.alloc hs5 _).grown hgrow6 (by simp; omega) (fun k hk => by cases hk; exact hs5)
    have hs6 : w5.heap.size ≤ w6.heap.size := by have := hgrow6.size; simp at this; omega
    have HS2 := hide (gsrc (HM.out.later HB6.out) HMN.out)
    have hs60 := HB6.out.size
    clear hown6 hgrow6
    go_wp2_with (at_builtin; refine wpl_append rfl _ _ 22 rfl w5.heap.size 34 i0 (.agg #[.slice none 0 0]) 1 24 Try.underlying22 hi hz0 hz1 hz2 rfl (by decide) v6 ll _ rfl HO6.out _ _ _ (gsv ms) rfl HS2.out (gsv_one ms) ?b3 ?b4 ?b5 ?_)
    case b3 => unfold maxLen; omega
    case b4 => omega
    case b5 => exact hs6
    intro v7 w7 hown7 hgrow7
    have HB7 : Hid (Below W.heap.size W w7) := HB6.out.grown hgrow7 (by omega) (fun k hk => by have := (HO6.out.lt k hk).1; omega)
    rw [show gsv gs ++ gsv ms = gsv (gs ++ ms) by simp [gsv]] at hown7
    obtain ⟨a7, c7, rfl, hC7⟩ := C5.out _ _ _ HB7.out hown7
    have HC7 := hide hC7
    clear hown7 hgrow7 hC7
    go_wp2_with fail
    refine HC7.out.mono ?_
    rintro e w8 ⟨rfl, hb8⟩
    have HB8 := hide hb8
    clear hb8
    obtain ⟨F1, F2, F3⟩ := HFF.out
    simp only at F1 F2 F3
    by_cases e0 : r3 = 0
    · subst e0
      by_cases f0 : q3 = 0
      · subst f0
        go_wp2_with fail
        go_ret
        exact ⟨rfl, HB8.out⟩
      · have hq := (F1 rfl).resolve_left f0
        have hf : (q3 == 0) = false := by rw [beq_eq_false_iff_ne]; exact f0
        have hh : decide ((ll : Int) ≤ q1) = true := by rw [decide_eq_true_iff]; exact hq
        clear F1 F2 F3 f0
        go_wp2_with fail
        go_ret
        exact ⟨rfl, HB8.out⟩
    · by_cases e6 : r3 = 6
      · subst e6
        by_cases f0 : q3 = 0
        · subst f0
          go_wp2_with fail
          go_ret
          exact ⟨rfl, HB8.out⟩
        · have hf : (q3 == 0) = false := by rw [beq_eq_false_iff_ne]; exact f0
          have hf' : (q3 != 0) = true := by rw [bne_iff_ne]; exact f0
          rcases (F3 rfl).resolve_left f0 with h | ⟨rfl, h⟩
          · have hh : decide (r1 < q1) = true := by rw [decide_eq_true_iff]; exact h
            clear F1 F2 F3 f0 h
            go_wp2_with fail
            go_ret
            exact ⟨rfl, HB8.out⟩
          · have hh : decide (r2 ≤ q2) = true := by rw [decide_eq_true_iff]; exact h
            clear F1 F2 F3 f0 h
            go_wp2_with fail
            go_ret
            exact ⟨rfl, HB8.out⟩
      · have he := F2 e0 e6
        cases he
        have hf : (r3 == 0) = false := by rw [beq_eq_false_iff_ne]; exact e0
        have hf' : (r3 != 0) = true := by rw [bne_iff_ne]; exact e0
        have hf6 : (r3 == 6) = false := by rw [beq_eq_false_iff_ne]; exact e6
        clear F1 F2 F3 e0 e6
        go_wp2_with fail
        go_ret
        exact ⟨rfl, HB8.out⟩
end Go.Proofs.Ytedpppkknmeheaa.GraphFirst
