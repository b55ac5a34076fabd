/-
  Package graph's Work: a plain function of who calls whom. No condition.
-/
import Derived.Test.YtedpppkknmeheaaGA
namespace Go.Proofs.Ytedpppkknmeheaa
open Go.RowKit Go.Maps

theorem saysB_true {P : Prop} {w : World} {e : Ending} {w' : World} (h : SaysB P w e w') (hp : P) : e = .returned (.bool true) ∧ Below w.heap.size w w' := by
  obtain ⟨b, rfl, hb, hw⟩ := h
  exact ⟨by rw [hb.2 hp], hw⟩
theorem saysB_false {P : Prop} {w : World} {e : Ending} {w' : World} (h : SaysB P w e w') (hp : ¬ P) : e = .returned (.bool false) ∧ Below w.heap.size w w' := by
  obtain ⟨b, rfl, hb, hw⟩ := h
  cases b with
  | true => exact absurd (hb.1 rfl) hp
  | false => exact ⟨rfl, hw⟩
noncomputable def wkR (ll : Nat) (gs : List Gr) (g : Int) : Int × Int := Wk.work ll (ln gs) (cs gs) g
def Tells2 (r : Int × Int) (w : World) (e : Ending) (w' : World) : Prop := e = .returned (.tuple #[.int .i64 r.1, .int .i64 r.2]) ∧ Below w.heap.size w w'

set_option maxRecDepth 100000 in
set_option maxHeartbeats 16000000 in
theorem work_any (la : Option Addr) (ll lc : Nat) (gs : List Gr) (g : Int) (w : World) (hG : Gc w la ll lc gs) (hF : Fits ll gs) :
    Calls Try.prog 15 #[.slice la ll lc, .int .i64 g] w (Tells2 (wkR ll gs g) w) := by
  by_cases h0 : g < 0
  · have HR : Hid (wkR ll gs g = (0, 6)) := by unfold Hid wkR Wk.work; rw [if_pos (.inl h0)]
    rw [HR.out]
    go_enter Try.func15, Try.ntmps15
    go_wp2_with fail
    go_ret2
    exact ⟨rfl, Below.refl _ _⟩
  by_cases h1 : (ll : Int) ≤ g
  · have HR : Hid (wkR ll gs g = (0, 6)) := by unfold Hid wkR Wk.work; rw [if_pos (.inr (.inl h1))]
    rw [HR.out]
    go_enter Try.func15, Try.ntmps15
    go_wp2_with fail
    go_ret2
    exact ⟨rfl, Below.refl _ _⟩
  obtain ⟨n, rfl⟩ : ∃ n : Nat, g = n := ⟨g.toNat, by omega⟩
  have hn : n < ll := by omega
  have hC0 := closed_any la ll lc gs n w hG hF hn
  have e0 : decide ((n : Int) < 0) = false := by rw [decide_eq_false_iff_not]; exact h0
  have e1 : decide ((ll : Int) ≤ (n : Int)) = false := by rw [decide_eq_false_iff_not]; exact h1
  by_cases hcl : Wk.Closed ll (cs gs) n
  · have C1 : Hid (Calls Try.prog 21 #[.slice la ll lc, .int .i64 n] w fun e w2 => e = .returned (.bool true) ∧ Below w.heap.size w w2) := hide (hC0.mono fun e w2 h => saysB_true h hcl)
    have hC2 := fun w' (hb : Below w.heap.size w w') => deep_any la ll lc gs n w' (hG.later hb) hF hn hcl
    by_cases hnp : Wk.NP (cs gs) 9 n
    · have C2 : Hid (∀ w', Below w.heap.size w w' → Calls Try.prog 22 #[.slice la ll lc, .int .i64 n] w' fun e w2 => e = .returned (.bool false) ∧ Below w.heap.size w w2) := hide (fun w' hb => (hC2 w' hb).mono fun e w2 h => ⟨(saysB_false h (fun h => h hnp)).1, hb.trans ((saysB_false h (fun h => h hnp)).2.mono hb.size)⟩)
      have HNP := hide hnp
      have HCL := hide hcl
      obtain ⟨s, hs⟩ : ∃ s, Wk.S (ln gs) (cs gs) n = s := ⟨_, rfl⟩
      have C3 : Hid (∀ w' m, Below w.heap.size w w' → m = w'.heap.size → Calls Try.prog 23 #[.slice la ll lc, .int .i64 n, .map (some m)] (w'.alloc (.map #[] 0)) fun e w2 => e = .returned (.int .i64 s) ∧ Below w.heap.size w w2) :=
        hide (fun w' m hb hm => by
          subst hm
          refine (sum_any la ll lc gs w' (hG.later hb) hF 9 n (.map []) (w'.alloc (.map #[] 0)) (Nat.le_refl _) hnp hcl hn ((Below.refl _ _).alloc (Nat.le_refl _) _) ?_ (Kn.empty gs)).mono fun e w2 h => ?_
          · rw [cnt_empty]; exact World.ownsMap_made _ _ _ _
          · obtain ⟨D', h1, _, _, _, hg⟩ := h
            refine ⟨by rw [h1, hs], (hb.alloc hb.size _).grown hg (by have := hb.size; simp; omega) fun k hk => ?_⟩
            cases hk
            exact hb.size)
      have hmm := @run_makeMap Try.prog
      have hsl : s ≤ 4097 := by rw [← hs]; exact Wk.S_le _
      by_cases hbig : 4096 < s
      · have HR : Hid (wkR ll gs n = (0, 10)) := by
          unfold Hid wkR Wk.work
          rw [Int.toNat_natCast, if_neg (by intro h; rcases h with h | h | h; · exact h0 h
                                            · exact h1 h
                                            · exact h hcl), if_neg (fun h => h hnp), if_pos (by unfold Wk.S at hs; omega)]
        rw [HR.out]
        clear hG hF hC0 hcl hC2 hnp hs
        go_enter Try.func15, Try.ntmps15
        go_wp2_with (first | (go_at_call 21; (with_reducible refine C1.out.mono ?_); rintro e w2 ⟨rfl, hb2⟩; have HB2 := hide hb2; clear hb2) | (go_at_call 22; (with_reducible refine (C2.out _ HB2.out).mono ?_); rintro e w3 ⟨rfl, hb3⟩; have HB3 := hide hb3; clear hb3) | (go_at_call 23; (with_reducible refine (C3.out _ _ HB3.out rfl).mono ?_); rintro e w4 ⟨rfl, hb4⟩; have HB4 := hide hb4; clear hb4))
        go_ret2
        exact ⟨rfl, HB4.out⟩
      · have HR : Hid (wkR ll gs n = ((s : Int), 0)) := by
          unfold Hid wkR Wk.work
          rw [Int.toNat_natCast, if_neg (by intro h; rcases h with h | h | h; · exact h0 h
                                            · exact h1 h
                                            · exact h hcl), if_neg (fun h => h hnp), if_neg (by unfold Wk.S at hs; omega)]
          unfold Wk.S at hs
          rw [show Wk.W (ln gs) (cs gs) 9 n = s by omega]
        rw [HR.out]
        clear hG hF hC0 hcl hC2 hnp hs
        go_enter Try.func15, Try.ntmps15
        go_wp2_with (first | (go_at_call 21; (with_reducible refine C1.out.mono ?_); rintro e w2 ⟨rfl, hb2⟩; have HB2 := hide hb2; clear hb2) | (go_at_call 22; (with_reducible refine (C2.out _ HB2.out).mono ?_); rintro e w3 ⟨rfl, hb3⟩; have HB3 := hide hb3; clear hb3) | (go_at_call 23; (with_reducible refine (C3.out _ _ HB3.out rfl).mono ?_); rintro e w4 ⟨rfl, hb4⟩; have HB4 := hide hb4; clear hb4))
        go_ret2
        exact ⟨rfl, HB4.out⟩
    · have C2 : Hid (∀ w', Below w.heap.size w w' → Calls Try.prog 22 #[.slice la ll lc, .int .i64 n] w' fun e w2 => e = .returned (.bool true) ∧ Below w.heap.size w w2) := hide (fun w' hb => (hC2 w' hb).mono fun e w2 h => ⟨(saysB_true h hnp).1, hb.trans ((saysB_true h hnp).2.mono hb.size)⟩)
      have HR : Hid (wkR ll gs n = (0, 9)) := by
        unfold Hid wkR Wk.work
        rw [Int.toNat_natCast, if_neg (by intro h; rcases h with h | h | h; · exact h0 h
                                          · exact h1 h
                                          · exact h hcl), if_pos hnp]
      rw [HR.out]
      clear hG hF hC0 hcl hC2 hnp
      go_enter Try.func15, Try.ntmps15
      go_wp2_with (first | (go_at_call 21; (with_reducible refine C1.out.mono ?_); rintro e w2 ⟨rfl, hb2⟩; have HB2 := hide hb2; clear hb2) | (go_at_call 22; (with_reducible refine (C2.out _ HB2.out).mono ?_); rintro e w3 ⟨rfl, hb3⟩; have HB3 := hide hb3; clear hb3))
      go_ret2
      exact ⟨rfl, HB3.out⟩
  · have C1 : Hid (Calls Try.prog 21 #[.slice la ll lc, .int .i64 n] w fun e w2 => e = .returned (.bool false) ∧ Below w.heap.size w w2) := hide (hC0.mono fun e w2 h => saysB_false h hcl)
    have HR : Hid (wkR ll gs n = (0, 6)) := by
      unfold Hid wkR Wk.work
      rw [Int.toNat_natCast, if_pos (.inr (.inr hcl))]
    rw [HR.out]
    clear hG hF hC0 hcl
    go_enter Try.func15, Try.ntmps15
    go_wp2_with (go_at_call 21; (with_reducible refine C1.out.mono ?_); rintro e w2 ⟨rfl, hb2⟩; have HB2 := hide hb2; clear hb2)
    go_ret2
    exact ⟨rfl, HB2.out⟩
end Go.Proofs.Ytedpppkknmeheaa
