/-
  Package graph's look.first: a node's first error. No condition. Printed by wip/tools/geng3.py.
-/
import Derived.Test.YtedpppkknmeheaaG2
namespace Go.Proofs.Ytedpppkknmeheaa
open Go.RowKit

def es (ll vl : Nat) (V : List (List Int)) (n : Nd) (at' : Int) : Nat → Int
  | 0 => cond (opmay n.op) 0 4
  | 1 => cond (argB n at') 1 0
  | 2 => cond (n.ins.any (fun x => decide (at' ≤ x))) 5 0
  | 3 => cond ((n.ins.any (fun x => decide (x < 0)) || grB ll n)) 6 0
  | 4 => cond (leafB vl n) 7 0
  | 5 => cond (shapeB V n) 2 0
  | 6 => cond (maysB n.hs) 0 8
  | _ => 0
def nodeE (ll vl : Nat) (V : List (List Int)) (n : Nd) (at' : Int) : Int :=
  let e := es ll vl V n at'
  if e 0 ≠ 0 then e 0 else if e 1 ≠ 0 then e 1 else if e 2 ≠ 0 then e 2 else if e 3 ≠ 0 then e 3 else if e 4 ≠ 0 then e 4 else if e 5 ≠ 0 then e 5 else e 6
theorem nodeE_hit {ll vl : Nat} {V : List (List Int)} {n : Nd} {at' : Int} {k : Nat} (hk : k < 7) (h : ∀ j, j < k → es ll vl V n at' j = 0) (hne : es ll vl V n at' k ≠ 0) : nodeE ll vl V n at' = es ll vl V n at' k := by
  unfold nodeE
  simp only
  rcases (by omega : k = 0 ∨ k = 1 ∨ k = 2 ∨ k = 3 ∨ k = 4 ∨ k = 5 ∨ k = 6) with rfl | rfl | rfl | rfl | rfl | rfl | rfl
  · rw [if_pos hne]
  · rw [if_neg (by simp [h 0]), if_pos hne]
  · rw [if_neg (by simp [h 0]), if_neg (by simp [h 1]), if_pos hne]
  · rw [if_neg (by simp [h 0]), if_neg (by simp [h 1]), if_neg (by simp [h 2]), if_pos hne]
  · rw [if_neg (by simp [h 0]), if_neg (by simp [h 1]), if_neg (by simp [h 2]), if_neg (by simp [h 3]), if_pos hne]
  · rw [if_neg (by simp [h 0]), if_neg (by simp [h 1]), if_neg (by simp [h 2]), if_neg (by simp [h 3]), if_neg (by simp [h 4]), if_pos hne]
  · rw [if_neg (by simp [h 0]), if_neg (by simp [h 1]), if_neg (by simp [h 2]), if_neg (by simp [h 3]), if_neg (by simp [h 4]), if_neg (by simp [h 5])]
theorem heap_alloc_old {w : World} {g : Nat} (o : Obj) (h : g < w.heap.size) : (w.alloc o).heap[g]? = w.heap[g]? := ((Below.refl _ _).alloc (Nat.le_refl _) o).block g h
theorem two_new (w : World) (x y : Obj) : Below w.heap.size w ((w.alloc x).alloc y) ∧ ((w.alloc x).alloc y).heap[w.heap.size]? = some x ∧ ((w.alloc x).alloc y).heap[w.heap.size + 1]? = some y := by
  refine ⟨((Below.refl _ _).alloc (Nat.le_refl _) _).alloc (by simp) _, ?_, ?_⟩
  · rw [heap_alloc_old _ (by simp), heap_alloc_new]
  · have e : w.heap.size + 1 = (w.alloc x).heap.size := by simp
    rw [e, heap_alloc_new]
theorem nodeE_none {ll vl : Nat} {V : List (List Int)} {n : Nd} {at' : Int} (h : ∀ j, j < 7 → es ll vl V n at' j = 0) : nodeE ll vl V n at' = 0 := by
  unfold nodeE
  simp [h 0, h 1, h 2, h 3, h 4, h 5, h 6]
theorem es_step {f : Nat → Int} {k : Nat} (h : ∀ j, j < k → f j = 0) (hk : f k = 0) : ∀ j, j < k + 1 → f j = 0 := by
  intro j hj
  by_cases e : j = k
  · subst e; exact hk
  · exact h j (by omega)

set_option maxHeartbeats 16000000 in
theorem first_any (la : Option Addr) (ll lc : Nat) (va : Option Addr) (vl vc : Nat) (n : Nd) (at' : Int) (w : World) (V : List (List Int)) (hok : n.ok w) (hs : n.small) (hV : Vs w va vl vc V) :
    Calls Try.prog 19 #[lookv la ll lc va vl vc n at'] w fun e w' => e = .returned (.int .i64 (nodeE ll vl V n at')) ∧ Below w.heap.size w w' := by
  have C0 : Hid (∀ w', Below w.heap.size w w' → Calls Try.prog 25 #[lookv la ll lc va vl vc n at'] w' fun e w2 => e = .returned (.int .i64 (es ll vl V n at' 0)) ∧ Below w'.heap.size w' w2) := by
    intro w' hbw
    have hok' := hok.later hbw
    have hV' := hV.later hbw
    exact (known_any la ll lc va vl vc n at' w' _ rfl).mono (fun e w2 h => ⟨h.1, h.2⟩)
  have C1 : Hid (∀ w', Below w.heap.size w w' → Calls Try.prog 26 #[lookv la ll lc va vl vc n at'] w' fun e w2 => e = .returned (.int .i64 (es ll vl V n at' 1)) ∧ Below w'.heap.size w' w2) := by
    intro w' hbw
    have hok' := hok.later hbw
    have hV' := hV.later hbw
    exact (inputs_any la ll lc va vl vc n at' w').mono (fun e w2 h => ⟨h.1, h.2⟩)
  have C2 : Hid (∀ w', Below w.heap.size w w' → Calls Try.prog 27 #[lookv la ll lc va vl vc n at'] w' fun e w2 => e = .returned (.int .i64 (es ll vl V n at' 2)) ∧ Below w'.heap.size w' w2) := by
    intro w' hbw
    have hok' := hok.later hbw
    have hV' := hV.later hbw
    exact (below_any la ll lc va vl vc n at' w' hok' hs _ rfl).mono (fun e w2 h => ⟨h.1, h.2⟩)
  have C3 : Hid (∀ w', Below w.heap.size w w' → Calls Try.prog 28 #[lookv la ll lc va vl vc n at'] w' fun e w2 => e = .returned (.int .i64 (es ll vl V n at' 3)) ∧ Below w'.heap.size w' w2) := by
    intro w' hbw
    have hok' := hok.later hbw
    have hV' := hV.later hbw
    exact (graphs_any la ll lc va vl vc n at' w' hok' hs).mono (fun e w2 h => ⟨h.1, h.2⟩)
  have C4 : Hid (∀ w', Below w.heap.size w w' → Calls Try.prog 29 #[lookv la ll lc va vl vc n at'] w' fun e w2 => e = .returned (.int .i64 (es ll vl V n at' 4)) ∧ Below w'.heap.size w' w2) := by
    intro w' hbw
    have hok' := hok.later hbw
    have hV' := hV.later hbw
    exact (leaf_any la ll lc va vl vc n at' w').mono (fun e w2 h => ⟨h.1, h.2⟩)
  have C5 : Hid (leafB vl n = false → ∀ w', Below w.heap.size w w' → Calls Try.prog 30 #[lookv la ll lc va vl vc n at'] w' fun e w2 => e = .returned (.int .i64 (es ll vl V n at' 5)) ∧ Below w'.heap.size w' w2) := by
    intro hl w' hbw
    have hok' := hok.later hbw
    have hV' := hV.later hbw
    exact (shapes_any la ll lc va vl vc n at' w' V hok' hs hV' hl).mono (fun e w2 h => ⟨h.1, h.2⟩)
  have C6 : Hid (∀ w', Below w.heap.size w w' → Calls Try.prog 31 #[lookv la ll lc va vl vc n at'] w' fun e w2 => e = .returned (.int .i64 (es ll vl V n at' 6)) ∧ Below w'.heap.size w' w2) := by
    intro w' hbw
    have hok' := hok.later hbw
    have hV' := hV.later hbw
    exact (hooks_any la ll lc va vl vc n at' w' hok' hs _ rfl).mono (fun e w2 h => ⟨h.1, h.2⟩)
  have HL : Hid (es ll vl V n at' 4 = 0 → leafB vl n = false) := by
    intro h
    cases hb : leafB vl n with
    | false => rfl
    | true => simp [es, hb] at h
  generalize hes : es ll vl V n at' = f at C0 C1 C2 C3 C4 C5 C6 HL
  have HES := hide hes
  clear hok hs hV hes
  unfold lookv
  obtain ⟨hbA, -, hg⟩ := two_new w (.cells #[.slice la ll lc, .slice va vl vc, .int .i64 n.op, .slice n.ia n.il n.ic, .slice n.ta n.tl n.tc, .int .i64 n.no, .slice n.sa n.sl n.sc, .slice n.da n.dl n.dc, .slice n.ha n.hl n.hc, .int .i64 at'] 62) (.cells #[.func (.func 25) #[.agg #[.slice la ll lc, .slice va vl vc, .int .i64 n.op, .slice n.ia n.il n.ic, .slice n.ta n.tl n.tc, .int .i64 n.no, .slice n.sa n.sl n.sc, .slice n.da n.dl n.dc, .slice n.ha n.hl n.hc, .int .i64 at']] #[], .func (.func 26) #[.agg #[.slice la ll lc, .slice va vl vc, .int .i64 n.op, .slice n.ia n.il n.ic, .slice n.ta n.tl n.tc, .int .i64 n.no, .slice n.sa n.sl n.sc, .slice n.da n.dl n.dc, .slice n.ha n.hl n.hc, .int .i64 at']] #[], .func (.func 27) #[.agg #[.slice la ll lc, .slice va vl vc, .int .i64 n.op, .slice n.ia n.il n.ic, .slice n.ta n.tl n.tc, .int .i64 n.no, .slice n.sa n.sl n.sc, .slice n.da n.dl n.dc, .slice n.ha n.hl n.hc, .int .i64 at']] #[], .func (.func 28) #[.agg #[.slice la ll lc, .slice va vl vc, .int .i64 n.op, .slice n.ia n.il n.ic, .slice n.ta n.tl n.tc, .int .i64 n.no, .slice n.sa n.sl n.sc, .slice n.da n.dl n.dc, .slice n.ha n.hl n.hc, .int .i64 at']] #[], .func (.func 29) #[.agg #[.slice la ll lc, .slice va vl vc, .int .i64 n.op, .slice n.ia n.il n.ic, .slice n.ta n.tl n.tc, .int .i64 n.no, .slice n.sa n.sl n.sc, .slice n.da n.dl n.dc, .slice n.ha n.hl n.hc, .int .i64 at']] #[], .func (.func 30) #[.agg #[.slice la ll lc, .slice va vl vc, .int .i64 n.op, .slice n.ia n.il n.ic, .slice n.ta n.tl n.tc, .int .i64 n.no, .slice n.sa n.sl n.sc, .slice n.da n.dl n.dc, .slice n.ha n.hl n.hc, .int .i64 at']] #[], .func (.func 31) #[.agg #[.slice la ll lc, .slice va vl vc, .int .i64 n.op, .slice n.ia n.il n.ic, .slice n.ta n.tl n.tc, .int .i64 n.no, .slice n.sa n.sl n.sc, .slice n.da n.dl n.dc, .slice n.ha n.hl n.hc, .int .i64 at']] #[]] 63)
  go_enter Try.func19, Try.ntmps19
  go_wp2_with fail
  obtain ⟨WA, hWA⟩ : ∃ W : World, W = (w.alloc (.cells #[.slice la ll lc, .slice va vl vc, .int .i64 n.op, .slice n.ia n.il n.ic, .slice n.ta n.tl n.tc, .int .i64 n.no, .slice n.sa n.sl n.sc, .slice n.da n.dl n.dc, .slice n.ha n.hl n.hc, .int .i64 at'] 62)).alloc (.cells #[.func (.func 25) #[.agg #[.slice la ll lc, .slice va vl vc, .int .i64 n.op, .slice n.ia n.il n.ic, .slice n.ta n.tl n.tc, .int .i64 n.no, .slice n.sa n.sl n.sc, .slice n.da n.dl n.dc, .slice n.ha n.hl n.hc, .int .i64 at']] #[], .func (.func 26) #[.agg #[.slice la ll lc, .slice va vl vc, .int .i64 n.op, .slice n.ia n.il n.ic, .slice n.ta n.tl n.tc, .int .i64 n.no, .slice n.sa n.sl n.sc, .slice n.da n.dl n.dc, .slice n.ha n.hl n.hc, .int .i64 at']] #[], .func (.func 27) #[.agg #[.slice la ll lc, .slice va vl vc, .int .i64 n.op, .slice n.ia n.il n.ic, .slice n.ta n.tl n.tc, .int .i64 n.no, .slice n.sa n.sl n.sc, .slice n.da n.dl n.dc, .slice n.ha n.hl n.hc, .int .i64 at']] #[], .func (.func 28) #[.agg #[.slice la ll lc, .slice va vl vc, .int .i64 n.op, .slice n.ia n.il n.ic, .slice n.ta n.tl n.tc, .int .i64 n.no, .slice n.sa n.sl n.sc, .slice n.da n.dl n.dc, .slice n.ha n.hl n.hc, .int .i64 at']] #[], .func (.func 29) #[.agg #[.slice la ll lc, .slice va vl vc, .int .i64 n.op, .slice n.ia n.il n.ic, .slice n.ta n.tl n.tc, .int .i64 n.no, .slice n.sa n.sl n.sc, .slice n.da n.dl n.dc, .slice n.ha n.hl n.hc, .int .i64 at']] #[], .func (.func 30) #[.agg #[.slice la ll lc, .slice va vl vc, .int .i64 n.op, .slice n.ia n.il n.ic, .slice n.ta n.tl n.tc, .int .i64 n.no, .slice n.sa n.sl n.sc, .slice n.da n.dl n.dc, .slice n.ha n.hl n.hc, .int .i64 at']] #[], .func (.func 31) #[.agg #[.slice la ll lc, .slice va vl vc, .int .i64 n.op, .slice n.ia n.il n.ic, .slice n.ta n.tl n.tc, .int .i64 n.no, .slice n.sa n.sl n.sc, .slice n.da n.dl n.dc, .slice n.ha n.hl n.hc, .int .i64 at']] #[]] 63) := ⟨_, rfl⟩
  rw [← hWA] at hbA hg ⊢
  clear hWA
  go_loopw [22] (fun i wr => ∃ k : Nat, k ≤ 7 ∧ i = .int .i64 k ∧ Below WA.heap.size WA wr ∧ Hid (∀ j, j < k → f j = 0)) (fun i _ => 7 - (intOf i).toNat)
  case atStart => exact ⟨0, Nat.zero_le _, rfl, Below.refl _ _, fun j hj => by omega⟩
  case round =>
    obtain ⟨k, hk, rfl, hbel, HN⟩ := hrel
    by_cases hlt : k < 7
    · rcases (by omega : k = 0 ∨ k = 1 ∨ k = 2 ∨ k = 3 ∨ k = 4 ∨ k = 5 ∨ k = 6) with rfl | rfl | rfl | rfl | rfl | rfl | rfl
      · have hck := cell_later hbel (cell_of_row WA _ 0 _ _ _ hg)
        have C := hide (C0.out)
        unfold lookv at C
        have HBW := hide (hbA.trans (hbel.mono hbA.size))
        have HBL := hide hbel
        by_cases h0 : f 0 = 0
        · have HZ := hide h0
          rw [h0] at C
          clear h0 hbel C0 C1 C2 C3 C4 C5 C6
          go_wp2_with (go_at_call 25; (with_reducible refine (C.out _ HBW.out).mono ?_); rintro e w2 ⟨rfl, hb2⟩; have HB2 := hide hb2; clear hb2)
          go_roundw
          case rel => exact ⟨0 + 1, by omega, rfl, HBL.out.trans (HB2.out.mono HBL.out.size), es_step HN.out HZ.out⟩
          case measure => simp [intOf]
        · have HR : Hid (nodeE ll vl V n at' = f 0) := by
            have h := HES.out
            unfold Hid
            rw [nodeE_hit (k := 0) (by decide) (by rw [h]; exact HN.out) (by rw [h]; exact h0), h]
          have hz : (f 0 == 0) = false := by simpa using h0
          clear h0 hbel C0 C1 C2 C3 C4 C5 C6
          generalize f 0 = z at C hz HR
          go_wp2_with (go_at_call 25; (with_reducible refine (C.out _ HBW.out).mono ?_); rintro e w2 ⟨rfl, hb2⟩; have HB2 := hide hb2; clear hb2)
          go_ret
          rw [HR.out]
          exact ⟨rfl, HBW.out.trans (HB2.out.mono HBW.out.size)⟩
      · have hck := cell_later hbel (cell_of_row WA _ 1 _ _ _ hg)
        have C := hide (C1.out)
        unfold lookv at C
        have HBW := hide (hbA.trans (hbel.mono hbA.size))
        have HBL := hide hbel
        by_cases h0 : f 1 = 0
        · have HZ := hide h0
          rw [h0] at C
          clear h0 hbel C0 C1 C2 C3 C4 C5 C6
          go_wp2_with (go_at_call 26; (with_reducible refine (C.out _ HBW.out).mono ?_); rintro e w2 ⟨rfl, hb2⟩; have HB2 := hide hb2; clear hb2)
          go_roundw
          case rel => exact ⟨1 + 1, by omega, rfl, HBL.out.trans (HB2.out.mono HBL.out.size), es_step HN.out HZ.out⟩
          case measure => simp [intOf]
        · have HR : Hid (nodeE ll vl V n at' = f 1) := by
            have h := HES.out
            unfold Hid
            rw [nodeE_hit (k := 1) (by decide) (by rw [h]; exact HN.out) (by rw [h]; exact h0), h]
          have hz : (f 1 == 0) = false := by simpa using h0
          clear h0 hbel C0 C1 C2 C3 C4 C5 C6
          generalize f 1 = z at C hz HR
          go_wp2_with (go_at_call 26; (with_reducible refine (C.out _ HBW.out).mono ?_); rintro e w2 ⟨rfl, hb2⟩; have HB2 := hide hb2; clear hb2)
          go_ret
          rw [HR.out]
          exact ⟨rfl, HBW.out.trans (HB2.out.mono HBW.out.size)⟩
      · have hck := cell_later hbel (cell_of_row WA _ 2 _ _ _ hg)
        have C := hide (C2.out)
        unfold lookv at C
        have HBW := hide (hbA.trans (hbel.mono hbA.size))
        have HBL := hide hbel
        by_cases h0 : f 2 = 0
        · have HZ := hide h0
          rw [h0] at C
          clear h0 hbel C0 C1 C2 C3 C4 C5 C6
          go_wp2_with (go_at_call 27; (with_reducible refine (C.out _ HBW.out).mono ?_); rintro e w2 ⟨rfl, hb2⟩; have HB2 := hide hb2; clear hb2)
          go_roundw
          case rel => exact ⟨2 + 1, by omega, rfl, HBL.out.trans (HB2.out.mono HBL.out.size), es_step HN.out HZ.out⟩
          case measure => simp [intOf]
        · have HR : Hid (nodeE ll vl V n at' = f 2) := by
            have h := HES.out
            unfold Hid
            rw [nodeE_hit (k := 2) (by decide) (by rw [h]; exact HN.out) (by rw [h]; exact h0), h]
          have hz : (f 2 == 0) = false := by simpa using h0
          clear h0 hbel C0 C1 C2 C3 C4 C5 C6
          generalize f 2 = z at C hz HR
          go_wp2_with (go_at_call 27; (with_reducible refine (C.out _ HBW.out).mono ?_); rintro e w2 ⟨rfl, hb2⟩; have HB2 := hide hb2; clear hb2)
          go_ret
          rw [HR.out]
          exact ⟨rfl, HBW.out.trans (HB2.out.mono HBW.out.size)⟩
      · have hck := cell_later hbel (cell_of_row WA _ 3 _ _ _ hg)
        have C := hide (C3.out)
        unfold lookv at C
        have HBW := hide (hbA.trans (hbel.mono hbA.size))
        have HBL := hide hbel
        by_cases h0 : f 3 = 0
        · have HZ := hide h0
          rw [h0] at C
          clear h0 hbel C0 C1 C2 C3 C4 C5 C6
          go_wp2_with (go_at_call 28; (with_reducible refine (C.out _ HBW.out).mono ?_); rintro e w2 ⟨rfl, hb2⟩; have HB2 := hide hb2; clear hb2)
          go_roundw
          case rel => exact ⟨3 + 1, by omega, rfl, HBL.out.trans (HB2.out.mono HBL.out.size), es_step HN.out HZ.out⟩
          case measure => simp [intOf]
        · have HR : Hid (nodeE ll vl V n at' = f 3) := by
            have h := HES.out
            unfold Hid
            rw [nodeE_hit (k := 3) (by decide) (by rw [h]; exact HN.out) (by rw [h]; exact h0), h]
          have hz : (f 3 == 0) = false := by simpa using h0
          clear h0 hbel C0 C1 C2 C3 C4 C5 C6
          generalize f 3 = z at C hz HR
          go_wp2_with (go_at_call 28; (with_reducible refine (C.out _ HBW.out).mono ?_); rintro e w2 ⟨rfl, hb2⟩; have HB2 := hide hb2; clear hb2)
          go_ret
          rw [HR.out]
          exact ⟨rfl, HBW.out.trans (HB2.out.mono HBW.out.size)⟩
      · have hck := cell_later hbel (cell_of_row WA _ 4 _ _ _ hg)
        have C := hide (C4.out)
        unfold lookv at C
        have HBW := hide (hbA.trans (hbel.mono hbA.size))
        have HBL := hide hbel
        by_cases h0 : f 4 = 0
        · have HZ := hide h0
          rw [h0] at C
          clear h0 hbel C0 C1 C2 C3 C4 C5 C6
          go_wp2_with (go_at_call 29; (with_reducible refine (C.out _ HBW.out).mono ?_); rintro e w2 ⟨rfl, hb2⟩; have HB2 := hide hb2; clear hb2)
          go_roundw
          case rel => exact ⟨4 + 1, by omega, rfl, HBL.out.trans (HB2.out.mono HBL.out.size), es_step HN.out HZ.out⟩
          case measure => simp [intOf]
        · have HR : Hid (nodeE ll vl V n at' = f 4) := by
            have h := HES.out
            unfold Hid
            rw [nodeE_hit (k := 4) (by decide) (by rw [h]; exact HN.out) (by rw [h]; exact h0), h]
          have hz : (f 4 == 0) = false := by simpa using h0
          clear h0 hbel C0 C1 C2 C3 C4 C5 C6
          generalize f 4 = z at C hz HR
          go_wp2_with (go_at_call 29; (with_reducible refine (C.out _ HBW.out).mono ?_); rintro e w2 ⟨rfl, hb2⟩; have HB2 := hide hb2; clear hb2)
          go_ret
          rw [HR.out]
          exact ⟨rfl, HBW.out.trans (HB2.out.mono HBW.out.size)⟩
      · have hck := cell_later hbel (cell_of_row WA _ 5 _ _ _ hg)
        have C := hide (C5.out (HL.out (HN.out 4 (by decide))))
        unfold lookv at C
        have HBW := hide (hbA.trans (hbel.mono hbA.size))
        have HBL := hide hbel
        by_cases h0 : f 5 = 0
        · have HZ := hide h0
          rw [h0] at C
          clear h0 hbel C0 C1 C2 C3 C4 C5 C6
          go_wp2_with (go_at_call 30; (with_reducible refine (C.out _ HBW.out).mono ?_); rintro e w2 ⟨rfl, hb2⟩; have HB2 := hide hb2; clear hb2)
          go_roundw
          case rel => exact ⟨5 + 1, by omega, rfl, HBL.out.trans (HB2.out.mono HBL.out.size), es_step HN.out HZ.out⟩
          case measure => simp [intOf]
        · have HR : Hid (nodeE ll vl V n at' = f 5) := by
            have h := HES.out
            unfold Hid
            rw [nodeE_hit (k := 5) (by decide) (by rw [h]; exact HN.out) (by rw [h]; exact h0), h]
          have hz : (f 5 == 0) = false := by simpa using h0
          clear h0 hbel C0 C1 C2 C3 C4 C5 C6
          generalize f 5 = z at C hz HR
          go_wp2_with (go_at_call 30; (with_reducible refine (C.out _ HBW.out).mono ?_); rintro e w2 ⟨rfl, hb2⟩; have HB2 := hide hb2; clear hb2)
          go_ret
          rw [HR.out]
          exact ⟨rfl, HBW.out.trans (HB2.out.mono HBW.out.size)⟩
      · have hck := cell_later hbel (cell_of_row WA _ 6 _ _ _ hg)
        have C := hide (C6.out)
        unfold lookv at C
        have HBW := hide (hbA.trans (hbel.mono hbA.size))
        have HBL := hide hbel
        by_cases h0 : f 6 = 0
        · have HZ := hide h0
          rw [h0] at C
          clear h0 hbel C0 C1 C2 C3 C4 C5 C6
          go_wp2_with (go_at_call 31; (with_reducible refine (C.out _ HBW.out).mono ?_); rintro e w2 ⟨rfl, hb2⟩; have HB2 := hide hb2; clear hb2)
          go_roundw
          case rel => exact ⟨6 + 1, by omega, rfl, HBL.out.trans (HB2.out.mono HBL.out.size), es_step HN.out HZ.out⟩
          case measure => simp [intOf]
        · have HR : Hid (nodeE ll vl V n at' = f 6) := by
            have h := HES.out
            unfold Hid
            rw [nodeE_hit (k := 6) (by decide) (by rw [h]; exact HN.out) (by rw [h]; exact h0), h]
          have hz : (f 6 == 0) = false := by simpa using h0
          clear h0 hbel C0 C1 C2 C3 C4 C5 C6
          generalize f 6 = z at C hz HR
          go_wp2_with (go_at_call 31; (with_reducible refine (C.out _ HBW.out).mono ?_); rintro e w2 ⟨rfl, hb2⟩; have HB2 := hide hb2; clear hb2)
          go_ret
          rw [HR.out]
          exact ⟨rfl, HBW.out.trans (HB2.out.mono HBW.out.size)⟩
    · obtain rfl : k = 7 := by omega
      have HBW := hide (hbA.trans (hbel.mono hbA.size))
      have HR : Hid (nodeE ll vl V n at' = 0) := by
        have h := HES.out
        exact nodeE_none (by rw [h]; exact HN.out)
      go_wp2_with fail
      go_ret
      rw [HR.out]
      exact ⟨rfl, HBW.out⟩
end Go.Proofs.Ytedpppkknmeheaa

