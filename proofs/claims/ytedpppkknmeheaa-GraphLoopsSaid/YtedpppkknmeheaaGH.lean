/-
  The laws' Small and short. No condition.
-/
import Derived.Test.YtedpppkknmeheaaGG
import Derived.Test.YtedpppkknmeheaaReadW
namespace Go.Proofs.Ytedpppkknmeheaa
open Go.RowKit

def Says (P : Prop) (w : World) (e : Ending) (w' : World) : Prop := ∃ b, e = .returned (.bool b) ∧ (b = true → P) ∧ Below w.heap.size w w'
theorem small3 (sa : Option Addr) (sl sc : Nat) (da : Option Addr) (dl dc : Nat) (w : World) : Calls Try.prog 18 #[.agg #[.slice sa sl sc, .slice da dl dc]] w (Says True w) := by
  have HB : Hid (Below w.heap.size w (w.alloc (.cells #[.slice sa sl sc, .slice da dl dc] 38))) := (Below.refl _ _).alloc (Nat.le_refl _) _
  by_cases h1 : (sl : Int) ≤ 40
  · by_cases h2 : (dl : Int) ≤ 8192
    · go_enter Try.func18, Try.ntmps18
      go_wp2_with fail
      go_ret
      exact ⟨_, rfl, fun _ => trivial, HB.out⟩
    · go_enter Try.func18, Try.ntmps18
      go_wp2_with fail
      go_ret
      exact ⟨_, rfl, fun _ => trivial, HB.out⟩
  · go_enter Try.func18, Try.ntmps18
    go_wp2_with fail
    go_ret
    exact ⟨_, rfl, fun _ => trivial, HB.out⟩
set_option maxRecDepth 100000 in
set_option maxHeartbeats 4000000 in
theorem short_any (va : Option Addr) (vl vc : Nat) (V : List (List Int)) (w : World) (h : Vs w va vl vc V) (hl : vl ≤ 140737488355328) :
    Calls Try.prog 11 #[.slice va vl vc] w (Says True w) := by
  have HV := hide h
  clear h
  go_enter Try.func11, Try.ntmps11
  go_wp2_with fail
  go_loopw [3] (fun i wr => ∃ k : Nat, k ≤ vl ∧ i = .int .i64 k ∧ w = wr) (fun i _ => vl - (intOf i).toNat)
  case atStart => exact ⟨0, Nat.zero_le _, rfl, rfl⟩
  case round =>
    obtain ⟨k, hk, rfl, rfl⟩ := hrel
    by_cases hlt : k < vl
    · obtain ⟨b, off, rfl, c, n, d, hc, _, hn⟩ := HV.out.2.2 k hlt
      by_cases h4 : 40 < n
      · go_wp2_with fail
        go_ret
        exact ⟨false, rfl, (fun h => by cases h), Below.refl _ _⟩
      · have h4' : n ≤ 40 := by omega
        go_wp2_with fail
        go_roundw
        case rel => exact ⟨k + 1, by omega, by go_num, trivial⟩
        case measure => simp [intOf]; omega
    · obtain rfl : vl = k := by omega
      go_wp2_with fail
      go_ret
      exact ⟨_, rfl, fun _ => trivial, Below.refl _ _⟩
/-- What Small tells. -/
def Few (ll : Nat) (gs : List Gr) : Prop := ll ≤ 40 ∧ ∀ i, i < ll → ln gs i ≤ 4000
set_option maxRecDepth 100000 in
set_option maxHeartbeats 16000000 in
theorem small_any (la : Option Addr) (ll lc : Nat) (gs : List Gr) (w : World) (hG : Grs w la ll lc gs) (hS : Szs gs ll) (hl : ll ≤ 140737488355328) :
    Calls Try.prog 10 #[.slice la ll lc] w (Says (Few ll gs) w) := by
  have HG := hide hG
  have HS := hide hS
  have C3 : Hid (∀ sa sl sc da dl dc w', Calls Try.prog 18 #[.agg #[.slice sa sl sc, .slice da dl dc]] w' fun e w2 => ∃ b, e = .returned (.bool b) ∧ Below w'.heap.size w' w2) := hide (fun sa sl sc da dl dc w' => (small3 sa sl sc da dl dc w').mono fun e w2 ⟨b, h1, _, h2⟩ => ⟨b, h1, h2⟩)
  clear hG hS
  by_cases hf : ll ≤ 40
  · go_enter Try.func10, Try.ntmps10
    go_wp2_with fail
    go_loopw [3, 4] (fun s i wr => ∃ (k : Nat) (N : Int), k ≤ ll ∧ i = .int .i64 k ∧ s = .int .i64 N ∧ 0 ≤ N ∧ N ≤ (k : Int) * 1125899906842624 ∧ Hid (Below w.heap.size w wr) ∧ Hid (∀ j, j < k → (ln gs j : Int) ≤ N)) (fun _ i _ => ll - (intOf i).toNat)
    case atStart => exact ⟨0, 0, Nat.zero_le _, rfl, rfl, Int.le_refl _, by omega, Below.refl _ _, fun j hj => by omega⟩
    case round =>
      obtain ⟨k, N, hk, rfl, rfl, hN0, hN1, HB, HJ⟩ := hrel
      by_cases hlt : k < ll
      · obtain ⟨wo, rfl⟩ : ∃ wo : World, wo = wr := ⟨_, rfl⟩
        obtain ⟨b, off, rfl, hc, hN⟩ := HG.out.2.2 k hlt
        have hr := cell_later HB.out hc
        have HLT := hide (lt_of_cell hc)
        have HSZ := hide (HS.out k hlt)
        have HLN : Hid (ln gs k = (gs.getD k default).len) := rfl
        obtain ⟨x, hx⟩ : ∃ x, gs.getD k default = x := ⟨_, rfl⟩
        rw [hx] at hr hN HSZ HLN hc
        obtain ⟨xa, xl, xc, xs⟩ := x
        simp only at hr hN HSZ HLN hc
        have HND := hide hN
        have HCC := hide hc
        have hxl : xl ≤ 140737488355328 := HSZ.out.1
        have hkk : (k : Int) ≤ 40 := by omega
        clear hx hN hc
        go_wp2_with fail
        clear hr
        go_loopw [3, 5] (fun s i wr => ∃ (k2 : Nat) (N2 : Int), k2 ≤ xl ∧ i = .int .i64 k2 ∧ s = .int .i64 N2 ∧ N + xl ≤ N2 ∧ N2 ≤ ((k : Int) + 1) * 1125899906842624 ∧ Hid (Below w.heap.size w wr)) (fun _ i _ => xl - (intOf i).toNat)
        case atStart => exact ⟨0, _, Nat.zero_le _, rfl, rfl, Int.le_refl _, by omega, HB.out⟩
        case round =>
          obtain ⟨k2, N2, hk2, rfl, rfl, hN2, hN3, HB2⟩ := hrel
          have hr := cell_later HB2.out HCC.out
          have hs2 := HB2.out.size
          by_cases hlt2 : k2 < xl
          · by_cases h4 : N2 ≤ 4000
            · obtain ⟨b2, off2, rfl, ⟨c0, c1, c2, c3, c4, c5, c6⟩, _, hsm⟩ := HND.out.2.2 k2 hlt2
              have hsd := HSZ.out.2 k2 hlt2
              obtain ⟨n, hn⟩ : ∃ n, xs.getD k2 default = n := ⟨_, rfl⟩
              rw [hn] at c0 c1 c2 c3 c4 c5 c6 hsm hsd
              have d0 := cell_later HB2.out c0
              have d1 := cell_later HB2.out c1
              have d2 := cell_later HB2.out c2
              have d3 := cell_later HB2.out c3
              have d4 := cell_later HB2.out c4
              have d5 := cell_later HB2.out c5
              have d6 := cell_later HB2.out c6
              clear hn c0 c1 c2 c3 c4 c5 c6
              obtain ⟨op, ia, il, ic, ins, ta, tl, tc, no, qa, ql, qc, qs, da, dl, dc, ha, hl', hc, hs⟩ := n
              simp only at d0 d1 d2 d3 d4 d5 d6
              have b1 : il ≤ 140737488355328 := hsm.1
              have b2 : hl' ≤ 140737488355328 := hsm.2.2
              have b3 : tl ≤ 140737488355328 := hsd.1
              have b4 : dl ≤ 140737488355328 := hsd.2
              have HBA := hide (HB2.out.alloc hs2 (.cells #[.int .i64 op, .slice ia il ic, .slice ta tl tc, .int .i64 no, .slice qa ql qc, .slice da dl dc, .slice ha hl' hc] 41))
              clear hsm hsd
              by_cases h40 : 40 < ql
              · go_wp2_with fail
                go_ret
                exact ⟨false, rfl, (fun h => by cases h), HBA.out⟩
              · have h40' : ql ≤ 40 := by omega
                go_wp2_with (go_at_call 18; (with_reducible refine (C3.out _ _ _ _ _ _ _).mono ?_); rintro e w3 ⟨bb, rfl, hb3⟩; have HB3 := hide (HBA.out.trans (hb3.mono HBA.out.size)); clear hb3; cases bb)
                · go_ret
                  exact ⟨false, rfl, (fun h => by cases h), HB3.out⟩
                · go_roundw
                  case rel => exact ⟨k2 + 1, _, by omega, by go_num, rfl, by omega, by omega, HB3.out⟩
                  case measure => simp [intOf]; omega
            · have hd4 : decide (N2 ≤ 4000) = false := by simpa using h4
              go_wp2_with fail
              go_roundw
              case rel =>
                refine ⟨k + 1, N2, by omega, by go_num, rfl, by omega, by omega, HB2.out, fun j hj => ?_⟩
                by_cases e : j = k
                · subst e; rw [HLN.out]; omega
                · have := HJ.out j (by omega); omega
              case measure => simp [intOf]; omega
          · have hk2' : k2 = xl := by omega
            go_wp2_with fail
            go_roundw
            case rel =>
              refine ⟨k + 1, N2, by omega, by go_num, rfl, by omega, by omega, HB2.out, fun j hj => ?_⟩
              by_cases e : j = k
              · subst e; rw [HLN.out]; omega
              · have := HJ.out j (by omega); omega
            case measure => simp [intOf]; omega
      · obtain rfl : ll = k := by omega
        go_wp2_with fail
        go_ret
        refine ⟨_, rfl, fun h => ⟨hf, fun i hi => ?_⟩, HB.out⟩
        have h1 := HJ.out i hi
        have h2 : N ≤ 4000 := by simpa using h
        omega
  · go_enter Try.func10, Try.ntmps10
    go_wp2_with fail
    go_loopw [3, 4] (fun s i wr => ∃ (k : Nat) (N : Int), k ≤ ll ∧ i = .int .i64 k ∧ s = .int .i64 N ∧ Hid (Below w.heap.size w wr)) (fun _ i _ => ll - (intOf i).toNat)
    case atStart => exact ⟨0, 0, Nat.zero_le _, rfl, rfl, Below.refl _ _⟩
    case round =>
      obtain ⟨k, N, hk, rfl, rfl, HB⟩ := hrel
      by_cases hlt : k < ll
      · obtain ⟨wo, rfl⟩ : ∃ wo : World, wo = wr := ⟨_, rfl⟩
        obtain ⟨b, off, rfl, hc, hN⟩ := HG.out.2.2 k hlt
        have hr := cell_later HB.out hc
        have HSZ := hide (HS.out k hlt)
        obtain ⟨x, hx⟩ : ∃ x, gs.getD k default = x := ⟨_, rfl⟩
        rw [hx] at hr hN HSZ hc
        obtain ⟨xa, xl, xc, xs⟩ := x
        simp only at hr hN HSZ hc
        have HND := hide hN
        have HCC := hide hc
        have hxl : xl ≤ 140737488355328 := HSZ.out.1
        clear hx hN hc
        go_wp2_with fail
        clear hr
        go_loopw [3, 5] (fun s i wr => ∃ (k2 : Nat) (N2 : Int), k2 ≤ xl ∧ i = .int .i64 k2 ∧ s = .int .i64 N2 ∧ Hid (Below w.heap.size w wr)) (fun _ i _ => xl - (intOf i).toNat)
        case atStart => exact ⟨0, _, Nat.zero_le _, rfl, rfl, HB.out⟩
        case round =>
          obtain ⟨k2, N2, hk2, rfl, rfl, HB2⟩ := hrel
          have hr := cell_later HB2.out HCC.out
          have hs2 := HB2.out.size
          by_cases hlt2 : k2 < xl
          · by_cases h4 : N2 ≤ 4000
            · obtain ⟨b2, off2, rfl, ⟨c0, c1, c2, c3, c4, c5, c6⟩, _, hsm⟩ := HND.out.2.2 k2 hlt2
              obtain ⟨n, hn⟩ : ∃ n, xs.getD k2 default = n := ⟨_, rfl⟩
              rw [hn] at c0 c1 c2 c3 c4 c5 c6 hsm
              have d0 := cell_later HB2.out c0
              have d1 := cell_later HB2.out c1
              have d2 := cell_later HB2.out c2
              have d3 := cell_later HB2.out c3
              have d4 := cell_later HB2.out c4
              have d5 := cell_later HB2.out c5
              have d6 := cell_later HB2.out c6
              clear hn c0 c1 c2 c3 c4 c5 c6
              obtain ⟨op, ia, il, ic, ins, ta, tl, tc, no, qa, ql, qc, qs, da, dl, dc, ha, hl', hc, hs⟩ := n
              simp only at d0 d1 d2 d3 d4 d5 d6
              have HBA := hide (HB2.out.alloc hs2 (.cells #[.int .i64 op, .slice ia il ic, .slice ta tl tc, .int .i64 no, .slice qa ql qc, .slice da dl dc, .slice ha hl' hc] 41))
              clear hsm
              by_cases h40 : 40 < ql
              · go_wp2_with fail
                go_ret
                exact ⟨false, rfl, (fun h => by cases h), HBA.out⟩
              · have h40' : ql ≤ 40 := by omega
                go_wp2_with (go_at_call 18; (with_reducible refine (C3.out _ _ _ _ _ _ _).mono ?_); rintro e w3 ⟨bb, rfl, hb3⟩; have HB3 := hide (HBA.out.trans (hb3.mono HBA.out.size)); clear hb3; cases bb)
                · go_ret
                  exact ⟨false, rfl, (fun h => by cases h), HB3.out⟩
                · go_roundw
                  case rel => exact ⟨k2 + 1, _, by omega, by go_num, rfl, HB3.out⟩
                  case measure => simp [intOf]; omega
            · have hd4 : decide (N2 ≤ 4000) = false := by simpa using h4
              go_wp2_with fail
              go_roundw
              case rel => exact ⟨k + 1, N2, by omega, by go_num, rfl, HB2.out⟩
              case measure => simp [intOf]; omega
          · go_wp2_with fail
            go_roundw
            case rel => exact ⟨k + 1, N2, by omega, by go_num, rfl, HB2.out⟩
            case measure => simp [intOf]; omega
      · obtain rfl : ll = k := by omega
        have hd : decide ((ll : Int) ≤ 40) = false := by simp; omega
        go_wp2_with fail
        go_ret
        exact ⟨_, rfl, (fun h => by cases h), HB.out⟩
end Go.Proofs.Ytedpppkknmeheaa
