/-
  The document's Work: where all graphs that are called are there, it answers wkR. No condition.
-/
import Derived.Test.YtedpppkknmeheaaWkD
import Derived.Deep.RegionHeld3
namespace Go.Proofs.Ytedpppkknmeheaa
open Go.RowKit

set_option maxRecDepth 100000 in
set_option maxHeartbeats 16000000 in
theorem work_ref (la : Option Addr) (ll lc : Nat) (gs : List Gr) (g : Nat) (w : World) (hG : Gc w la ll lc gs) (hF : Fits ll gs) (hg : g < ll) (hv : ∀ x, x < ll → Wk.Vl ll (cs gs) x) :
    Calls Try.prog 16 #[.slice la ll lc, .int .i64 g] w (Tells2 (wkR ll gs g) w) := by
  have hll := hF.1
  have hmkb := run_make_row' (P := Try.prog) 68 4 (.bool false) 1 Try.underlying68 bool_info rfl .i64 .i64 ll (by omega) (by omega)
  have HCL := hide (Wk.all_closed hg hv)
  have HG := hide hG
  have HF := hide hF
  have HV := hide hv
  clear hG hF hv
  have e1 : (w.alloc (.cells (madeCells #[.bool false] ll) 4)).setCell ⟨w.heap.size, g, none⟩ (.bool true) = w.alloc (.cells ((madeCells #[.bool false] ll).setIfInBounds g (.bool true)) 4) := by go_simp
  have hrow1 : (w.alloc (.cells ((madeCells #[.bool false] ll).setIfInBounds g (.bool true)) 4)).rowIs w.heap.size 4 ll (fun i => .bool ((fun j => if j = g then true else false : Nat → Bool) i)) := by
    rw [← e1]
    refine ((World.rowIs_made w (.bool false) ll 4).set g (.bool true)).congr fun q _ => ?_
    by_cases e : q = g <;> simp [e]
  have hcell := (World.rowIs_made w (.bool false) ll 4).cell hg
  have hfz := (World.rowIs_made w (.bool false) ll 4).frozen g
  obtain ⟨W2, hW2⟩ : ∃ W2, (w.alloc (.cells ((madeCells #[.bool false] ll).setIfInBounds g (.bool true)) 4)).alloc (.cells (madeCells #[.bool false] ll) 4) = W2 := ⟨_, rfl⟩
  have HR1 := hrow1.alloc (.cells (madeCells #[.bool false] ll) 4)
  have HR2 := World.rowIs_made (w.alloc (.cells ((madeCells #[.bool false] ll).setIfInBounds g (.bool true)) 4)) (.bool false) ll 4
  have HB0 := (((Below.refl _ w).alloc (Nat.le_refl _) (.cells ((madeCells #[.bool false] ll).setIfInBounds g (.bool true)) 4)).alloc (by simp) (.cells (madeCells #[.bool false] ll) 4))
  have HS0 : w.heap.size + 2 ≤ ((w.alloc (.cells ((madeCells #[.bool false] ll).setIfInBounds g (.bool true)) 4)).alloc (.cells (madeCells #[.bool false] ll) 4)).heap.size := by simp
  rw [show (w.alloc (.cells ((madeCells #[.bool false] ll).setIfInBounds g (.bool true)) 4)).heap.size = w.heap.size + 1 by simp] at HR2
  rw [hW2] at HR1 HR2 HB0 HS0
  have HR1 := hide HR1
  have HR2 := hide HR2
  have HB0 := hide HB0
  have HS0 := hide HS0
  have HE := hide hW2
  clear hrow1 e1 hW2
  go_enter Try.func16, Try.ntmps16
  go_wp2_with fail
  rw [HE.out]
  clear HE hcell hfz
  obtain ⟨bL, offL, rfl, -⟩ := HG.out.2.2 g hg
  obtain ⟨bA, hbA⟩ : ∃ bA, w.heap.size + 1 = bA := ⟨_, rfl⟩
  rw [hbA] at HR2 ⊢
  have HBA := hide hbA
  clear hbA
  go_loopw [6, 8, 9] (fun at' dp d wr => ∃ (D ab : Nat) (a al : Nat → Bool) (p : Bool), at' = .slice (some ⟨ab, 0, none⟩) ll ll ∧ dp = .bool p ∧ d = .int .i64 D ∧ D ≤ ll + 10 ∧ Hid (w.heap.size ≤ ab ∧ ab ≠ bA ∧ ab < wr.heap.size) ∧ Hid (wr.rowIs ab 4 ll (fun i => .bool (a i))) ∧ Hid (wr.rowIs bA 4 ll (fun i => .bool (al i))) ∧ Hid (Below w.heap.size w wr) ∧ Hid (w.heap.size + 2 ≤ wr.heap.size) ∧ Hid (Wk.Dep ll (cs gs) g D a al p)) (fun _ _ d _ => ll + 10 - (intOf d).toNat)
  case atStart =>
    refine ⟨0, w.heap.size, _, _, false, rfl, rfl, rfl, by omega, ⟨Nat.le_refl _, by have := HBA.out; omega, by have := HS0.out; omega⟩, HR1.out, HR2.out, HB0.out, HS0.out, Wk.Dep.start g⟩
  case round =>
    obtain ⟨D, ab, a, al, p, rfl, rfl, rfl, hD, HAB, HA, HAL, HB, HS, HDEP⟩ := hrel
    clear HR1 HR2 HB0 HS0
    by_cases hlt : D < ll + 10
    · have hd9 : (D : Int) ≤ (ll : Int) + 8 + 1 := by omega
      obtain ⟨nb, hnb⟩ : ∃ nb, wr.heap.size = nb := ⟨_, rfl⟩
      obtain ⟨W3, hW3⟩ : ∃ W3, wr.alloc (.cells (madeCells #[.bool false] ll) 4) = W3 := ⟨_, rfl⟩
      have h1 := HA.out.alloc (.cells (madeCells #[.bool false] ll) 4)
      have h2 := HAL.out.alloc (.cells (madeCells #[.bool false] ll) 4)
      have h3 := World.rowIs_made wr (.bool false) ll 4
      have h4 := HB.out.alloc HB.out.size (.cells (madeCells #[.bool false] ll) 4)
      have h5 : nb + 1 ≤ (wr.alloc (.cells (madeCells #[.bool false] ll) 4)).heap.size := by simp; omega
      have h6 : Hid (w.heap.size ≤ ab ∧ ab ≠ bA ∧ ab < nb ∧ bA < nb ∧ w.heap.size + 1 = bA) := ⟨HAB.out.1, HAB.out.2.1, by rw [← hnb]; exact HAB.out.2.2, by have := HS.out; have := HBA.out; omega, HBA.out⟩
      rw [hnb] at h3
      rw [hW3] at h1 h2 h3 h4 h5
      have KA := hide h1
      have KAL := hide h2
      have KN := hide h3
      have KB := hide h4
      have KS := hide h5
      have HE1 := hide hnb
      have HE2 := hide hW3
      clear hnb hW3 h1 h2 h3 h4 h5 HA HAL HB HS HAB
      go_wp2_with fail
      rw [HE2.out]
      rw [HE1.out]
      clear HE1 HE2
      go_loopw [11, 12] (fun sm i wr => ∃ (I : Nat) (al' nx : Nat → Bool) (s : Bool), sm = .bool s ∧ i = .int .i64 I ∧ I ≤ ll ∧ Hid (wr.rowIs ab 4 ll (fun i => .bool (a i))) ∧ Hid (wr.rowIs bA 4 ll (fun i => .bool (al' i))) ∧ Hid (wr.rowIs nb 4 ll (fun i => .bool (nx i))) ∧ Hid (Below w.heap.size w wr) ∧ Hid (nb + 1 ≤ wr.heap.size) ∧ Hid (Wk.Row ll (cs gs) g D I al' nx s)) (fun _ i _ => ll - (intOf i).toNat)
      case atStart => exact ⟨0, _, _, false, rfl, rfl, by omega, KA.out, KAL.out, KN.out, KB.out, KS.out, Wk.Row.start HDEP.out⟩
      case round =>
        obtain ⟨I, al', nx, s, rfl, rfl, hI, QA, QAL, QN, QB, QS, HROW⟩ := hrel
        clear KA KAL KN KB KS
        by_cases hlt2 : I < ll
        · obtain ⟨b0, off0, hb0, hcl, hN⟩ := HG.out.2.2 I hlt2
          cases hb0
          obtain ⟨x, hx⟩ : ∃ x, gs.getD I default = x := ⟨_, rfl⟩
          have hcs : cs gs I = csl x.l := by unfold cs; rw [hx]
          have hln : ln gs I = x.len := by unfold ln; rw [hx]
          have hfi := HF.out.2 I hlt2
          rw [hln] at hfi
          rw [hx] at hcl hN
          obtain ⟨xa, xl, xc, xs⟩ := x
          simp only at hcl hN hcs hfi
          have hlib : w.heap.size ≤ wr.heap.size := QB.out.size
          have q1 := cell_later QB.out hcl
          have q2 := QA.out.cell hlt2
          have q3 := QAL.out.cell hlt2
          have q4 := QAL.out.frozen I
          have HNW := hide hN
          have HCS := hide hcs
          have HX := hide hx
          clear hcl hN hcs hln hx
          have hst : ∀ X, X = (al' I || a I) → (wr.setCell ⟨bA, I, none⟩ (.bool X)).rowIs ab 4 ll (fun i => .bool (a i)) ∧ (wr.setCell ⟨bA, I, none⟩ (.bool X)).rowIs bA 4 ll (fun i => .bool ((fun j => if j = I then (al' I || a I) else al' j : Nat → Bool) i)) ∧ (wr.setCell ⟨bA, I, none⟩ (.bool X)).rowIs nb 4 ll (fun i => .bool (nx i)) ∧ Below w.heap.size w (wr.setCell ⟨bA, I, none⟩ (.bool X)) ∧ nb + 1 ≤ (wr.setCell ⟨bA, I, none⟩ (.bool X)).heap.size := by
            intro X hX
            have hh := h6.out
            refine ⟨QA.out.setOther (by simp <;> omega) _, ((QAL.out.set I (.bool X)).congr fun q _ => ?_), QN.out.setOther (by simp <;> omega) _, QB.out.setCell (by simp <;> omega) _, by have := QS.out; simp [World.setCell]; omega⟩
            by_cases e : q = I <;> simp [e, hX]
          have HST := hide hst
          clear hst
          cases hai : a I
          · have HR9 := hide (HROW.out.no HDEP.out hlt2 hai)
            rw [hai] at q2
            cases hal : al' I
            · rw [hal] at q3
              obtain ⟨k1, k2, k3, k4, k5⟩ := HST.out false (by rw [hai, hal]; rfl)
              have K1 := hide k1
              have K2 := hide k2
              have K3 := hide k3
              have K4 := hide k4
              have K5 := hide k5
              have HAI := hide hai
              clear k1 k2 k3 k4 k5 hai hal HST
              go_upto_region 16 with fail
              generalize wr.setCell ⟨bA, I, none⟩ (.bool false) = W4 at K1 K2 K3 K4 K5 ⊢
              clear q1 q2 q3 q4 hlib QA QAL QN QB QS
              go_wp2_with fail
              have q5 := K1.out.cell hlt2
              simp only [HAI.out] at q5
              clear HAI
              go_loopw [11, 13] (fun sm k wr => sm = .bool s ∧ k = .int .i64 0 ∧ W4 = wr) (fun _ _ _ => 0)
              case atStart => exact ⟨rfl, rfl, rfl⟩
              case round =>
                obtain ⟨rfl, rfl, rfl⟩ := hrel
                go_wp2_with fail
                go_roundw
                case rel => exact ⟨I + 1, _, nx, s, rfl, by go_num, by omega, K1.out, K2.out, K3.out, K4.out, K5.out, HR9.out⟩
                case measure => simp [intOf]; omega
            · rw [hal] at q3
              obtain ⟨k1, k2, k3, k4, k5⟩ := HST.out true (by rw [hai, hal]; rfl)
              have K1 := hide k1
              have K2 := hide k2
              have K3 := hide k3
              have K4 := hide k4
              have K5 := hide k5
              have HAI := hide hai
              clear k1 k2 k3 k4 k5 hai hal HST
              go_upto_region 16 with fail
              generalize wr.setCell ⟨bA, I, none⟩ (.bool true) = W4 at K1 K2 K3 K4 K5 ⊢
              clear q1 q2 q3 q4 hlib QA QAL QN QB QS
              go_wp2_with fail
              have q5 := K1.out.cell hlt2
              simp only [HAI.out] at q5
              clear HAI
              go_loopw [11, 13] (fun sm k wr => sm = .bool s ∧ k = .int .i64 0 ∧ W4 = wr) (fun _ _ _ => 0)
              case atStart => exact ⟨rfl, rfl, rfl⟩
              case round =>
                obtain ⟨rfl, rfl, rfl⟩ := hrel
                go_wp2_with fail
                go_roundw
                case rel => exact ⟨I + 1, _, nx, s, rfl, by go_num, by omega, K1.out, K2.out, K3.out, K4.out, K5.out, HR9.out⟩
                case measure => simp [intOf]; omega
          · rw [hai] at q2
            cases hal : al' I
            · rw [hal] at q3
              obtain ⟨k1, k2, k3, k4, k5⟩ := HST.out true (by rw [hai, hal]; rfl)
              have K1 := hide k1
              have K2 := hide k2
              have K3 := hide k3
              have K4 := hide k4
              have K5 := hide k5
              have HAI := hide hai
              clear k1 k2 k3 k4 k5 hai hal HST
              go_upto_region 16 with fail
              generalize wr.setCell ⟨bA, I, none⟩ (.bool true) = W4 at K1 K2 K3 K4 K5 ⊢
              clear q1 q2 q3 q4 hlib QA QAL QN QB QS
              go_wp2_with fail
              go_loopw [11, 13] (fun sm k wr => ∃ (K : Nat) (nx' : Nat → Bool) (s' : Bool), sm = .bool s' ∧ k = .int .i64 K ∧ K ≤ xl ∧ Hid (wr.rowIs ab 4 ll (fun i => .bool (a i))) ∧ Hid (wr.rowIs bA 4 ll (fun i => .bool ((fun j => if j = I then (al' I || a I) else al' j : Nat → Bool) i))) ∧ Hid (wr.rowIs nb 4 ll (fun i => .bool (nx' i))) ∧ Hid (Below w.heap.size w wr) ∧ Hid (nb + 1 ≤ wr.heap.size) ∧ Hid (Wk.Cell ll (cs gs) g D I (csl (xs.take K)) nx' s')) (fun _ k _ => xl - (intOf k).toNat)
              case atStart => exact ⟨0, nx, s, rfl, rfl, Nat.zero_le _, K1.out, K2.out, K3.out, K4.out, K5.out, Wk.Cell.start HROW.out⟩
              case round =>
                obtain ⟨K, nx', s', rfl, rfl, hK, J1, J2, J3, J4, J5, HC⟩ := hrel
                clear K1 K2 K3 K4 K5
                have q5 := J1.out.cell hlt2
                simp only [HAI.out] at q5
                obtain ⟨b0, off0, hb0, hcl, -⟩ := HG.out.2.2 I hlt2
                cases hb0
                rw [HX.out] at hcl
                have q6 := cell_later J4.out hcl
                clear hcl
                by_cases hlt3 : K < xl
                · obtain ⟨bN, offN, rfl, ⟨c0, c1, c2, c3, c4, c5, c6⟩⟩ := (HNW.out.later J4.out).2.2 K hlt3
                  obtain ⟨n, hn⟩ : ∃ n, xs.getD K default = n := ⟨_, rfl⟩
                  have hsn := csl_snoc xs K (by rw [HNW.out.1]; exact hlt3) n hn
                  have hmem : n ∈ xs := by
                    rw [← hn, List.getD_eq_getElem?_getD, List.getElem?_eq_getElem (by rw [HNW.out.1]; exact hlt3)]
                    exact List.getElem_mem _
                  rw [hn] at c0 c1 c2 c3 c4 c5 c6
                  obtain ⟨op, ia, il, ic, ins, ta, tl, tc, no, sa, sl, sc, S, da, dl, dc, ha, hl, hc, hs⟩ := n
                  simp only at c0 c1 c2 c3 c4 c5 c6 hsn
                  by_cases hop : op = 16
                  · subst hop
                    have hno : 0 ≤ no ∧ no < ll := HV.out I hlt2 no (by rw [HCS.out]; unfold csl; exact List.mem_map.2 ⟨_, List.mem_filter.2 ⟨hmem, rfl⟩, rfl⟩)
                    obtain ⟨c, rfl⟩ : ∃ c : Nat, no = c := ⟨no.toNat, by omega⟩
                    have hcl : c < ll := by omega
                    have HC2 := hide (HC.out.more c)
                    simp only [if_pos] at hsn
                    rw [← hsn] at HC2
                    have q7 := (J3.out.alloc (.cells #[.int .i64 16, .slice ia il ic, .slice ta tl tc, .int .i64 c, .slice sa sl sc, .slice da dl dc, .slice ha hl hc] 41)).cell hcl
                    have q8 := (J3.out.alloc (.cells #[.int .i64 16, .slice ia il ic, .slice ta tl tc, .int .i64 c, .slice sa sl sc, .slice da dl dc, .slice ha hl hc] 41)).frozen c
                    clear hn hsn hmem HC
                    have hh := h6.out
                    have M1 := hide ((J1.out.alloc (.cells #[.int .i64 16, .slice ia il ic, .slice ta tl tc, .int .i64 c, .slice sa sl sc, .slice da dl dc, .slice ha hl hc] 41)).setOther (a := ⟨nb, c, none⟩) (by simp <;> omega) (.bool true))
                    have M2 := hide ((J2.out.alloc (.cells #[.int .i64 16, .slice ia il ic, .slice ta tl tc, .int .i64 c, .slice sa sl sc, .slice da dl dc, .slice ha hl hc] 41)).setOther (a := ⟨nb, c, none⟩) (by simp <;> omega) (.bool true))
                    have M3 : Hid (((wr.alloc (.cells #[.int .i64 16, .slice ia il ic, .slice ta tl tc, .int .i64 c, .slice sa sl sc, .slice da dl dc, .slice ha hl hc] 41)).setCell ⟨nb, c, none⟩ (.bool true)).rowIs nb 4 ll (fun i => .bool ((fun j => if j = c then true else nx' j : Nat → Bool) i))) := by
                      refine (((J3.out.alloc (.cells #[.int .i64 16, .slice ia il ic, .slice ta tl tc, .int .i64 c, .slice sa sl sc, .slice da dl dc, .slice ha hl hc] 41)).set c (.bool true)).congr fun q _ => ?_)
                      by_cases e : q = c <;> simp [e]
                    have M4 := hide ((J4.out.alloc J4.out.size (.cells #[.int .i64 16, .slice ia il ic, .slice ta tl tc, .int .i64 c, .slice sa sl sc, .slice da dl dc, .slice ha hl hc] 41)).setCell (p := ⟨nb, c, none⟩) (by simp <;> omega) (.bool true))
                    clear hh
                    go_wp2_with fail
                    go_roundw
                    case rel => exact ⟨K + 1, _, true, rfl, by go_num, by omega, M1.out, M2.out, M3.out, M4.out, by have := J5.out; unfold Hid; simp [World.setCell]; omega, HC2.out⟩
                    case measure => simp [intOf]; omega
                  · have hne : (op != 16) = true := by simpa using hop
                    simp only [if_neg hop, List.append_nil] at hsn
                    have HC2 := HC.out
                    rw [← hsn] at HC2
                    have HC3 := hide HC2
                    have M1 := hide (J1.out.alloc (.cells #[.int .i64 op, .slice ia il ic, .slice ta tl tc, .int .i64 no, .slice sa sl sc, .slice da dl dc, .slice ha hl hc] 41))
                    have M2 := hide (J2.out.alloc (.cells #[.int .i64 op, .slice ia il ic, .slice ta tl tc, .int .i64 no, .slice sa sl sc, .slice da dl dc, .slice ha hl hc] 41))
                    have M3 := hide (J3.out.alloc (.cells #[.int .i64 op, .slice ia il ic, .slice ta tl tc, .int .i64 no, .slice sa sl sc, .slice da dl dc, .slice ha hl hc] 41))
                    have M4 := hide (J4.out.alloc J4.out.size (.cells #[.int .i64 op, .slice ia il ic, .slice ta tl tc, .int .i64 no, .slice sa sl sc, .slice da dl dc, .slice ha hl hc] 41))
                    clear hn hsn hmem HC HC2 hop
                    go_wp2_with fail
                    go_roundw
                    case rel => exact ⟨K + 1, nx', s', rfl, by go_num, by omega, M1.out, M2.out, M3.out, M4.out, by have := J5.out; unfold Hid; simp; omega, HC3.out⟩
                    case measure => simp [intOf]; omega
                · obtain rfl : xl = K := by omega
                  have hta : csl (xs.take xl) = cs gs I := by rw [HCS.out, ← HNW.out.1, List.take_length]
                  have HC2 := HC.out
                  rw [hta] at HC2
                  have HR9 := hide (HROW.out.yes HDEP.out hlt2 HAI.out HC2)
                  clear hta HC2 HC
                  go_wp2_with fail
                  go_roundw
                  case rel => exact ⟨I + 1, _, nx', s', rfl, by go_num, by omega, J1.out, J2.out, J3.out, J4.out, J5.out, HR9.out⟩
                  case measure => simp [intOf]; omega
            · rw [hal] at q3
              obtain ⟨k1, k2, k3, k4, k5⟩ := HST.out true (by rw [hai, hal]; rfl)
              have K1 := hide k1
              have K2 := hide k2
              have K3 := hide k3
              have K4 := hide k4
              have K5 := hide k5
              have HAI := hide hai
              clear k1 k2 k3 k4 k5 hai hal HST
              go_upto_region 16 with fail
              generalize wr.setCell ⟨bA, I, none⟩ (.bool true) = W4 at K1 K2 K3 K4 K5 ⊢
              clear q1 q2 q3 q4 hlib QA QAL QN QB QS
              go_wp2_with fail
              go_loopw [11, 13] (fun sm k wr => ∃ (K : Nat) (nx' : Nat → Bool) (s' : Bool), sm = .bool s' ∧ k = .int .i64 K ∧ K ≤ xl ∧ Hid (wr.rowIs ab 4 ll (fun i => .bool (a i))) ∧ Hid (wr.rowIs bA 4 ll (fun i => .bool ((fun j => if j = I then (al' I || a I) else al' j : Nat → Bool) i))) ∧ Hid (wr.rowIs nb 4 ll (fun i => .bool (nx' i))) ∧ Hid (Below w.heap.size w wr) ∧ Hid (nb + 1 ≤ wr.heap.size) ∧ Hid (Wk.Cell ll (cs gs) g D I (csl (xs.take K)) nx' s')) (fun _ k _ => xl - (intOf k).toNat)
              case atStart => exact ⟨0, nx, s, rfl, rfl, Nat.zero_le _, K1.out, K2.out, K3.out, K4.out, K5.out, Wk.Cell.start HROW.out⟩
              case round =>
                obtain ⟨K, nx', s', rfl, rfl, hK, J1, J2, J3, J4, J5, HC⟩ := hrel
                clear K1 K2 K3 K4 K5
                have q5 := J1.out.cell hlt2
                simp only [HAI.out] at q5
                obtain ⟨b0, off0, hb0, hcl, -⟩ := HG.out.2.2 I hlt2
                cases hb0
                rw [HX.out] at hcl
                have q6 := cell_later J4.out hcl
                clear hcl
                by_cases hlt3 : K < xl
                · obtain ⟨bN, offN, rfl, ⟨c0, c1, c2, c3, c4, c5, c6⟩⟩ := (HNW.out.later J4.out).2.2 K hlt3
                  obtain ⟨n, hn⟩ : ∃ n, xs.getD K default = n := ⟨_, rfl⟩
                  have hsn := csl_snoc xs K (by rw [HNW.out.1]; exact hlt3) n hn
                  have hmem : n ∈ xs := by
                    rw [← hn, List.getD_eq_getElem?_getD, List.getElem?_eq_getElem (by rw [HNW.out.1]; exact hlt3)]
                    exact List.getElem_mem _
                  rw [hn] at c0 c1 c2 c3 c4 c5 c6
                  obtain ⟨op, ia, il, ic, ins, ta, tl, tc, no, sa, sl, sc, S, da, dl, dc, ha, hl, hc, hs⟩ := n
                  simp only at c0 c1 c2 c3 c4 c5 c6 hsn
                  by_cases hop : op = 16
                  · subst hop
                    have hno : 0 ≤ no ∧ no < ll := HV.out I hlt2 no (by rw [HCS.out]; unfold csl; exact List.mem_map.2 ⟨_, List.mem_filter.2 ⟨hmem, rfl⟩, rfl⟩)
                    obtain ⟨c, rfl⟩ : ∃ c : Nat, no = c := ⟨no.toNat, by omega⟩
                    have hcl : c < ll := by omega
                    have HC2 := hide (HC.out.more c)
                    simp only [if_pos] at hsn
                    rw [← hsn] at HC2
                    have q7 := (J3.out.alloc (.cells #[.int .i64 16, .slice ia il ic, .slice ta tl tc, .int .i64 c, .slice sa sl sc, .slice da dl dc, .slice ha hl hc] 41)).cell hcl
                    have q8 := (J3.out.alloc (.cells #[.int .i64 16, .slice ia il ic, .slice ta tl tc, .int .i64 c, .slice sa sl sc, .slice da dl dc, .slice ha hl hc] 41)).frozen c
                    clear hn hsn hmem HC
                    have hh := h6.out
                    have M1 := hide ((J1.out.alloc (.cells #[.int .i64 16, .slice ia il ic, .slice ta tl tc, .int .i64 c, .slice sa sl sc, .slice da dl dc, .slice ha hl hc] 41)).setOther (a := ⟨nb, c, none⟩) (by simp <;> omega) (.bool true))
                    have M2 := hide ((J2.out.alloc (.cells #[.int .i64 16, .slice ia il ic, .slice ta tl tc, .int .i64 c, .slice sa sl sc, .slice da dl dc, .slice ha hl hc] 41)).setOther (a := ⟨nb, c, none⟩) (by simp <;> omega) (.bool true))
                    have M3 : Hid (((wr.alloc (.cells #[.int .i64 16, .slice ia il ic, .slice ta tl tc, .int .i64 c, .slice sa sl sc, .slice da dl dc, .slice ha hl hc] 41)).setCell ⟨nb, c, none⟩ (.bool true)).rowIs nb 4 ll (fun i => .bool ((fun j => if j = c then true else nx' j : Nat → Bool) i))) := by
                      refine (((J3.out.alloc (.cells #[.int .i64 16, .slice ia il ic, .slice ta tl tc, .int .i64 c, .slice sa sl sc, .slice da dl dc, .slice ha hl hc] 41)).set c (.bool true)).congr fun q _ => ?_)
                      by_cases e : q = c <;> simp [e]
                    have M4 := hide ((J4.out.alloc J4.out.size (.cells #[.int .i64 16, .slice ia il ic, .slice ta tl tc, .int .i64 c, .slice sa sl sc, .slice da dl dc, .slice ha hl hc] 41)).setCell (p := ⟨nb, c, none⟩) (by simp <;> omega) (.bool true))
                    clear hh
                    go_wp2_with fail
                    go_roundw
                    case rel => exact ⟨K + 1, _, true, rfl, by go_num, by omega, M1.out, M2.out, M3.out, M4.out, by have := J5.out; unfold Hid; simp [World.setCell]; omega, HC2.out⟩
                    case measure => simp [intOf]; omega
                  · have hne : (op != 16) = true := by simpa using hop
                    simp only [if_neg hop, List.append_nil] at hsn
                    have HC2 := HC.out
                    rw [← hsn] at HC2
                    have HC3 := hide HC2
                    have M1 := hide (J1.out.alloc (.cells #[.int .i64 op, .slice ia il ic, .slice ta tl tc, .int .i64 no, .slice sa sl sc, .slice da dl dc, .slice ha hl hc] 41))
                    have M2 := hide (J2.out.alloc (.cells #[.int .i64 op, .slice ia il ic, .slice ta tl tc, .int .i64 no, .slice sa sl sc, .slice da dl dc, .slice ha hl hc] 41))
                    have M3 := hide (J3.out.alloc (.cells #[.int .i64 op, .slice ia il ic, .slice ta tl tc, .int .i64 no, .slice sa sl sc, .slice da dl dc, .slice ha hl hc] 41))
                    have M4 := hide (J4.out.alloc J4.out.size (.cells #[.int .i64 op, .slice ia il ic, .slice ta tl tc, .int .i64 no, .slice sa sl sc, .slice da dl dc, .slice ha hl hc] 41))
                    clear hn hsn hmem HC HC2 hop
                    go_wp2_with fail
                    go_roundw
                    case rel => exact ⟨K + 1, nx', s', rfl, by go_num, by omega, M1.out, M2.out, M3.out, M4.out, by have := J5.out; unfold Hid; simp; omega, HC3.out⟩
                    case measure => simp [intOf]; omega
                · obtain rfl : xl = K := by omega
                  have hta : csl (xs.take xl) = cs gs I := by rw [HCS.out, ← HNW.out.1, List.take_length]
                  have HC2 := HC.out
                  rw [hta] at HC2
                  have HR9 := hide (HROW.out.yes HDEP.out hlt2 HAI.out HC2)
                  clear hta HC2 HC
                  go_wp2_with fail
                  go_roundw
                  case rel => exact ⟨I + 1, _, nx', s', rfl, by go_num, by omega, J1.out, J2.out, J3.out, J4.out, J5.out, HR9.out⟩
                  case measure => simp [intOf]; omega
        · obtain rfl : ll = I := by omega
          have HD2 := hide (HDEP.out.more hg HV.out HROW.out)
          by_cases h8 : 8 ≤ D
          all_goals (
            have h8i := h8
            rw [← Int.ofNat_le] at h8i
            have h8h := hide h8
            clear h8
            cases p <;> cases s)
          all_goals (
            go_wp2_with fail
            go_roundw
            case rel => exact ⟨D + 1, nb, _, _, _, rfl, (by first | rfl | (simp; have := h8h.out; omega)), by go_num, by omega, ⟨by have := h6.out; omega, by have := h6.out; omega, by have := QS.out; omega⟩, QN.out, QAL.out, QB.out, by have := QS.out; have := h6.out; unfold Hid; omega, HD2.out⟩
            case measure => simp [intOf]; omega)
    · obtain rfl : ll + 10 = D := by omega
      have hdi := HDEP.out.deep_iff (by omega)
      have hre := HDEP.out.reached (by omega)
      cases p
      · have hnp : Wk.NP (cs gs) 9 g := Classical.not_not.1 fun h => by have := hdi.2 h; cases this
        have hre := hre hnp
        have HNP := hide hnp
        have HRE := hide hre
        clear hre hnp hdi HDEP HA
        have hmki := run_make_row' (P := Try.prog) 35 3 (.int .i64 0) 8 Try.underlying35 int_info rfl .i64 .i64 ll (by omega) (by omega)
        obtain ⟨mb, hmb⟩ : ∃ mb, wr.heap.size = mb := ⟨_, rfl⟩
        obtain ⟨W5, hW5⟩ : ∃ W5, wr.alloc (.cells (madeCells #[.int .i64 0] ll) 3) = W5 := ⟨_, rfl⟩
        have h2 := HAL.out.alloc (.cells (madeCells #[.int .i64 0] ll) 3)
        have h3 := World.rowIs_made wr (.int .i64 0) ll 3
        have h4 := HB.out.alloc HB.out.size (.cells (madeCells #[.int .i64 0] ll) 3)
        have h5 : mb + 1 ≤ (wr.alloc (.cells (madeCells #[.int .i64 0] ll) 3)).heap.size := by simp; omega
        have h6 : Hid (w.heap.size ≤ mb ∧ bA < mb ∧ w.heap.size + 1 = bA) := ⟨by have := HS.out; omega, by have := HS.out; have := HBA.out; omega, HBA.out⟩
        rw [hmb] at h3
        rw [hW5] at h2 h3 h4 h5
        have KAL := hide h2
        have KN := hide h3
        have KB := hide h4
        have KS := hide h5
        have HE1 := hide hmb
        have HE2 := hide hW5
        clear hmb hW5 h2 h3 h4 h5 HAL HB HS HAB
        go_wp2_with fail
        rw [HE2.out]
        rw [HE1.out]
        clear HE1 HE2
        go_loopw [15, 16] (fun m d wr => ∃ (D mb : Nat) (mv : Nat → Nat), m = .slice (some ⟨mb, 0, none⟩) ll ll ∧ d = .int .i64 D ∧ D ≤ 10 ∧ Hid (w.heap.size ≤ mb ∧ mb ≠ bA ∧ mb < wr.heap.size) ∧ Hid (wr.rowIs mb 3 ll (fun i => .int .i64 ((mv i : Nat) : Int))) ∧ Hid (wr.rowIs bA 4 ll (fun i => .bool (al i))) ∧ Hid (Below w.heap.size w wr) ∧ Hid (w.heap.size + 2 ≤ wr.heap.size) ∧ Hid (Wk.Sums ll (ln gs) (cs gs) al D ll mv)) (fun _ d _ => 10 - (intOf d).toNat)
        case atStart => exact ⟨0, mb, fun _ => 0, rfl, rfl, by omega, ⟨by have := h6.out; omega, by have := h6.out; omega, by have := KS.out; omega⟩, KN.out, KAL.out, KB.out, by have := h6.out; have := KS.out; unfold Hid; omega, Wk.Sums.zero⟩
        case round =>
          obtain ⟨D, mb', mv, rfl, rfl, hD10, HMB, HM, HAL, HB, HS, HSU⟩ := hrel
          clear KAL KN KB KS h6
          by_cases hlt4 : D < 10
          · have hd9 : (D : Int) ≤ 9 := by omega
            obtain ⟨nb, hnb⟩ : ∃ nb, wr.heap.size = nb := ⟨_, rfl⟩
            obtain ⟨W3, hW3⟩ : ∃ W3, wr.alloc (.cells (madeCells #[.int .i64 0] ll) 3) = W3 := ⟨_, rfl⟩
            have h1 := HM.out.alloc (.cells (madeCells #[.int .i64 0] ll) 3)
            have h2 := HAL.out.alloc (.cells (madeCells #[.int .i64 0] ll) 3)
            have h3 := World.rowIs_made wr (.int .i64 0) ll 3
            have h4 := HB.out.alloc HB.out.size (.cells (madeCells #[.int .i64 0] ll) 3)
            have h5 : nb + 1 ≤ (wr.alloc (.cells (madeCells #[.int .i64 0] ll) 3)).heap.size := by simp; omega
            have h6 : Hid (w.heap.size ≤ mb' ∧ mb' ≠ bA ∧ mb' < nb ∧ bA < nb ∧ w.heap.size + 1 = bA) := ⟨HMB.out.1, HMB.out.2.1, by rw [← hnb]; exact HMB.out.2.2, by have := HS.out; have := HBA.out; omega, HBA.out⟩
            rw [hnb] at h3
            rw [hW3] at h1 h2 h3 h4 h5
            have KA := hide h1
            have KAL := hide h2
            have KN := hide h3
            have KB := hide h4
            have KS := hide h5
            have HE1 := hide hnb
            have HE2 := hide hW3
            clear hnb hW3 h1 h2 h3 h4 h5 HM HAL HB HS HMB
            go_wp2_with fail
            rw [HE2.out]
            rw [HE1.out]
            clear HE1 HE2
            go_loopw [18] (fun i wr => ∃ (I : Nat) (nv : Nat → Nat), i = .int .i64 I ∧ I ≤ ll ∧ Hid (wr.rowIs mb' 3 ll (fun i => .int .i64 ((mv i : Nat) : Int))) ∧ Hid (wr.rowIs bA 4 ll (fun i => .bool (al i))) ∧ Hid (wr.rowIs nb 3 ll (fun i => .int .i64 ((nv i : Nat) : Int))) ∧ Hid (Below w.heap.size w wr) ∧ Hid (nb + 1 ≤ wr.heap.size) ∧ Hid (Wk.Sums ll (ln gs) (cs gs) al (D + 1) I nv)) (fun i _ => ll - (intOf i).toNat)
            case atStart => exact ⟨0, fun _ => 0, rfl, by omega, KA.out, KAL.out, KN.out, KB.out, KS.out, Wk.Sums.start⟩
            case round =>
              obtain ⟨I, nv, rfl, hI, QM, QAL, QN, QB, QS, HSI⟩ := hrel
              clear KA KAL KN KB KS
              by_cases hlt2 : I < ll
              · cases hal : al I
                · have HS2 := hide (HSI.out.skip hal)
                  have q3 := QAL.out.cell hlt2
                  simp only [hal] at q3
                  obtain ⟨b0, off0, hb0, hcl, -⟩ := HG.out.2.2 I hlt2
                  cases hb0
                  have q6 := cell_later QB.out hcl
                  clear hcl hal
                  go_wp2_with fail
                  go_loopw [19] (fun k w' => k = .int .i64 0 ∧ wr = w') (fun _ _ => 0)
                  case atStart => exact ⟨rfl, rfl⟩
                  case round =>
                    obtain ⟨rfl, rfl⟩ := hrel
                    go_wp2_with fail
                    go_roundw
                    case rel => exact ⟨I + 1, nv, by go_num, by omega, QM.out, QAL.out, QN.out, QB.out, QS.out, HS2.out⟩
                    case measure => simp [intOf]; omega
                · obtain ⟨b0, off0, hb0, hcl0, hN⟩ := HG.out.2.2 I hlt2
                  cases hb0
                  obtain ⟨x, hx⟩ : ∃ x, gs.getD I default = x := ⟨_, rfl⟩
                  have hcs : cs gs I = csl x.l := by unfold cs; rw [hx]
                  have hln : ln gs I = x.len := by unfold ln; rw [hx]
                  have hfi := HF.out.2 I hlt2
                  rw [hln] at hfi
                  rw [hx] at hN hcl0
                  obtain ⟨xa, xl, xc, xs⟩ := x
                  simp only at hN hcs hfi hln hcl0
                  have HNW := hide hN
                  have HCS := hide hcs
                  have HLN := hide hln
                  have HCL0 := hide hcl0
                  have hal0 := HSI.out.rest I hlt2 (Nat.le_refl _)
                  have QN0 : Hid (wr.rowIs nb 3 ll (fun i => .int .i64 (((fun j => if j = I then 0 else nv j : Nat → Nat) i : Nat) : Int))) := (QN.out.congr fun q _ => by
                    by_cases e : q = I
                    · subst e; simp [hal0]
                    · simp [e])
                  have HALI := hide hal
                  clear hN hcs hln hx hal hal0 hcl0
                  go_wp2_with fail
                  go_loopw [19] (fun k wr => ∃ (K v : Nat), k = .int .i64 K ∧ K ≤ xl ∧ Hid (wr.rowIs mb' 3 ll (fun i => .int .i64 ((mv i : Nat) : Int))) ∧ Hid (wr.rowIs bA 4 ll (fun i => .bool (al i))) ∧ Hid (wr.rowIs nb 3 ll (fun i => .int .i64 (((fun j => if j = I then v else nv j : Nat → Nat) i : Nat) : Int))) ∧ Hid (Below w.heap.size w wr) ∧ Hid (nb + 1 ≤ wr.heap.size) ∧ Hid (Wk.Sum1 (ln gs) (cs gs) D K (csl (xs.take K)) v)) (fun k _ => xl - (intOf k).toNat)
                  case atStart => exact ⟨0, 0, rfl, Nat.zero_le _, QM.out, QAL.out, QN0.out, QB.out, QS.out, Wk.Sum1.start⟩
                  case round =>
                    obtain ⟨K, v, rfl, hK, J1, J2, J3, J4, J5, HC⟩ := hrel
                    clear QM QAL QN QN0 QB QS
                    have q5 := J2.out.cell hlt2
                    simp only [HALI.out] at q5
                    have q6 := cell_later J4.out HCL0.out
                    by_cases hlt3 : K < xl
                    · have hv2 := HC.out.2
                      have q7 := J3.out.cell hlt2
                      simp only [if_pos] at q7
                      have q8 := J3.out.frozen I
                      have hh := h6.out
                      have M1 := J1.out.setOther (a := ⟨nb, I, none⟩) (by simp <;> omega) (.int .i64 ((v : Int) + 1))
                      have M2 := J2.out.setOther (a := ⟨nb, I, none⟩) (by simp <;> omega) (.int .i64 ((v : Int) + 1))
                      have M3 : (wr.setCell ⟨nb, I, none⟩ (.int .i64 ((v : Int) + 1))).rowIs nb 3 ll (fun i => .int .i64 (((fun j => if j = I then v + 1 else nv j : Nat → Nat) i : Nat) : Int)) := by
                        refine ((J3.out.set I (.int .i64 ((v : Int) + 1))).congr fun q _ => ?_)
                        by_cases e : q = I <;> simp [e]
                      have M4 := J4.out.setCell (p := ⟨nb, I, none⟩) (by simp <;> omega) (.int .i64 ((v : Int) + 1))
                      have M5 : nb + 1 ≤ (wr.setCell ⟨nb, I, none⟩ (.int .i64 ((v : Int) + 1))).heap.size := by have := J5.out; simp [World.setCell]; omega
                      have M1 := hide M1
                      have M2 := hide M2
                      have M3 := hide M3
                      have M4 := hide M4
                      have M5 := hide M5
                      clear hh
                      go_upto_region 40 with fail
                      generalize wr.setCell ⟨nb, I, none⟩ (.int .i64 ((v : Int) + 1)) = W6 at M1 M2 M3 M4 M5 ⊢
                      clear q5 q6 q7 q8 J1 J2 J3 J4 J5
                      have q6 := cell_later M4.out HCL0.out
                      obtain ⟨bN, offN, rfl, ⟨c0, c1, c2, c3, c4, c5, c6⟩⟩ := (HNW.out.later M4.out).2.2 K hlt3
                      obtain ⟨n, hn⟩ : ∃ n, xs.getD K default = n := ⟨_, rfl⟩
                      have hsn := csl_snoc xs K (by rw [HNW.out.1]; exact hlt3) n hn
                      have hmem : n ∈ xs := by
                        rw [← hn, List.getD_eq_getElem?_getD, List.getElem?_eq_getElem (by rw [HNW.out.1]; exact hlt3)]
                        exact List.getElem_mem _
                      rw [hn] at c0 c3
                      obtain ⟨op, ia, il, ic, ins, ta, tl, tc, no, sa, sl, sc, S, da, dl, dc, ha, hl, hc, hs⟩ := n
                      simp only at c0 c3 hsn
                      clear c1 c2 c4 c5 c6
                      by_cases hop : op = 16
                      · subst hop
                        have hin : no ∈ cs gs I := by rw [HCS.out]; unfold csl; exact List.mem_map.2 ⟨_, List.mem_filter.2 ⟨hmem, rfl⟩, rfl⟩
                        have hno : 0 ≤ no ∧ no < ll := HV.out I hlt2 no hin
                        obtain ⟨c, rfl⟩ : ∃ c : Nat, no = c := ⟨no.toNat, by omega⟩
                        have hcl : c < ll := by omega
                        have halc : al c = true := (HRE.out c hcl).2 (((HRE.out I hlt2).1 HALI.out).step hin)
                        have HC2 := HC.out.call (HSU.out.done c hcl halc)
                        have hmc := HSU.out.few c hcl
                        simp only [if_pos] at hsn
                        rw [← hsn] at HC2
                        have HC2 := hide HC2
                        have q7 := M3.out.cell hlt2
                        simp only [if_pos] at q7
                        rw [Int.natCast_add, Int.natCast_one] at q7
                        have q8 := M3.out.frozen I
                        have q9 := M1.out.cell hcl
                        clear hn hsn hmem hin halc HC
                        obtain ⟨mc, hmce⟩ : ∃ mc, mv c = mc := ⟨_, rfl⟩
                        rw [hmce] at q9 hmc HC2
                        clear hmce
                        have hh := h6.out
                        have N1 := hide ((M1.out.setOther (a := ⟨nb, I, none⟩) (by simp <;> omega) (.int .i64 (min ((v : Int) + 1 + mc) 1048576))).drew)
                        have N2 := hide ((M2.out.setOther (a := ⟨nb, I, none⟩) (by simp <;> omega) (.int .i64 (min ((v : Int) + 1 + mc) 1048576))).drew)
                        have N3 : Hid (((W6.setCell ⟨nb, I, none⟩ (.int .i64 (min ((v : Int) + 1 + mc) 1048576))).drew).rowIs nb 3 ll (fun i => .int .i64 (((fun j => if j = I then min (v + 1 + mc) 1048576 else nv j : Nat → Nat) i : Nat) : Int))) := by
                          refine (((M3.out.set I (.int .i64 (min ((v : Int) + 1 + mc) 1048576))).drew).congr fun q _ => ?_)
                          by_cases e : q = I
                          · simp [e]; omega
                          · simp [e]
                        have N4 := hide ((M4.out.setCell (p := ⟨nb, I, none⟩) (by simp <;> omega) (.int .i64 (min ((v : Int) + 1 + mc) 1048576))).drew)
                        have N5 : Hid (nb + 1 ≤ ((W6.setCell ⟨nb, I, none⟩ (.int .i64 (min ((v : Int) + 1 + mc) 1048576))).drew).heap.size) := by have := M5.out; unfold Hid; simp [World.setCell, World.drew]; omega
                        clear hh
                        go_upto_region 41 with fail
                        go_region
                        go_wp2_with fail
                        go_roundw
                        case rel => exact ⟨K + 1, _, by go_num, by omega, N1.out, N2.out, N3.out, N4.out, N5.out, HC2.out⟩
                        case measure => simp [intOf]; omega
                      · have hne : (op == 16) = false := by simpa using hop
                        simp only [if_neg hop, List.append_nil] at hsn
                        have HC2 := HC.out.plain
                        rw [← hsn] at HC2
                        have HC3 := hide HC2
                        clear hn hsn hmem HC HC2 hop
                        go_wp2_with fail
                        go_roundw
                        case rel => exact ⟨K + 1, v + 1, by go_num, by omega, M1.out, M2.out, M3.out, M4.out, M5.out, HC3.out⟩
                        case measure => simp [intOf]; omega
                    · obtain rfl : xl = K := by omega
                      have hta : csl (xs.take xl) = cs gs I := by rw [HCS.out, ← HNW.out.1, List.take_length]
                      have HC2 := HC.out
                      rw [hta, ← HLN.out] at HC2
                      have hw := HC2.whole (by rw [HLN.out]; exact hfi)
                      have HS2 := hide (HSI.out.set (fun _ => hw.1) hw.2)
                      clear hta HC2 HC hw
                      go_wp2_with fail
                      go_roundw
                      case rel => exact ⟨I + 1, by go_num, by omega, (fun j => if j = I then v else nv j), J3.out, HS2.out⟩
                      case measure => simp [intOf]; omega
              · obtain rfl : ll = I := by omega
                go_wp2_with fail
                go_roundw
                case rel => exact ⟨D + 1, nb, nv, rfl, by go_num, by omega, ⟨by have := h6.out; omega, by have := h6.out; omega, by have := QS.out; omega⟩, QN.out, QAL.out, QB.out, by have := QS.out; have := h6.out; unfold Hid; omega, HSI.out⟩
                case measure => simp [intOf]; omega
          · obtain rfl : 10 = D := by omega
            have hcut := Wk.told_sum hg HCL.out HNP.out ((HRE.out g hg).2 (Wk.Rc.refl g)) HSU.out
            have q1 := HM.out.cell hg
            obtain ⟨v, hv⟩ : ∃ v, mv g = v := ⟨_, rfl⟩
            rw [hv] at hcut q1
            clear hv
            by_cases hbig : 4096 < v
            · have HR : Hid (wkR ll gs g = (0, 10)) := Wk.work_big hg HCL.out HNP.out hcut hbig
              have hbi : (4096 : Int) < (v : Int) := by omega
              clear hcut
              go_wp2_with fail
              go_ret2
              rw [HR.out]
              exact ⟨rfl, HB.out⟩
            · have HR : Hid (wkR ll gs g = ((v : Int), 0)) := Wk.work_well hg HCL.out HNP.out hcut hbig
              have hbi : ¬ (4096 : Int) < (v : Int) := by omega
              clear hcut
              go_wp2_with fail
              go_ret2
              rw [HR.out]
              exact ⟨rfl, HB.out⟩
      · have hnp := hdi.1 rfl
        have HR : Hid (wkR ll gs g = (0, 9)) := Wk.work_deep hg HCL.out hnp
        clear hdi hre hnp
        go_wp2_with fail
        go_ret2
        rw [HR.out]
        exact ⟨rfl, HB.out⟩
end Go.Proofs.Ytedpppkknmeheaa
