/-
  Package graph's called: the graphs that some call, sorted, each once. No condition.
-/
import Derived.Test.YtedpppkknmeheaaG7
import Derived.Deep.DrawnRows
namespace Go.Proofs.Ytedpppkknmeheaa
open Go.RowKit

theorem told_ok {w w' : World} {ll : Nat} {gs : List Gr} {zs : List Int} {O : List Int} {g k cap : Nat} {base : Nat} (hb : Below w.heap.size w w') (hO : O = outL gs zs) (hv : ∀ z ∈ zs, Wk.Vl ll (cs gs) z.toNat)
    (hown : w'.ownsRow base 3 1 (.slice (some ⟨g, 0, none⟩) k cap) k (ivs (Lib.compact (srt O)))) :
    Told w ll gs zs (.returned (.tuple #[.slice (some ⟨g, 0, none⟩) k cap, .bool true])) w' := by
  obtain ⟨a, c, e, hI⟩ := Isl_of_own hown
  cases e
  obtain ⟨h1, h2⟩ := Wk.compact_sorted O _ rfl
  refine ⟨hb, .inl ⟨_, _, _, _, rfl, hI, (fun h => by cases h), h2, fun x => ?_, hv⟩⟩
  rw [show x ∈ Lib.compact (srt O) ↔ x ∈ O from h1 x, hO, mem_outL]
theorem told_nil {w w' : World} {ll : Nat} {gs : List Gr} {zs : List Int} {a : Option Addr} {cap : Nat} (hb : Below w.heap.size w w') (hO : ([] : List Int) = outL gs zs) (hv : ∀ z ∈ zs, Wk.Vl ll (cs gs) z.toNat) :
    Told w ll gs zs (.returned (.tuple #[.slice a 0 cap, .bool true])) w' := by
  refine ⟨hb, .inl ⟨_, _, _, [], rfl, ⟨rfl, Nat.zero_le _, fun i hi => by omega⟩, fun _ => rfl, List.Pairwise.nil, fun x => ?_, hv⟩⟩
  rw [← mem_outL, ← hO]
theorem own_cases {w : World} {base : Nat} {e : TypeId} {size : Nat} {v : Value} {n : Nat} {xs : List Value} (h : w.ownsRow base e size v n xs) (h0 : n ≠ 0) : ∃ g cap, v = .slice (some ⟨g, 0, none⟩) n cap ∧ base ≤ g := by
  rcases h.2 with ⟨_, h⟩ | ⟨g, cap, cur, h, hg, _⟩
  · exact absurd h h0
  · exact ⟨g, cap, h, hg⟩
theorem vl_of {ll : Nat} {gs : List Gr} {zs : List Int} (h : ∀ j, j < zs.length → Wk.Vl ll (cs gs) (zs.getD j 0).toNat) : ∀ z ∈ zs, Wk.Vl ll (cs gs) z.toNat := by
  intro z hz
  obtain ⟨j, hj, rfl⟩ := List.getElem_of_mem hz
  have := h j hj
  rwa [List.getD_eq_getElem?_getD, List.getElem?_eq_getElem hj] at this
theorem mem_getD {zs : List Int} {j : Nat} (h : j < zs.length) : zs.getD j 0 ∈ zs := by
  rw [List.getD_eq_getElem?_getD, List.getElem?_eq_getElem h]; exact List.getElem_mem _
theorem mem_csl {l : List Nd} {k : Nat} (h : k < l.length) (ho : (l.getD k default).op = 16) : (l.getD k default).no ∈ csl l := by
  unfold csl
  refine List.mem_map.2 ⟨l.getD k default, List.mem_filter.2 ⟨?_, beq_iff_eq.2 ho⟩, rfl⟩
  rw [List.getD_eq_getElem?_getD, List.getElem?_eq_getElem h]; exact List.getElem_mem _

set_option maxRecDepth 100000 in
set_option maxHeartbeats 16000000 in
theorem called_any (la : Option Addr) (ll lc : Nat) (gs : List Gr) (sa : Option Addr) (sl sc : Nat) (zs : List Int) (w : World) (hG : Gc w la ll lc gs) (hI : Isl w .i64 sa sl sc zs) (hz : ∀ z ∈ zs, 0 ≤ z ∧ z < ll) (hF : Fits ll gs) (hsl : sl ≤ 1048576) :
    Calls Try.prog 36 #[.slice la ll lc, .slice sa sl sc] w (Told w ll gs zs) := by
  obtain ⟨i0, hi, hz0, hz1, hz2⟩ := parts_of int_info
  have HG := hide hG
  have HI := hide hI
  have HZ := hide hz
  have HF := hide hF
  have HL : Hid (zs.length = sl) := hI.1
  clear hG hI hz hF
  go_enter Try.func36, Try.ntmps36
  go_wp2_with fail
  go_loopw [6, 13] (fun o i wr => ∃ (k : Nat) (O : List Int), k ≤ sl ∧ i = .int .i64 k ∧ Below w.heap.size w wr ∧ wr.ownsRow w.heap.size 3 1 o O.length (ivs O) ∧ Hid (O = outL gs (zs.take k)) ∧ O.length ≤ k * 1048576 ∧ Hid (∀ j, j < k → Wk.Vl ll (cs gs) (zs.getD j 0).toNat)) (fun _ i _ => sl - (intOf i).toNat)
  case atStart => exact ⟨0, [], Nat.zero_le _, rfl, Below.refl _ _, World.ownsRow_nil _ _ _ _, rfl, Nat.zero_le _, fun j hj => by omega⟩
  case round =>
    obtain ⟨k, O, hk, rfl, hbel, hown, HO, hlen, HV⟩ := hrel
    by_cases hlt : k < sl
    · obtain ⟨wo, rfl⟩ : ∃ wo : World, wo = wr := ⟨_, rfl⟩
      obtain ⟨b0, off0, rfl, hc0⟩ := HI.out.at hlt
      have hd0 := cell_later hbel hc0
      obtain ⟨z, hz⟩ : ∃ z : Nat, zs.getD k 0 = z := ⟨(zs.getD k 0).toNat, by have := (HZ.out _ (mem_getD (by rw [HL.out]; exact hlt))).1; omega⟩
      have hzl : z < ll := by have := (HZ.out _ (mem_getD (zs := zs) (j := k) (by rw [HL.out]; exact hlt))).2; omega
      rw [hz] at hd0
      obtain ⟨b, off, rfl, hc, hN⟩ := HG.out.2.2 z hzl
      have hr := cell_later hbel hc
      have HOS : Hid (outL gs (zs.take (k + 1)) = O ++ csl (gs.getD z default).l) := by
        have h := outL_snoc gs zs k (by rw [HL.out]; exact hlt)
        rw [hz, Int.toNat_natCast, ← HO.out] at h
        exact h
      have HCS : Hid (Wk.Vl ll (cs gs) (zs.getD k 0).toNat ↔ ∀ c ∈ csl (gs.getD z default).l, 0 ≤ c ∧ c < ll) := by
        rw [hz, Int.toNat_natCast]; exact Iff.rfl
      have hx1 : (gs.getD z default).len ≤ 1048576 := HF.out.2 z hzl
      obtain ⟨x, hx⟩ : ∃ x, gs.getD z default = x := ⟨_, rfl⟩
      rw [hx] at hr hN HOS HCS hx1
      obtain ⟨xa, xl, xc, xs⟩ := x
      simp only at hr hN HOS HCS hx1
      have HND := hide hN
      have HBE := hide hbel
      have HOW := hide hown
      have hkb : (k : Int) < (sl : Int) := by omega
      have hlo : O.length ≤ 1048576 * 1048576 := Nat.le_trans hlen (Nat.mul_le_mul_right _ (by omega))
      clear hc0 hz hc hN hx hbel hown
      go_wp2_with fail
      go_loopw [6, 23] (fun o i wr => ∃ (k2 : Nat) (O2 : List Int), k2 ≤ xl ∧ i = .int .i64 k2 ∧ Below w.heap.size w wr ∧ wr.ownsRow w.heap.size 3 1 o O2.length (ivs O2) ∧ Hid (O2 = O ++ csl (xs.take k2)) ∧ O2.length ≤ O.length + k2 ∧ Hid (∀ c ∈ csl (xs.take k2), 0 ≤ c ∧ c < ll)) (fun _ i _ => xl - (intOf i).toNat)
      case atStart => exact ⟨0, O, Nat.zero_le _, rfl, HBE.out, HOW.out, by unfold Hid; simp [csl], by omega, by unfold Hid; simp [csl]⟩
      case round =>
        obtain ⟨k2, O2, hk2, rfl, hbel, hown, HO2, hlen2, HV2⟩ := hrel
        by_cases hlt2 : k2 < xl
        · obtain ⟨b2, off2, rfl, ⟨c0, c1, c2, c3, c4, c5, c6⟩⟩ := HND.out.2.2 k2 hlt2
          obtain ⟨n, hn⟩ : ∃ n, xs.getD k2 default = n := ⟨_, rfl⟩
          have HSN := hide (csl_snoc xs k2 (by rw [HND.out.1]; exact hlt2) n hn)
          have HMEM : Hid (n.op = 16 → n.no ∈ csl xs) := by
            intro h
            have := mem_csl (l := xs) (k := k2) (by rw [HND.out.1]; exact hlt2) (by rw [hn]; exact h)
            rwa [hn] at this
          rw [hn] at c0 c1 c2 c3 c4 c5 c6
          have d0 := cell_later hbel c0
          have d1 := cell_later hbel c1
          have d2 := cell_later hbel c2
          have d3 := cell_later hbel c3
          have d4 := cell_later hbel c4
          have d5 := cell_later hbel c5
          have d6 := cell_later hbel c6
          have HBL := hide hbel
          have HOW2 := hide hown
          have hsz := hbel.size
          clear hn c0 c1 c2 c3 c4 c5 c6 hbel hown
          obtain ⟨op, ia, il, ic, ins, ta, tl, tc, no, qa, ql, qc, qs, da, dl, dc, ha, hl, hc, hs⟩ := n
          simp only at d0 d1 d2 d3 d4 d5 d6 HSN HMEM
          by_cases h16 : op = 16
          · subst h16
            by_cases hbad : no < 0 ∨ (ll : Int) ≤ no
            · have HEND : Hid (∃ z ∈ zs, ¬ Wk.Vl ll (cs gs) z.toNat) := by
                refine ⟨_, mem_getD (by rw [HL.out]; exact hlt), fun h => ?_⟩
                have := HCS.out.1 h no (HMEM.out rfl)
                omega
              rcases hbad with hbad | hbad
              · go_wp2_with fail
                go_ret2
                exact ⟨HBL.out.alloc hsz _, .inr ⟨rfl, HEND.out⟩⟩
              · by_cases hneg : no < 0
                · omega
                · go_wp2_with fail
                  go_ret2
                  exact ⟨HBL.out.alloc hsz _, .inr ⟨rfl, HEND.out⟩⟩
            · have HSN1 : Hid (csl (xs.take (k2 + 1)) = csl (xs.take k2) ++ [no]) := by have h := HSN.out; rw [if_pos rfl] at h; exact h
              clear HSN HMEM
              have hno0 : 0 ≤ no := by omega
              have hno1 : no < ll := by omega
              have hno0' : ¬ no < 0 := by omega
              clear hbad
              go_wp2_with (at_builtin; refine wpList_append_own _ rfl _ _ 35 rfl w.heap.size 3 i0 (.int .i64 0) 1 8 Try.underlying35 hi hz0 hz1 hz2 rfl (by decide) _ _ _ rfl ((HOW2.out.alloc _).alloc _) ⟨wr.heap.size + 1, 0, none⟩ 1 1 [.int .i64 no] rfl rfl ?c1 ?c2 ?c3 ?c4 ?c5 ?_)
              case c2 => rfl
              case c3 => unfold maxLen; omega
              case c4 => omega
              case c5 => omega
              intro v' w2 hown' hgrow _
              have hb2 : Below w.heap.size w w2 := ((HBL.out.alloc hsz _).alloc (by simp; omega) _).grown hgrow (by simp; omega) (fun g hg => (HOW2.out.lt g hg).1)
              have HO3 := hide hown'
              have HB2 := hide hb2
              clear hown' hgrow hb2
              go_wp2_with fail
              go_roundw
              case rel =>
                refine ⟨k2 + 1, O2 ++ [no], by omega, by go_num, HB2.out, ?_, ?_, by simp; omega, ?_⟩
                · have h := HO3.out
                  rw [show (O2 ++ [no]).length = O2.length + 1 by simp]
                  unfold ivs at h ⊢
                  rw [List.map_append]
                  exact h
                · unfold Hid
                  rw [HSN1.out, HO2.out, List.append_assoc]
                · unfold Hid
                  rw [HSN1.out]
                  intro c hc
                  rcases List.mem_append.1 hc with h | h
                  · exact HV2.out c h
                  · rw [List.mem_singleton] at h; subst h; exact ⟨hno0, hno1⟩
              case measure => simp [intOf]; omega
          · have e16 : (op != 16) = true := by rw [bne_iff_ne]; exact h16
            have HN16 := hide h16
            clear h16
            go_wp2_with fail
            go_roundw
            case rel =>
              refine ⟨k2 + 1, O2, by omega, by go_num, HBL.out.alloc hsz _, HOW2.out.alloc _, ?_, by omega, ?_⟩
              · unfold Hid
                rw [HSN.out, if_neg HN16.out, List.append_nil]; exact HO2.out
              · unfold Hid
                rw [HSN.out, if_neg HN16.out, List.append_nil]; exact HV2.out
            case measure => simp [intOf]; omega
        · obtain rfl : xl = k2 := by omega
          have HB := hide hbel
          have HW := hide hown
          have HTK : Hid (xs.take xl = xs) := by unfold Hid; rw [← HND.out.1, List.take_length]
          clear hbel hown
          go_wp2_with fail
          go_roundw
          case rel =>
            refine ⟨k + 1, O2, by omega, by go_num, HB.out, HW.out, ?_, by omega, ?_⟩
            · unfold Hid
              rw [HOS.out, HO2.out, HTK.out]
            · intro j hj
              by_cases e : j = k
              · subst e
                rw [HCS.out, ← HTK.out]
                exact HV2.out
              · exact HV.out j (by omega)
          case measure => simp [intOf]; omega
    · obtain rfl : sl = k := by omega
      have HOE : Hid (O = outL gs zs) := by
        have h := HO.out
        rwa [← HL.out, List.take_length] at h
      have HVE := hide (vl_of (ll := ll) (gs := gs) (zs := zs) (fun j hj => HV.out j (by rw [← HL.out]; exact hj)))
      have hlo : O.length ≤ 1048576 * 1048576 := Nat.le_trans hlen (Nat.mul_le_mul_right _ (by omega))
      have HB := hide hbel
      by_cases h0 : O.length = 0
      · obtain ⟨a, cap, rfl, hIO⟩ := Isl_of_own hown
        have ho : O = [] := List.eq_nil_of_length_eq_zero h0
        subst ho
        have C1 : Hid (∀ w', Calls Try.prog 48 #[.slice a 0 cap] w' fun e w2 => e = .returned (.tuple #[]) ∧ w2 = w') := hide (fun w' => Try.slices_Sort_int_none a cap w')
        have C2 : Hid (∀ w', Calls Try.prog 49 #[.slice a 0 cap] w' fun e w2 => e = .returned (.slice a 0 cap) ∧ w2 = w') := hide (fun w' => Try.slices_Compact_int_empty a cap w')
        clear hown hIO HO hlen hlo hbel
        go_wp2_with (first | (go_at_call 48; (with_reducible refine (C1.out _).mono ?_); rintro e w2 ⟨rfl, rfl⟩) | (go_at_call 49; (with_reducible refine (C2.out _).mono ?_); rintro e w2 ⟨rfl, rfl⟩))
        go_ret2
        exact told_nil HB.out HOE.out HVE.out
      · obtain ⟨g, cap, rfl, hg⟩ := own_cases hown h0
        have HOW := hide hown
        have C1 := hide (sort_own hown (by omega))
        have C2 : Hid (∀ w', w'.ownsRow w.heap.size 3 1 (.slice (some ⟨g, 0, none⟩) O.length cap) O.length (ivs (srt O)) → Calls Try.prog 49 #[.slice (some ⟨g, 0, none⟩) O.length cap] w' fun e w2 => e = .returned (.slice (some ⟨g, 0, none⟩) (Lib.compact (srt O)).length cap) ∧ w2.ownsRow w.heap.size 3 1 (.slice (some ⟨g, 0, none⟩) (Lib.compact (srt O)).length cap) (Lib.compact (srt O)).length (ivs (Lib.compact (srt O))) ∧ w'.grownBy w2 (some g)) := hide (fun w' h => compact_own h (by omega))
        have hsz := hbel.size
        obtain ⟨K, hK⟩ : ∃ K, (Lib.compact (srt O)).length = K := ⟨_, rfl⟩
        rw [hK] at C2
        obtain ⟨N, hN⟩ : ∃ N, O.length = N := ⟨_, rfl⟩
        rw [hN] at C1 C2 HOW hlo ⊢
        have HK := hide hK
        clear hK hN hown hbel HO hlen h0
        go_wp2_with (first | (go_at_call 48; (with_reducible refine C1.out.mono ?_); rintro e w2 ⟨rfl, ho2, hg2⟩; have HO2 := hide ho2; have HB2 := hide (HB.out.grown hg2 hsz (fun k hk => by cases hk; exact hg)); have hsz2 := HB2.out.size; clear ho2 hg2) | (go_at_call 49; (with_reducible refine (C2.out _ HO2.out).mono ?_); rintro e w3 ⟨rfl, ho3, hg3⟩; have HO3 := hide ho3; have HB3 := hide (HB2.out.grown hg3 hsz2 (fun k hk => by cases hk; exact hg)); clear ho3 hg3))
        go_ret2
        exact told_ok HB3.out HOE.out HVE.out HO3.out
end Go.Proofs.Ytedpppkknmeheaa
