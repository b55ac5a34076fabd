/-
  PileDrops: what is dropped does not come; all others come as they would. No condition.
-/
import Derived.Test.YtlakffjodlandaaPileD
import Derived.Test.YtlakffjodlandaaReadA
import Derived.IntWalk
namespace Go.Proofs.Ytlakffjodlandaa.PileDrops
open Go.RowKit

def Z : Array Value := Array.replicate 256 (.bool false)
theorem zero_info : (Try.prog.info? 49).map (fun i => i.zero) = some (some (.agg Z)) := by kernel_rfl
theorem run_zero (W : World) : (zeroValue 49).run Try.prog W = .ok (.agg Z) W := by
  obtain ⟨i, hi, hz⟩ := Option.map_eq_some_iff.1 zero_info
  simp [zeroValue, typeInfo, hi, hz]
theorem Z_bools (W : World) (g : Nat) (hg : g = W.heap.size) : BoolsM (W.alloc (.cells Z 49)) g 49 256 (fun _ => false) := by
  subst hg
  exact ⟨Z, heap_alloc_new W _, by simp [Z], fun i hi => by simp [Z, hi]⟩

def pf (F : Nat → Nat → Int) (i : Nat) : Int × Int := (F i 0, F i 1)
/-- Is v among the first k that are gone? -/
def gone (G : Nat → Int) (k : Nat) (v : Int) : Bool := (List.range k).any fun j => G j == v
theorem gone_succ (G : Nat → Int) (k : Nat) (v : Int) : gone G (k + 1) v = (gone G k v || (G k == v)) := by
  unfold gone; rw [List.range_succ, List.any_append]; simp
def All (F : Nat → Nat → Int) (n : Nat) : List (Int × Int) := (List.range n).map (pf F)
theorem All_succ (F : Nat → Nat → Int) (n : Nat) : All F (n + 1) = All F n ++ [pf F n] := by unfold All; rw [List.range_succ, List.map_append]; rfl

theorem push_prs {xs zs : List It} {F : Nat → Nat → Int} {j : Nat} {U V t : Int} (hp : zs.Perm (xs ++ [⟨U, V, t⟩])) (h : (xs.map prs).Perm (All F j)) (e : pf F j = (U, V)) : (zs.map prs).Perm (All F (j + 1)) := by
  rw [All_succ, e]
  refine (hp.map prs).trans ?_
  rw [List.map_append]
  exact h.append_right _
theorem push_kept {f : Nat → Bool} {ys zs : List It} {F : Nat → Nat → Int} {j U : Nat} {V t : Int} (hp : zs.Perm (ys ++ [⟨U, V, t⟩])) (h : (ys.map prs).Perm ((All F j).filter fun p => !f p.1.toNat)) (e : pf F j = ((U : Int), V)) (hf : f U = false) : (zs.map prs).Perm ((All F (j + 1)).filter fun p => !f p.1.toNat) := by
  rw [All_succ, e, List.filter_append]
  refine (hp.map prs).trans ?_
  rw [List.map_append]
  refine (h.append_right _).trans ?_
  simp [hf, prs]
theorem push_skip {f : Nat → Bool} {ys : List It} {F : Nat → Nat → Int} {j U : Nat} {V : Int} (h : (ys.map prs).Perm ((All F j).filter fun p => !f p.1.toNat)) (e : pf F j = ((U : Int), V)) (hf : f U = true) : (ys.map prs).Perm ((All F (j + 1)).filter fun p => !f p.1.toNat) := by
  rw [All_succ, e, List.filter_append]
  refine h.trans ?_
  simp [hf]
theorem drop_prs {xs zs : List It} {L : List (Int × Int)} {G : Nat → Int} {k : Nat} (hp : zs.Perm (kept (G k) xs)) (h : (xs.map prs).Perm (L.filter fun p => !gone G k p.1)) : (zs.map prs).Perm (L.filter fun p => !gone G (k + 1) p.1) := by
  refine (hp.map prs).trans ?_
  rw [kept_prs]
  refine (h.filter _).trans ?_
  rw [List.filter_filter]
  refine List.Perm.of_eq (List.filter_congr fun p _ => ?_)
  rw [gone_succ, Bool.not_or, Bool.and_comm]
  congr 1
  rw [bne, Bool.beq_comm (α := Int)]
theorem both {f : Nat → Bool} {G : Nat → Int} {m n : Nat} {F : Nat → Nat → Int} {xs ys : List It} (hf : ∀ v : Nat, v < 256 → f v = gone G m v) (hb : ∀ i j, i < n → j < 2 → 0 ≤ F i j ∧ F i j < 256) (hx : (xs.map prs).Perm ((All F n).filter fun p => !gone G m p.1)) (hy : (ys.map prs).Perm ((All F n).filter fun p => !f p.1.toNat)) : (xs.map prs).Perm (ys.map prs) := by
  refine hx.trans (.trans (.of_eq (List.filter_congr fun p hp => ?_)) hy.symm)
  obtain ⟨i, hi, rfl⟩ := List.mem_map.1 hp
  have := hb i 0 (List.mem_range.1 hi) (by omega)
  show (!gone G m (F i 0)) = !f (F i 0).toNat
  rw [hf _ (by omega), show (((F i 0).toNat : Nat) : Int) = F i 0 by omega]
theorem pop_turned (g : Nat) (t : Int) (xs : List It) (w : World) (p : Pl w g t xs) (h0 : 0 < xs.length) (hm : xs.length ≤ 549755813888) :
    Calls Try.prog 12 #[.pointer (some ⟨g, 0, none⟩)] w fun e w' => ∃ a r t', e = .returned (.tuple #[.int .i64 a, .int .i64 r, .bool true]) ∧
      ∃ ys, Turned w g w' t ys ∧ (⟨a, r, t'⟩ :: ys).Perm xs ∧ ∀ y ∈ xs, Bf ⟨a, r, t'⟩ y :=
  (pop_some g t xs w p h0 hm).mono fun _ _ ⟨he, ys, h1, h2⟩ => ⟨_, _, (fn xs 0).at_, he, ys, h1, h2, fun y hy => by
    obtain ⟨k, hk, rfl⟩ := List.getElem_of_mem hy
    have := heap_first p.2 k hk
    rwa [fn_get xs k hk] at this⟩

set_option maxRecDepth 100000 in
set_option maxHeartbeats 8000000 in
theorem walk (a : Option Addr) (len cap : Nat) (F : Nat → Nat → Int) (a' : Option Addr) (m cap' : Nat) (G : Nat → Int) (w : World) (h : Rws w .u8 2 a len cap F) (hw : ∀ i j, i < len → j < 2 → (Lit.int .u8 (F i j)).wf = true) (h' : Ils w .u8 a' m cap' G) (hw' : ∀ i, i < m → (Lit.int .u8 (G i)).wf = true) :
    Calls Try.prog 7 #[.slice a len cap, .slice a' m cap'] w fun e w' => e = .returned (.bool true) ∧ Below w.heap.size w w' := by
  have hk : len ≤ cap := h.1
  have hk' : m ≤ cap' := h'.1
  have hb0 : ∀ i j, i < len → j < 2 → 0 ≤ F i j ∧ F i j < 256 := fun i j hi hj => by
    have h0 := bounds_u8 (hw i j hi hj)
    omega
  have hb1 : ∀ i, i < m → 0 ≤ G i ∧ G i < 256 := fun i hi => by
    have h0 := bounds_u8 (hw' i hi)
    omega
  have HBD := hide hb0
  have HGD := hide hb1
  have H := hide h
  have HG := hide h'
  have hzv := run_zero
  clear h hw hb0 h' hw' hb1
  go_enter Try.func7, Try.ntmps7
  go_wp2_with fail
  refine (awake_any w).mono ?_
  rintro e w1 ⟨rfl, hb⟩
  have H1 := hide (H.out.later hb)
  have HG1 := hide (HG.out.later hb)
  have HB := hide hb
  clear H HG hb
  by_cases h5 : len ≤ 200
  · have h5d : decide ((200 : Int) < (len : Int)) = false := by simp; omega
    by_cases h6 : m ≤ 50
    · have h6d : decide ((50 : Int) < (m : Int)) = false := by simp; omega
      go_wp2_with fail
      refine (new_any w1).mono ?_
      rintro e w2 ⟨rfl, rfl⟩
      go_wp2_with fail
      refine (new_any _).mono ?_
      rintro e w2 ⟨rfl, rfl⟩
      go_wp2_with fail
      go_loopw [8] (fun i wr => ∃ (k : Nat) (f : Nat → Bool), k ≤ m ∧ i = .int .i64 k ∧ Two w1.heap.size wr w1.heap.size (w1.heap.size + 1) 0 0 [] [] ∧ BoolsM wr (w1.heap.size + 2) 49 256 f ∧ Below w1.heap.size w1 wr ∧ Hid (∀ v : Nat, v < 256 → f v = gone G k v)) (fun i _ => m - (intOf i).toNat)
      case atStart =>
        refine ⟨0, fun _ => false, Nat.zero_le _, rfl, ?_, Z_bools _ _ (by simp), (((Below.refl _ _).alloc (Nat.le_refl _) _).alloc (by simp) _).alloc (by simp; omega) _, fun v _ => rfl⟩
        exact (two_new (Nat.le_refl _)).below ((Below.refl _ _).alloc (Nat.le_refl _) _)
      case round =>
        obtain ⟨k, f, hkm, rfl, htwo, hbo, hbel, HF⟩ := hrel
        by_cases hlt : k < m
        · obtain ⟨b, off, rfl, hc⟩ := HG1.out.2 k hlt
          have hcr := cell_later hbel hc
          have hgd := HGD.out k hlt
          obtain ⟨U, hU⟩ : ∃ U : Nat, G k = U := ⟨(G k).toNat, by omega⟩
          have HU := hide hU
          rw [hU] at hcr hgd
          have hU2 : U < 256 := by omega
          have hcb := hbo.cell hU2
          have hfb := hbo.frozen U
          have HT := hide htwo
          have HBO := hide hbo
          have HBE := hide hbel
          clear hU hc htwo hbo hbel hgd
          go_wp2_with fail
          go_roundw
          case rel =>
            refine ⟨k + 1, _, by omega, by go_num, HT.out.setBool HBO.out (by decide) (by decide) _, HBO.out.set U true, HBE.out.setCell (by simp; omega) _, fun v hv => ?_⟩
            rw [gone_succ, HU.out]
            by_cases e : v = U
            · subst e; simp
            · have e2 : ((U : Int) == (v : Int)) = false := by simp; omega
              simp [e, HF.out v hv, e2]
          case measure => simp [intOf]; omega
        · obtain rfl : m = k := by omega
          obtain ⟨wo, rfl⟩ : ∃ wo : World, wo = wr := ⟨_, rfl⟩
          have HT := hide htwo
          have HBO := hide hbo
          have HBE := hide hbel
          clear htwo hbo hbel
          go_wp2_with fail
          go_loopw [9] (fun i wr => ∃ (j : Nat) (u : Int) (xs ys : List It), j ≤ len ∧ i = .int .i64 j ∧ 0 ≤ u ∧ u ≤ j ∧ Two w1.heap.size wr w1.heap.size (w1.heap.size + 1) j u xs ys ∧ BoolsM wr (w1.heap.size + 2) 49 256 f ∧ Below w1.heap.size w1 wr ∧ Hid ((xs.map prs).Perm (All F j)) ∧ Hid ((ys.map prs).Perm ((All F j).filter fun p => !f p.1.toNat))) (fun i _ => len - (intOf i).toNat)
          case atStart => exact ⟨0, 0, [], [], Nat.zero_le _, rfl, Int.le_refl _, Int.le_refl _, HT.out, HBO.out, HBE.out, .refl _, .refl _⟩
          case round =>
            obtain ⟨j, u, xs, ys, hj, rfl, hu0, hu1, htwo, hbo, hbel, HPX, HPY⟩ := hrel
            have hxl : xs.length = j := by have := HPX.out.length_eq; simpa [All] using this
            have hyl : ys.length ≤ j := by
              have := HPY.out.length_eq
              have h2 := List.length_filter_le (fun p : Int × Int => !f p.1.toNat) (All F j)
              have h3 : (All F j).length = j := by simp [All]
              rw [List.length_map] at this; omega
            by_cases hlt2 : j < len
            · obtain ⟨b, off, rfl, hc⟩ := H1.out.2 j hlt2
              have hc0 := cell_later hbel (hc 0 (by omega))
              have hc1 := cell_later hbel (hc 1 (by omega))
              rw [Nat.add_zero] at hc0
              have hu := HBD.out j 0 hlt2 (by omega)
              have hv := HBD.out j 1 hlt2 (by omega)
              obtain ⟨U, hU⟩ : ∃ U : Nat, F j 0 = U := ⟨(F j 0).toNat, by omega⟩
              obtain ⟨V, hV⟩ : ∃ V : Nat, F j 1 = V := ⟨(F j 1).toNat, by omega⟩
              have HFJ := hide (show pf F j = ((U : Int), (V : Int)) by unfold pf; rw [hU, hV])
              rw [hU] at hu hc0
              rw [hV] at hv hc1
              have hU2 : U < 256 := by omega
              have hV2 : V < 256 := by omega
              have wu : IntKind.i64.wrap (U : Int) = U := IntWalk.i64_in _ (by omega)
              have wv : IntKind.i64.wrap (V : Int) = V := IntWalk.i64_in _ (by omega)
              have hj0 : (0 : Int) ≤ (j : Int) := by omega
              have hj1 : (j : Int) < (len : Int) := by omega
              have HC0 : Hid (w1.cell? ⟨b, off + j * 2, none⟩ = some (.int .u8 (U : Int))) := by have := hc 0 (by omega); rw [hU] at this; exact this
              have HC1 : Hid (w1.cell? ⟨b, off + j * 2 + 1, none⟩ = some (.int .u8 (V : Int))) := by have := hc 1 (by omega); rw [hV] at this; exact this
              have HTW := hide htwo
              have HBB := hide hbo
              have HBE2 := hide hbel
              clear hU hV hc htwo hbo hbel hu hv
              go_wp2_with fail
              go_region_with (go_at_call 11; refine (push_any w1.heap.size j xs U V _ (HTW.out.drewN 1).1 (by omega) (by omega) (by omega)).mono ?_; rintro e w3 ⟨rfl, xs', ht3, hp3⟩; have h33 := (HTW.out.drewN 1).left HBE2.out.size ht3; have HT3 := hide h33.1; have HB3 := hide ((below_drewN HBE2.out 1).trans h33.2); have HBO3 := hide (BoolsM.other (w := wr.drewN 1) (HBB.out.keep rfl) (HTW.out.drewN 1).1.1 (by decide) (by decide) ht3.2.1); have HP3 := hide hp3; clear h33 ht3 hp3)
              all_goals (
                clear hc0 hc1
                have hc0 := cell_later HB3.out HC0.out
                have hc1 := cell_later HB3.out HC1.out
                have hcb := HBO3.out.cell hU2
                by_cases hfu : f U = true
                · rw [hfu] at hcb
                  go_wp2_with fail
                  go_roundw
                  case rel => exact ⟨j + 1, u, xs', ys, by omega, by go_num, by omega, by omega, HT3.out, HBO3.out, HB3.out, push_prs HP3.out HPX.out HFJ.out, push_skip HPY.out HFJ.out hfu⟩
                  case measure => simp [intOf]; omega
                · have hff : f U = false := by simpa using hfu
                  rw [hff] at hcb
                  go_wp2_with fail
                  go_region_with (go_at_call 11; refine (push_any (w1.heap.size + 1) u ys U V _ (HT3.out.drewN 1).2.1 (by omega) (by omega) (by omega)).mono ?_; rintro e w4 ⟨rfl, ys', ht4, hp4⟩; have h44 := (HT3.out.drewN 1).right HB3.out.size ht4; have HT4 := hide h44.1; have HB4 := hide ((below_drewN HB3.out 1).trans h44.2); have HBO4 := hide (BoolsM.other (w := w3.drewN 1) (HBO3.out.keep rfl) (HT3.out.drewN 1).2.1.1 (by decide) (by decide) ht4.2.1); have HP4 := hide hp4; clear h44 ht4 hp4)
                  all_goals (
                    go_wp2_with fail
                    go_roundw
                    case rel => exact ⟨j + 1, u + 1, xs', ys', by omega, by go_num, by omega, by omega, HT4.out, HBO4.out, HB4.out, push_prs HP3.out HPX.out HFJ.out, push_kept HP4.out HPY.out HFJ.out hff⟩
                    case measure => simp [intOf]; omega))
            · obtain rfl : len = j := by omega
              have HTW := hide htwo
              have HBE2 := hide hbel
              clear htwo hbo hbel
              go_wp2_with fail
              obtain ⟨wo2, rfl⟩ : ∃ wo : World, wo = wr := ⟨_, rfl⟩
              go_loopw [10] (fun i wr => ∃ (k : Nat) (xs : List It), k ≤ m ∧ i = .int .i64 k ∧ Two w1.heap.size wr w1.heap.size (w1.heap.size + 1) len u xs ys ∧ Below w1.heap.size w1 wr ∧ xs.length ≤ len ∧ Hid ((xs.map prs).Perm ((All F len).filter fun p => !gone G k p.1))) (fun i _ => m - (intOf i).toNat)
              case atStart => exact ⟨0, xs, Nat.zero_le _, rfl, HTW.out, HBE2.out, by omega, .trans HPX.out (.of_eq (by simp only [gone, List.range_zero, List.any_nil, Bool.not_false]; exact (List.filter_eq_self.2 fun _ _ => rfl).symm))⟩
              case round =>
                obtain ⟨k, xs, hkm, rfl, htwo, hbel, hxl, HPX⟩ := hrel
                by_cases hlt3 : k < m
                · obtain ⟨b, off, rfl, hc⟩ := HG1.out.2 k hlt3
                  have hcr := cell_later hbel hc
                  have hgd := HGD.out k hlt3
                  have HTW := hide htwo
                  have HBE2 := hide hbel
                  have wg : IntKind.i64.wrap (G k) = G k := IntWalk.i64_in _ (by omega)
                  clear hc htwo hbel hgd
                  go_wp2_with fail
                  refine (drop_turned w1.heap.size len (G k) xs _ HTW.out.1 (by omega)).mono ?_
                  rintro e w3 ⟨zs, rfl, ht3, hp3⟩
                  have h33 := HTW.out.left HBE2.out.size ht3
                  have HT3 := hide h33.1
                  have HB3 := hide (HBE2.out.trans h33.2)
                  have hzl : zs.length ≤ xs.length := by rw [hp3.length_eq]; exact kept_le _ _
                  have HP3 := hide hp3
                  clear h33 ht3 hp3 hcr
                  go_wp2_with fail
                  go_roundw
                  case rel => exact ⟨k + 1, zs, by omega, by go_num, HT3.out, HB3.out, by omega, drop_prs HP3.out HPX.out⟩
                  case measure => simp [intOf]; omega
                · obtain rfl : m = k := by omega
                  have HTW := hide htwo
                  have HBE2 := hide hbel
                  have HS := hide (both HF.out HBD.out HPX.out HPY.out)
                  clear htwo hbel
                  go_wp2_with fail
                  obtain ⟨wo3, rfl⟩ : ∃ wo : World, wo = wr := ⟨_, rfl⟩
                  go_loopw [11] (fun i wr => ∃ (k : Nat) (xs ys : List It), k ≤ len + 1 ∧ i = .int .i64 k ∧ Two w1.heap.size wr w1.heap.size (w1.heap.size + 1) len u xs ys ∧ Below w1.heap.size w1 wr ∧ (xs.length + k ≤ len ∨ xs = []) ∧ Hid ((xs.map prs).Perm (ys.map prs))) (fun i _ => len + 1 - (intOf i).toNat)
                  case atStart => exact ⟨0, xs, ys, Nat.zero_le _, rfl, HTW.out, HBE2.out, .inl (by omega), HS.out⟩
                  case round =>
                    obtain ⟨k, xs, ys, hkm, rfl, htwo, hbel, hxl, HS⟩ := hrel
                    have hsl : xs.length = ys.length := by simpa using HS.out.length_eq
                    by_cases hlt4 : k ≤ len
                    · have HTW := hide htwo
                      have HBE2 := hide hbel
                      clear htwo hbel
                      by_cases h0 : xs.length = 0
                      · obtain rfl : xs = [] := List.length_eq_zero_iff.1 h0
                        obtain rfl : ys = [] := List.length_eq_zero_iff.1 (by omega)
                        have C1 := hide (pop_none w1.heap.size len wr HTW.out.1.1)
                        have C2 := hide (pop_none (w1.heap.size + 1) u wr HTW.out.2.1.1)
                        have L1 := hide (plen_any w1.heap.size len _ wr HTW.out.1.1)
                        have L2 := hide (plen_any (w1.heap.size + 1) u _ wr HTW.out.2.1.1)
                        go_wp2_with fail
                        refine C1.out.mono ?_
                        rintro e w5 ⟨rfl, rfl⟩
                        go_wp2_with fail
                        refine C2.out.mono ?_
                        rintro e w5 ⟨rfl, rfl⟩
                        go_wp2_with (go_at_call 13; first | ((with_reducible refine L1.out.mono ?_); rintro e w5 ⟨rfl, rfl⟩) | ((with_reducible refine L2.out.mono ?_); rintro e w5 ⟨rfl, rfl⟩))
                        go_roundw
                        case rel => exact ⟨k + 1, [], [], by omega, by go_num, HTW.out, HBE2.out, .inr rfl, HS.out⟩
                        case measure => simp [intOf]; omega
                      · have hxl : xs.length + k ≤ len := by
                          rcases hxl with h | h
                          · exact h
                          · subst h; simp at h0
                        go_wp2_with fail
                        refine (pop_turned w1.heap.size len xs wr HTW.out.1 (by omega) (by omega)).mono ?_
                        rintro e w5 ⟨a1, r1, t1, rfl, xs', ht5, hp5, hb5⟩
                        have h55 := HTW.out.left HBE2.out.size ht5
                        have HT5 := hide h55.1
                        have HB5 := hide (HBE2.out.trans h55.2)
                        have HP5 := hide hp5
                        have HX5 := hide hb5
                        clear h55 ht5 hp5 hb5
                        go_wp2_with fail
                        refine (pop_turned (w1.heap.size + 1) u ys w5 HT5.out.2.1 (by omega) (by omega)).mono ?_
                        rintro e w6 ⟨a2, r2, t2, rfl, ys', ht6, hp6, hb6⟩
                        have h66 := HT5.out.right HB5.out.size ht6
                        have HT6 := hide h66.1
                        have HB6 := hide (HB5.out.trans h66.2)
                        have hsame := best_same HS.out (HP5.out.subset (List.mem_cons_self ..)) (hp6.subset (List.mem_cons_self ..)) HX5.out hb6
                        have HS6 := hide (rest_same HS.out HP5.out hp6 hsame)
                        simp only at hsame
                        obtain ⟨rfl, rfl⟩ := hsame
                        have hl6 : xs'.length = ys'.length := by simpa using HS6.out.length_eq
                        have hl5 : xs'.length + 1 = xs.length := by simpa using HP5.out.length_eq
                        have L1 := hide (plen_any w1.heap.size len _ w6 HT6.out.1.1)
                        have L2 := hide (plen_any (w1.heap.size + 1) u _ w6 HT6.out.2.1.1)
                        rw [← hl6] at L2
                        clear h66 ht6 hp6 hb6
                        go_wp2_with (go_at_call 13; first | ((with_reducible refine L1.out.mono ?_); rintro e w5 ⟨rfl, rfl⟩) | ((with_reducible refine L2.out.mono ?_); rintro e w5 ⟨rfl, rfl⟩))
                        go_roundw
                        case rel => exact ⟨k + 1, xs', ys', by omega, by go_num, HT6.out, HB6.out, .inl (by omega), HS6.out⟩
                        case measure => simp [intOf]; omega
                    · obtain rfl : xs = [] := by
                        rcases hxl with h | h
                        · omega
                        · exact h
                      have L1 : Hid (Calls Try.prog 13 #[.pointer (some ⟨w1.heap.size, 0, none⟩)] wr fun e w' => e = .returned (.int .i64 0) ∧ wr = w') := plen_any w1.heap.size len [] wr htwo.1.1
                      have HBE2 := hide hbel
                      clear htwo hbel
                      go_wp2_with (go_at_call 13; (with_reducible refine L1.out.mono ?_); rintro e w5 ⟨rfl, rfl⟩)
                      go_ret
                      exact ⟨rfl, HB.out.trans (HBE2.out.mono HB.out.size)⟩
    · have h6d : decide ((50 : Int) < (m : Int)) = true := by simp; omega
      go_wp2_with fail
      go_ret
      exact ⟨rfl, HB.out⟩
  · have h5d : decide ((200 : Int) < (len : Int)) = true := by simp; omega
    go_wp2_with fail
    go_ret
    exact ⟨rfl, HB.out⟩
end Go.Proofs.Ytlakffjodlandaa.PileDrops
