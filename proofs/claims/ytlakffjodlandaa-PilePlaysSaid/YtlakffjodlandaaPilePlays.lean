/-
  PilePlays: whatever is pushed, popped, dropped: who comes next, how many there are. No condition.
-/
import Derived.Test.YtlakffjodlandaaPileE
namespace Go.Proofs.Ytlakffjodlandaa.PilePlays
open Go.RowKit

def fd (D I R : Int) (j : Nat) : Int := match j with | 0 => D | 1 => I | _ => R
theorem deed_new (w : World) (D I R : Int) : IntsM (w.alloc (.cells #[.int .i64 D, .int .i64 I, .int .i64 R] 40)) w.heap.size 40 3 (fd D I R) :=
  ⟨_, heap_alloc_new w _, rfl, fun i hi => by
    match i, hi with
    | 0, _ => rfl
    | 1, _ => rfl
    | 2, _ => rfl⟩
/-- All that a round holds. -/
structure St (B : Nat) (w0 w : World) (q : Nat) (t : Int) (xs : List It) (A : Option Addr) (c : Nat) (L : List (Int × Int)) (g : Nat) (f : Nat → Int) : Prop where
  mine : Mine B w q t xs
  row : RowP B w A c L
  deed : IntsM w g 40 3 f
  bel : Below B w0 w
  size : B ≤ w.heap.size
section
variable {B : Nat} {w0 w w' : World} {q : Nat} {t t' : Int} {xs ys : List It} {A A' : Option Addr} {c c' : Nat} {L L' : List (Int × Int)} {g : Nat} {f : Nat → Int}
theorem St.below (s : St B w0 w q t xs A c L g f) (hb : Below w.heap.size w w') : St B w0 w' q t xs A c L g f :=
  ⟨s.mine.below hb, s.row.below hb, s.deed.keep (hb.block g s.deed.lt), s.bel.trans (hb.mono s.size), Nat.le_trans s.size hb.size⟩
theorem St.turned (s : St B w0 w q t xs A c L g f) (h : Turned w q w' t' ys) : St B w0 w' q t' ys A c L g f :=
  ⟨(s.mine.turned s.size h).1, s.row.other s.mine.1.1 h.2.1, s.deed.other s.mine.1.1 (by decide) (by decide) h.2.1, s.bel.trans (s.mine.turned s.size h).2, Nat.le_trans s.size h.2.1.size⟩
theorem St.grown (s : St B w0 w q t xs A c L g f) (hg : w.grownBy w' (Value.slice A L.length c).ownBlock) (hr : RowP B w' A' c' L') : St B w0 w' q t xs A' c' L' g f :=
  ⟨s.mine.grown s.row hg, hr, s.deed.grown (by decide) s.row hg, Below.own s.bel s.row hg s.size, Nat.le_trans s.size hg.size⟩
theorem St.swapped (s : St B w0 w q t xs A c L g f) (hb : Below w.heap.size w w') (hr : RowP w.heap.size w' A' c' L') : St B w0 w' q t xs A' c' L' g f :=
  { s.below hb with row := ⟨hr.1, hr.2.imp id fun ⟨g, cap, cur, hv, hb, rest⟩ => ⟨g, cap, cur, hv, Nat.le_trans s.size hb, rest⟩⟩ }
end
theorem src_two (w : World) (b : Nat) (hb : b = w.heap.size) (I R : Int) (T : TypeId) : Src (w.alloc (.cells #[.int .i64 I, .int .i64 R] T)) (some ⟨b, 0, none⟩) 1 1 2 (fl [(I, R)]) := by
  subst hb
  refine ⟨rfl, .inr ⟨_, rfl, fun j u hj => ?_⟩⟩
  rw [Go.WideShapes.add_plain, Nat.zero_add, World.cell?_alloc_new]
  match j, hj with
  | 0, hj => exact hj
  | 1, hj => exact hj
theorem push_pairs {xs zs : List It} {L : List (Int × Int)} {I R t : Int} (hp : zs.Perm (xs ++ [⟨I, R, t⟩])) (h : (xs.map prs).Perm L) : (zs.map prs).Perm (L ++ [(I, R)]) := by
  refine (hp.map prs).trans ?_
  rw [List.map_append]
  exact h.append_right _
theorem best_fp {xs : List It} {x : It} {L : List (Int × Int)} {K : Nat} (h : (xs.map prs).Perm L) (hx : x ∈ xs) (bx : ∀ z ∈ xs, Bf x z) (hK : K < L.length) (hb : ∀ j, j < L.length → ¬ Pb (fp L j) (fp L K)) : fp L K = (x.id, x.rank) := by
  have h1 : fp L K ∈ L := by rw [fp_get L K hK]; exact List.getElem_mem _
  obtain ⟨y, hy, e1⟩ := List.mem_map.1 (h.symm.subset h1)
  obtain ⟨j, hj, e2⟩ := List.getElem_of_mem (h.subset (List.mem_map_of_mem hx))
  have b1 := (bf_iff _ _).1 (bx y hy)
  have b2 := hb j hj
  rw [fp_get L j hj, e2, ← e1] at b2
  unfold Pb prs at b2
  simp only at b2
  rw [← e1]
  unfold prs
  exact Prod.ext (by simp only; omega) (by simp only; omega)
theorem pop_pairs {xs ys : List It} {x : It} {L : List (Int × Int)} {K : Nat} (h : (xs.map prs).Perm L) (hp : (x :: ys).Perm xs) (hK : K < L.length) (e : fp L K = (x.id, x.rank)) : (ys.map prs).Perm (L.eraseIdx K) := by
  have h1 := (hp.map prs).trans h
  rw [fp_get L K hK] at e
  have h2 : L.Perm (L[K] :: L.eraseIdx K) := by
    rw [List.eraseIdx_eq_take_drop_succ]
    have h3 : L = L.take K ++ L[K] :: L.drop (K + 1) := by rw [← List.drop_eq_getElem_cons hK, List.take_append_drop]
    exact (List.Perm.of_eq h3).trans List.perm_middle
  rw [e] at h2
  exact (h1.trans h2).cons_inv
theorem wo_hit {L : List (Int × Int)} {j : Nat} {I : Int} (hj : j < L.length) (hx : (fp L j).1 = I) : (L.take (j + 1) ++ (L.drop (j + 1)).filter fun p => p.1 != I).eraseIdx j = L.take j ++ (L.drop j).filter fun p => p.1 != I := by
  rw [fp_get L j hj] at hx
  rw [List.eraseIdx_append_of_lt_length (by simp; omega), List.drop_eq_getElem_cons hj, List.filter_cons_of_neg (by simp [hx])]
  congr 1
  rw [List.eraseIdx_eq_take_drop_succ, List.drop_eq_nil_of_le (by simp; omega), List.append_nil, List.take_take, Nat.min_eq_left (by omega)]
theorem wo_miss {L : List (Int × Int)} {j : Nat} {I : Int} (hj : j < L.length) (hx : (fp L j).1 ≠ I) : L.take (j + 1) ++ ((L.drop (j + 1)).filter fun p => p.1 != I) = L.take j ++ (L.drop j).filter fun p => p.1 != I := by
  rw [fp_get L j hj] at hx
  rw [List.drop_eq_getElem_cons hj, List.filter_cons_of_pos (by simpa using hx), List.take_succ_eq_append_getElem hj, List.append_assoc]
  rfl
theorem wo_fp {L M : List (Int × Int)} {j : Nat} (hj : j < L.length) : fp (L.take (j + 1) ++ M) j = fp L j := by
  unfold fp
  rw [List.getD_eq_getElem?_getD, List.getD_eq_getElem?_getD, List.getElem?_append_left (by simp; omega), List.getElem?_take_of_lt (by omega)]
theorem top_turned (g : Nat) (t : Int) (xs : List It) (w : World) (p : Pl w g t xs) (h0 : 0 < xs.length) :
    Calls Try.prog 15 #[.pointer (some ⟨g, 0, none⟩)] w fun e w' => ∃ a r t', e = .returned (.tuple #[.int .i64 a, .int .i64 r, .bool true]) ∧ Below w.heap.size w w' ∧ (⟨a, r, t'⟩ : It) ∈ xs ∧ ∀ y ∈ xs, Bf ⟨a, r, t'⟩ y :=
  (top_some g t xs w p.1 h0).mono fun _ _ ⟨he, n, hw⟩ => ⟨_, _, (fn xs 0).at_, he, by subst hw; exact below_drewN (Below.refl _ _) n, by
    rw [show (⟨(fn xs 0).id, (fn xs 0).rank, (fn xs 0).at_⟩ : It) = fn xs 0 from rfl, fn_get xs 0 h0]; exact List.getElem_mem h0, fun y hy => by
    obtain ⟨k, hk, rfl⟩ := List.getElem_of_mem hy
    have := heap_first p.2 k hk
    rwa [fn_get xs k hk] at this⟩
theorem pop_turned (g : Nat) (t : Int) (xs : List It) (w : World) (p : Pl w g t xs) (h0 : 0 < xs.length) (hm : xs.length ≤ 549755813888) :
    Calls Try.prog 12 #[.pointer (some ⟨g, 0, none⟩)] w fun e w' => ∃ a r t', e = .returned (.tuple #[.int .i64 a, .int .i64 r, .bool true]) ∧
      ∃ ys, Turned w g w' t ys ∧ (⟨a, r, t'⟩ :: ys).Perm xs ∧ ∀ y ∈ xs, Bf ⟨a, r, t'⟩ y :=
  (pop_some g t xs w p h0 hm).mono fun _ _ ⟨he, ys, h1, h2⟩ => ⟨_, _, (fn xs 0).at_, he, ys, h1, h2, fun y hy => by
    obtain ⟨k, hk, rfl⟩ := List.getElem_of_mem hy
    have := heap_first p.2 k hk
    rwa [fn_get xs k hk] at this⟩

theorem without_m {B : Nat} (A : Option Addr) (cap k : Nat) (L : List (Int × Int)) (w : World) (r : RowP B w A cap L) (hk : k < L.length) (hn : L.length ≤ 1099511627776) :
    Calls Try.prog 16 #[.slice A L.length cap, .int .i64 k] w fun e w' => ∃ A' cap' M, M = L.eraseIdx k ∧ e = .returned (.slice A' M.length cap') ∧ Below w.heap.size w w' ∧ RowP w.heap.size w' A' cap' M ∧ M.length + 1 = L.length :=
  (without_any A cap k L w r hk hn).mono fun _ _ ⟨A', c', he, hb, hr⟩ => ⟨A', c', _, rfl, he, hb, hr, by rw [List.length_eraseIdx, if_pos hk]; omega⟩
theorem row_at {B : Nat} {w : World} {g cap : Nat} {L : List (Int × Int)} (h : RowP B w (some ⟨g, 0, none⟩) cap L) {k : Nat} (hk : k < L.length) : w.cell? ⟨g, k * 2, none⟩ = some (.int .i64 (fp L k).1) ∧ w.cell? ⟨g, k * 2 + 1, none⟩ = some (.int .i64 (fp L k).2) := by
  obtain ⟨g', e, _, _, hc⟩ := h.form (by omega)
  obtain rfl : g = g' := by injection e with e; injection e
  exact ⟨hc _ _ (fl_at L k hk).1, hc _ _ (fl_at L k hk).2⟩

set_option maxRecDepth 100000 in
set_option maxHeartbeats 8000000 in
theorem walk (a : Option Addr) (len cap : Nat) (F : Nat → Nat → Int) (w : World) (h : Rws w .i64 3 a len cap F) (_hw : ∀ i j, i < len → j < 3 → (Lit.int .i64 (F i j)).wf = true) :
    Calls Try.prog 5 #[.slice a len cap] w fun e w' => e = .returned (.bool true) ∧ Below w.heap.size w w' := by
  obtain ⟨i0, hi, hz0, hz1, hz2⟩ := info_parts2
  have hk : len ≤ cap := h.1
  have H := hide h
  clear h _hw
  go_enter Try.func5, Try.ntmps5
  go_wp2_with fail
  refine (awake_any w).mono ?_
  rintro e w1 ⟨rfl, hb⟩
  have H1 := hide (H.out.later hb)
  have HB := hide hb
  clear H hb
  by_cases h5 : len ≤ 300
  · go_wp2_with fail
    refine (new_any w1).mono ?_
    rintro e w2 ⟨rfl, rfl⟩
    go_wp2_with fail
    go_loopw [4, 5] (fun m i wr => ∃ (k : Nat) (t : Int) (xs : List It) (L : List (Int × Int)) (A : Option Addr) (c : Nat), k ≤ len ∧ m = .slice A L.length c ∧ i = .int .i64 k ∧ 0 ≤ t ∧ t ≤ k ∧ L.length ≤ k ∧ Mine w1.heap.size wr w1.heap.size t xs ∧ RowP w1.heap.size wr A c L ∧ Below w1.heap.size w1 wr ∧ Hid ((xs.map prs).Perm L)) (fun _ i _ => len - (intOf i).toNat)
    case atStart =>
      exact ⟨0, 0, [], [], none, 0, Nat.zero_le _, rfl, rfl, Int.le_refl _, Int.le_refl _, Nat.le_refl _, mine_new (Nat.le_refl _), RowP.nil _ _, (Below.refl _ _).alloc (Nat.le_refl _) _, .refl _⟩
    case round =>
      obtain ⟨k, t, xs, L, A, c, hkl, rfl, rfl, ht0, ht1, hLk, hm, hrow, hbel, HP⟩ := hrel
      by_cases hlt : k < len
      · obtain ⟨b, off, rfl, hc⟩ := H1.out.2 k hlt
        have hc0 := cell_later hbel (hc 0 (by omega))
        have hc1 := cell_later hbel (hc 1 (by omega))
        have hc2 := cell_later hbel (hc 2 (by omega))
        rw [Nat.add_zero] at hc0
        obtain ⟨D, hD⟩ : ∃ D, F k 0 = D := ⟨_, rfl⟩
        obtain ⟨I, hI⟩ : ∃ I, F k 1 = I := ⟨_, rfl⟩
        obtain ⟨R, hR⟩ : ∃ R, F k 2 = R := ⟨_, rfl⟩
        rw [hD] at hc0
        rw [hI] at hc1
        rw [hR] at hc2
        have HM := hide hm
        have HR := hide hrow
        have HBE := hide hbel
        clear hD hI hR hc hm hrow hbel
        go_wp2_with fail
        have hl40 : L.length ≤ 1099511627776 := by omega
        refine (best_any (B := w1.heap.size) A c L (wr.alloc (.cells #[.int .i64 D, .int .i64 I, .int .i64 R] 40)) (HR.out.below ((Below.refl _ _).alloc (Nat.le_refl _) _)) hl40).mono ?_
        rintro e w3 ⟨bi, rfl, hb3, hbst⟩
        have ba : Below wr.heap.size wr (wr.alloc (.cells #[.int .i64 D, .int .i64 I, .int .i64 R] 40)) := (Below.refl _ _).alloc (Nat.le_refl _) _
        have S3 := hide (St.below (St.mk (HM.out.below ba) (HR.out.below ba) (deed_new wr D I R) (HBE.out.trans (ba.mono HBE.out.size)) (Nat.le_trans HBE.out.size ba.size)) hb3)
        have d0 : w3.cell? ⟨wr.heap.size, 0, none⟩ = some (.int .i64 D) := S3.out.deed.cell (i := 0) (by omega)
        have d1 : w3.cell? ⟨wr.heap.size, 1, none⟩ = some (.int .i64 I) := S3.out.deed.cell (i := 1) (by omega)
        have d2 : w3.cell? ⟨wr.heap.size, 2, none⟩ = some (.int .i64 R) := S3.out.deed.cell (i := 2) (by omega)
        have hxl : xs.length = L.length := by simpa using HP.out.length_eq
        have HBS := hide hbst
        clear ba hb3 hbst hc0 hc1 hc2 HM HR HBE
        rcases (by omega : (D = 0 ∨ D = 1 ∨ D = 2) ∨ (D = 3 ∨ D = 4) ∨ D = 5 ∨ (D ≠ 0 ∧ D ≠ 1 ∧ D ≠ 2 ∧ D ≠ 3 ∧ D ≠ 4 ∧ D ≠ 5)) with hD | hD | rfl | hD
        · rcases hD with rfl | rfl | rfl
          all_goals (
            go_wp2_with fail
            refine (push_any w1.heap.size t xs I R w3 S3.out.mine.1 (by omega) ht0 (by omega)).mono ?_
            rintro e w4 ⟨rfl, zs, ht4, hp4⟩
            have S4 := hide (S3.out.turned ht4)
            have HP4 := hide (push_pairs hp4 HP.out)
            have hzl : zs.length = L.length + 1 := by simpa using HP4.out.length_eq
            clear ht4 hp4 d0 d1 d2
            have d1 : w4.cell? ⟨wr.heap.size, 1, none⟩ = some (.int .i64 I) := S4.out.deed.cell (i := 1) (by omega)
            have d2 : w4.cell? ⟨wr.heap.size, 2, none⟩ = some (.int .i64 R) := S4.out.deed.cell (i := 2) (by omega)
            go_wp2_with (at_builtin; refine wpl_append rfl _ _ 38 rfl w1.heap.size 43 i0 (.agg #[.int .i64 0, .int .i64 0]) 2 16 Try.underlying38 hi hz0 hz1 hz2 rfl (by decide) (.slice A L.length c) L.length (fl L) rfl ((S4.out.below ((Below.refl _ _).alloc (Nat.le_refl _) _)).row) _ _ _ (fl [(I, R)]) rfl ?a2 (fl_one _) ?a3 ?a4 ?a5 ?_)
            case a2 => exact src_two _ _ rfl _ _ _
            case a3 => unfold maxLen; omega
            case a4 => omega
            case a5 => exact (S4.out.below ((Below.refl _ _).alloc (Nat.le_refl _) _)).size
            intro v5 w5 hown hgrow
            rw [← fl_append] at hown
            obtain ⟨A5, c5, rfl, hln5, hr5⟩ := RowP.of hown
            have S5 := hide ((S4.out.below ((Below.refl _ _).alloc (Nat.le_refl _) _)).grown hgrow hr5)
            have HLN := hide hln5
            have L1 := hide (plen_any w1.heap.size _ _ w5 S5.out.mine.1.1)
            rw [hzl] at L1
            clear hown hgrow hln5 hr5 d1 d2
            go_wp2_with (go_at_call 13; (with_reducible refine L1.out.mono ?_); rintro e w6 ⟨rfl, rfl⟩)
            go_roundw
            case rel => exact ⟨k + 1, t + 1, zs, L ++ [(I, R)], A5, c5, by omega, by rw [HLN.out], by go_num, by omega, by omega, by simp; omega, S5.out.mine, S5.out.row, S5.out.bel, HP4.out⟩
            case measure => simp [intOf]; omega)
        · by_cases hx0 : xs.length = 0
          · obtain rfl : xs = [] := List.length_eq_zero_iff.1 hx0
            obtain rfl : L = [] := List.length_eq_zero_iff.1 (by rw [← hxl]; rfl)
            obtain rfl : bi = -1 := by
              rcases HBS.out with ⟨_, h⟩ | ⟨K, hK, _⟩
              · exact h
              · simp at hK
            have C1 := hide (top_none w1.heap.size t w3 S3.out.mine.1.1)
            have C2 := hide (pop_none w1.heap.size t w3 S3.out.mine.1.1)
            have L1 : Hid (Calls Try.prog 13 #[.pointer (some ⟨w1.heap.size, 0, none⟩)] w3 fun e w' => e = .returned (.int .i64 0) ∧ w3 = w') := plen_any w1.heap.size _ [] w3 S3.out.mine.1.1
            rcases hD with rfl | rfl
            all_goals (
              go_wp2_with (first
                | (go_at_call 15; (with_reducible refine C1.out.mono ?_); rintro e w6 ⟨rfl, rfl⟩)
                | (go_at_call 12; (with_reducible refine C2.out.mono ?_); rintro e w6 ⟨rfl, rfl⟩)
                | (go_at_call 13; (with_reducible refine L1.out.mono ?_); rintro e w6 ⟨rfl, rfl⟩))
              go_roundw
              case rel => exact ⟨k + 1, t, [], [], A, c, by omega, rfl, by go_num, by omega, by omega, by simp, S3.out.mine, S3.out.row, S3.out.bel, HP.out⟩
              case measure => simp [intOf]; omega)
          · obtain ⟨K, hK, rfl, hbest⟩ : ∃ K : Nat, K < L.length ∧ bi = K ∧ ∀ j, j < L.length → ¬ Pb (fp L j) (fp L K) := by
              rcases HBS.out with ⟨h, _⟩ | ⟨K, hK, h1, h2⟩
              · subst h; simp at hxl; simp [hxl] at hx0
              · exact ⟨K, hK, h1, h2⟩
            obtain ⟨g', rfl, hcap, hg', _⟩ := S3.out.row.form (by omega)
            have hK0 : (0 : Int) ≤ (K : Int) := by omega
            have hK1 : (K : Int) < (L.length : Int) := by omega
            have HBT := hide hbest
            clear hbest
            rcases hD with rfl | rfl
            · go_wp2_with fail
              refine (top_turned w1.heap.size t xs w3 S3.out.mine.1 (by omega)).mono ?_
              rintro e w4 ⟨a0, r0, t0, rfl, hb4, -, -⟩
              have S4 := hide (S3.out.below hb4)
              clear d0 d1 d2 hb4
              have d0 : w4.cell? ⟨wr.heap.size, 0, none⟩ = some (.int .i64 3) := S4.out.deed.cell (i := 0) (by omega)
              go_wp2_with fail
              refine (pop_turned w1.heap.size t xs w4 S4.out.mine.1 (by omega) (by omega)).mono ?_
              rintro e w5 ⟨a1, r1, t1, rfl, ys, ht5, hp5, hx5⟩
              have S5 := hide (S4.out.turned ht5)
              have hq := best_fp HP.out (hp5.subset (List.mem_cons_self ..)) hx5 hK HBT.out
              obtain ⟨m1, m2⟩ := row_at S5.out.row hK
              rw [hq] at m1 m2
              simp only at m1 m2
              have HP5 := hide (pop_pairs HP.out hp5 hK hq)
              clear d0 ht5 hp5 hx5 hq
              have d0 : w5.cell? ⟨wr.heap.size, 0, none⟩ = some (.int .i64 3) := S5.out.deed.cell (i := 0) (by omega)
              go_wp2_with fail
              refine (without_m (B := w1.heap.size) _ c K L w5 S5.out.row hK (by omega)).mono ?_
              rintro e w6 ⟨A6, c6, M, hM, rfl, hb6, hr6, hml⟩
              have S6 := hide (S5.out.swapped hb6 hr6)
              have HP6 : Hid ((ys.map prs).Perm M) := by rw [hM]; exact HP5.out
              have hyl : ys.length = M.length := by simpa using HP6.out.length_eq
              have L1 := hide (plen_any w1.heap.size _ _ w6 S6.out.mine.1.1)
              rw [hyl] at L1
              clear hM hb6 hr6 d0 m1 m2
              go_wp2_with (go_at_call 13; (with_reducible refine L1.out.mono ?_); rintro e w7 ⟨rfl, rfl⟩)
              go_roundw
              case rel => exact ⟨k + 1, t, ys, M, A6, c6, by omega, rfl, by go_num, by omega, by omega, by omega, S6.out.mine, S6.out.row, S6.out.bel, HP6.out⟩
              case measure => simp [intOf]; omega
            · go_wp2_with fail
              refine (top_turned w1.heap.size t xs w3 S3.out.mine.1 (by omega)).mono ?_
              rintro e w4 ⟨a0, r0, t0, rfl, hb4, hx4, hy4⟩
              have S4 := hide (S3.out.below hb4)
              have hq := best_fp HP.out hx4 hy4 hK HBT.out
              obtain ⟨m1, m2⟩ := row_at S4.out.row hK
              rw [hq] at m1 m2
              simp only at m1 m2
              clear d0 d1 d2 hb4 hx4 hy4 hq
              have d0 : w4.cell? ⟨wr.heap.size, 0, none⟩ = some (.int .i64 4) := S4.out.deed.cell (i := 0) (by omega)
              have L1 := hide (plen_any w1.heap.size _ _ w4 S4.out.mine.1.1)
              rw [hxl] at L1
              go_wp2_with (go_at_call 13; (with_reducible refine L1.out.mono ?_); rintro e w7 ⟨rfl, rfl⟩)
              go_roundw
              case rel => exact ⟨k + 1, t, xs, L, _, c, by omega, rfl, by go_num, by omega, by omega, by omega, S4.out.mine, S4.out.row, S4.out.bel, HP.out⟩
              case measure => simp [intOf]; omega
        · obtain ⟨wo, rfl⟩ : ∃ wo : World, wo = wr := ⟨_, rfl⟩
          go_wp2_with fail
          go_loopw [4, 11, 12] (fun m n kk wr => ∃ (j cnt : Nat) (kv : Int) (M : List (Int × Int)) (A' : Option Addr) (c' : Nat), j ≤ L.length ∧ m = .slice A' M.length c' ∧ n = .int .i64 cnt ∧ kk = .int .i64 kv ∧ kv + 1 = j ∧ cnt + M.length = L.length ∧ St w1.heap.size w1 wr w1.heap.size t xs A' c' M wo.heap.size (fd 5 I R) ∧ Hid (M = L.take j ++ (L.drop j).filter fun p => p.1 != I)) (fun _ _ kk _ => (intOf kk + 1).toNat)
          case atStart => exact ⟨L.length, 0, (L.length : Int) - 1, L, A, c, Nat.le_refl _, rfl, rfl, by go_num, by omega, by omega, S3.out, by unfold Hid; simp⟩
          case round =>
            obtain ⟨j, cnt, kv, M, A', c', hj, rfl, rfl, rfl, hkv, hcnt, hs, HMM⟩ := hrel
            have HS := hide hs
            clear hs d0 d1 d2
            have d1 : wr.cell? ⟨wo.heap.size, 1, none⟩ = some (.int .i64 I) := HS.out.deed.cell (i := 1) (by omega)
            rcases j with _ | j
            · obtain rfl : kv = -1 := by omega
              have hM0 : M = L.filter fun p => p.1 != I := by have := HMM.out; simpa using this
              have HM0 := hide hM0
              clear hM0
              go_wp2_with fail
              refine (drop_turned w1.heap.size t I xs wr HS.out.mine.1 (by omega)).mono ?_
              rintro e w5 ⟨ys, he, ht5, hp5⟩
              have hper : (ys.map prs).Perm M := by
                rw [HM0.out]
                refine (hp5.map prs).trans ?_
                rw [kept_prs]
                exact HP.out.filter _
              have hyl : ys.length = M.length := by simpa using hper.length_eq
              rw [show (xs.length : Int) - ys.length = cnt by omega] at he
              subst he
              have S5 := hide (HS.out.turned ht5)
              have HP5 := hide hper
              have L1 := hide (plen_any w1.heap.size _ _ w5 S5.out.mine.1.1)
              rw [hyl] at L1
              clear ht5 hp5 hper d1
              go_wp2_with (go_at_call 13; (with_reducible refine L1.out.mono ?_); rintro e w7 ⟨rfl, rfl⟩)
              go_roundw
              case rel => exact ⟨k + 1, t, ys, M, A', c', by omega, rfl, by go_num, by omega, by omega, by omega, S5.out.mine, S5.out.row, S5.out.bel, HP5.out⟩
              case measure => simp [intOf]; omega
            · obtain rfl : kv = j := by omega
              have hjL : j < L.length := by omega
              have hjM : j < M.length := by rw [HMM.out]; simp; omega
              have hfp : fp M j = fp L j := by rw [HMM.out, wo_fp hjL]
              obtain ⟨g', rfl, hcap, hg', _⟩ := HS.out.row.form (by omega)
              obtain ⟨m1, m2⟩ := row_at HS.out.row hjM
              obtain ⟨X, hX⟩ : ∃ x, (fp L j).1 = x := ⟨_, rfl⟩
              have HX := hide hX
              rw [hfp, hX] at m1
              have hj0 : (0 : Int) ≤ (j : Int) := by omega
              have hj1 : (j : Int) < (M.length : Int) := by omega
              clear m2 hfp hX
              by_cases hXI : X = I
              · have hb : (X == I) = true := by simpa using hXI
                have HXI := hide hXI
                clear hXI
                go_wp2_with fail
                go_quiet (fail)
                go_wp2_with fail
                have S4 := hide (fun n => HS.out.below (below_drewN (Below.refl _ _) n))
                refine Calls.mono (without_m (B := w1.heap.size) _ c' j M _ (S4.out _).row hjM (by omega)) ?_
                rintro e w5 ⟨A5, c5, M5, hM5, rfl, hb5, hr5, hml⟩
                have S5 := hide ((S4.out _).swapped hb5 hr5)
                have HM5 := hide hM5
                clear hb5 hr5 hM5 m1 d1
                go_wp2_with fail
                go_roundw
                case rel => exact ⟨j, cnt + 1, (j : Int) - 1, M5, A5, c5, by omega, rfl, by go_num, by go_num, by omega, by omega, S5.out, by unfold Hid; rw [HM5.out, HMM.out]; exact wo_hit hjL (HX.out.trans HXI.out)⟩
                case measure => simp [intOf]
              · have hb : (X == I) = false := by simpa using hXI
                have HXI := hide hXI
                clear hXI
                go_wp2_with fail
                go_quiet (fail)
                go_wp2_with fail
                have S4 := hide (fun n => HS.out.below (below_drewN (Below.refl _ _) n))
                go_roundw
                case rel => exact ⟨j, cnt, (j : Int) - 1, M, _, c', by omega, rfl, rfl, by go_num, by omega, by omega, S4.out _, by unfold Hid; rw [HMM.out]; exact wo_miss hjL (by rw [HX.out]; exact HXI.out)⟩
                case measure => simp [intOf]
        · obtain ⟨h0, h1, h2, h3, h4, h5⟩ := hD
          have e0 : (D == 0) = false := by simpa using h0
          have e1 : (D == 1) = false := by simpa using h1
          have e2 : (D == 2) = false := by simpa using h2
          have e3 : (D == 3) = false := by simpa using h3
          have e4 : (D == 4) = false := by simpa using h4
          have e5 : (D == 5) = false := by simpa using h5
          have L1 := hide (plen_any w1.heap.size _ _ w3 S3.out.mine.1.1)
          rw [hxl] at L1
          clear h0 h1 h2 h3 h4 h5
          go_wp2_with (go_at_call 13; (with_reducible refine L1.out.mono ?_); rintro e w6 ⟨rfl, rfl⟩)
          go_roundw
          case rel => exact ⟨k + 1, t, xs, L, A, c, by omega, rfl, by go_num, by omega, by omega, by omega, S3.out.mine, S3.out.row, S3.out.bel, HP.out⟩
          case measure => simp [intOf]; omega
      · obtain rfl : len = k := by omega
        have HBE := hide hbel
        clear hm hrow hbel
        go_wp2_with fail
        go_ret
        exact ⟨rfl, HB.out.trans (HBE.out.mono HB.out.size)⟩
  · go_wp2_with fail
    go_ret
    exact ⟨rfl, HB.out⟩
end Go.Proofs.Ytlakffjodlandaa.PilePlays
