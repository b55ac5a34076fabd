/-
  PileSorts: as many as one likes, popped: by their ranks, the greatest first, then by their ids. No condition.
-/
import Derived.Test.YtlakffjodlandaaPile8
import Derived.Test.YtlakffjodlandaaReadA
import Derived.IntWalk
namespace Go.Proofs.Ytlakffjodlandaa.PileSorts
open Go.RowKit

def T (F : Nat → Nat → Int) : Nat → Int
  | 0 => 0
  | k + 1 => T F k + (F k 0 * 3 + F k 1)
def val (x : It) : Int := x.id * 3 + x.rank
def prs (x : It) : Int × Int := (x.id, x.rank)
def S (ys : List It) : Int := (ys.map val).sum
theorem T_le (F : Nat → Nat → Int) (n : Nat) (h : ∀ i, i < n → (F i 0).natAbs ≤ 32768 ∧ (F i 1).natAbs ≤ 32768) : ∀ k, k ≤ n → (T F k).natAbs ≤ 131072 * k := by
  intro k
  induction k with
  | zero => intro _; simp [T]
  | succ k ih =>
    intro hk
    have h1 := ih (by omega)
    have h2 := h k (by omega)
    unfold T
    omega
theorem S_le : ∀ ys : List It, (∀ y ∈ ys, y.id.natAbs ≤ 32768 ∧ y.rank.natAbs ≤ 32768) → (S ys).natAbs ≤ 131072 * ys.length
  | [], _ => by simp [S]
  | y :: ys, h => by
    have h1 := h y (by simp)
    have h2 := S_le ys fun z hz => h z (by simp [hz])
    have e : S (y :: ys) = val y + S ys := by simp [S]
    rw [e, List.length_cons, Nat.mul_succ]
    unfold val
    omega
theorem perm_sum {l m : List Int} (h : l.Perm m) : l.sum = m.sum := by
  induction h with
  | nil => rfl
  | cons x _ ih => simp [ih]
  | swap x y l => simp; omega
  | trans _ _ h1 h2 => exact h1.trans h2
theorem S_perm {xs ys : List It} (h : xs.Perm ys) : S xs = S ys := perm_sum (h.map val)
theorem S_cons (x : It) (ys : List It) : S (x :: ys) = val x + S ys := by simp [S]
theorem S_T (F : Nat → Nat → Int) (ys : List It) (n : Nat) (h : (ys.map prs).Perm ((List.range n).map fun i => (F i 0, F i 1))) : S ys = T F n := by
  have h1 := perm_sum ((h.map fun p => p.1 * 3 + p.2))
  rw [List.map_map, List.map_map] at h1
  have h2 : ∀ n, ((List.range n).map ((fun p : Int × Int => p.1 * 3 + p.2) ∘ fun i => (F i 0, F i 1))).sum = T F n := by
    intro n
    induction n with
    | zero => rfl
    | succ n ih => rw [List.range_succ, List.map_append, List.sum_append, ih]; simp [T]
  rw [h2] at h1
  exact h1
theorem mem_bd (F : Nat → Nat → Int) (ys : List It) (n : Nat) (h : (ys.map prs).Perm ((List.range n).map fun i => (F i 0, F i 1))) (hb : ∀ i, i < n → (F i 0).natAbs ≤ 32768 ∧ (F i 1).natAbs ≤ 32768) :
    ∀ y ∈ ys, y.id.natAbs ≤ 32768 ∧ y.rank.natAbs ≤ 32768 := by
  intro y hy
  have h1 := h.subset (List.mem_map_of_mem hy)
  rw [List.mem_map] at h1
  obtain ⟨i, hi, e⟩ := h1
  have h2 := hb i (by simpa using hi)
  have e1 : F i 0 = y.id := congrArg Prod.fst e
  have e2 : F i 1 = y.rank := congrArg Prod.snd e
  rw [← e1, ← e2]
  exact h2

set_option maxHeartbeats 4000000 in
theorem walk (a : Option Addr) (len cap : Nat) (F : Nat → Nat → Int) (w : World) (h : Rws w .i16 2 a len cap F) (hw : ∀ i j, i < len → j < 2 → (Lit.int .i16 (F i j)).wf = true) :
    Calls Try.prog 3 #[.slice a len cap] w fun e w' => e = .returned (.bool true) ∧ Below w.heap.size w w' := by
  have hk : len ≤ cap := h.1
  have hb0 : ∀ i, i < len → (F i 0).natAbs ≤ 32768 ∧ (F i 1).natAbs ≤ 32768 := fun i hi => by
    have h0 := bounds_i16 (hw i 0 hi (by omega))
    have h1 := bounds_i16 (hw i 1 hi (by omega))
    omega
  have HBD := hide hb0
  have H := hide h
  clear h hw hb0
  go_enter Try.func3, Try.ntmps3
  go_wp2_with fail
  refine (awake_any w).mono ?_
  rintro e w1 ⟨rfl, hb⟩
  have H1 := hide (H.out.later hb)
  have HB := hide hb
  clear H hb
  by_cases h5 : len ≤ 500
  · go_wp2_with fail
    refine (new_any w1).mono ?_
    rintro e w2 ⟨rfl, rfl⟩
    go_wp2_with fail
    go_loopw [4] (fun i wr => ∃ (k : Nat) (ys : List It), k ≤ len ∧ i = .int .i64 k ∧ Mine w1.heap.size wr w1.heap.size k ys ∧ Below w1.heap.size w1 wr ∧ Hid ((ys.map prs).Perm ((List.range k).map fun i => (F i 0, F i 1)))) (fun i _ => len - (intOf i).toNat)
    case atStart => exact ⟨0, [], Nat.zero_le _, rfl, mine_new (Nat.le_refl _), (Below.refl _ _).alloc (Nat.le_refl _) _, .refl _⟩
    case round =>
      obtain ⟨k, ys, hk', rfl, hm, hbel, HP⟩ := hrel
      have hyl : ys.length = k := by have := HP.out.length_eq; simpa using this
      by_cases hlt : k < len
      · obtain ⟨b, off, rfl, hc⟩ := H1.out.2 k hlt
        have hc0 := cell_later hbel (hc 0 (by omega))
        have hc1 := cell_later hbel (hc 1 (by omega))
        rw [Nat.add_zero] at hc0
        have hbd := HBD.out k hlt
        have HM := hide hm
        have HBE := hide hbel
        have HPS := hide (List.range_succ (n := k))
        have HYL := hide hyl
        clear hc hm hbel hyl
        generalize hu : F k 0 = u at *
        generalize hv : F k 1 = v at *
        have HU := hide hu
        have HV := hide hv
        have hu1 : -32768 ≤ u := by omega
        have hu2 : u ≤ 32768 := by omega
        have hv1 : -32768 ≤ v := by omega
        have hv2 : v ≤ 32768 := by omega
        have hk0 : (0 : Int) ≤ (k : Int) := by omega
        have hk1 : (k : Int) < (len : Int) := by omega
        have wu : IntKind.i64.wrap u = u := IntWalk.i64_in _ (by omega)
        have wv : IntKind.i64.wrap v = v := IntWalk.i64_in _ (by omega)
        clear hu hv hbd
        go_wp2_with fail
        go_region_with (go_at_call 11; refine (mpush w1.heap.size w1.heap.size k ys _ _ _ (HM.out.drewN 1) HBE.out.size (by rw [HYL.out]; omega) (by omega) (by omega)).mono ?_; rintro e w3 ⟨rfl, zs, hm3, hb3, hp3⟩; have HM3 := hide hm3; have HB3 := hide hb3; have HP3 := hide hp3; clear hm3 hb3 hp3)
        all_goals
          go_wp2_with fail
          go_roundw
          case rel =>
            refine ⟨k + 1, zs, by omega, by go_num, HM3.out, (below_drewN HBE.out 1).trans HB3.out, ?_⟩
            show (zs.map prs).Perm _
            rw [HPS.out, List.map_append]
            refine (HP3.out.map prs).trans ?_
            rw [List.map_append]
            refine (HP.out.append_right _).trans ?_
            rw [← HU.out, ← HV.out]
            exact .refl _
          case measure => simp [intOf]; omega
      · obtain rfl : k = len := by omega
        have HBY := hide (mem_bd F ys k HP.out HBD.out)
        have HST := hide (S_T F ys k HP.out)
        have HM := hide hm
        have HBE := hide hbel
        clear hm hbel HP
        have hlt' : ys.length = k := hyl
        have HYL := hide hlt'
        clear hlt' hyl
        go_wp2_with fail
        go_loopw [5, 6, 7, 8] (fun lid lst s i wr => ∃ (j : Nat) (zs : List It) (l1 l2 : Int), j ≤ k ∧ lid = .int .i64 l1 ∧ lst = .int .i64 l2 ∧ s = .int .i64 (S ys - S zs - T F j) ∧ i = .int .i64 j ∧ Mine w1.heap.size wr w1.heap.size k zs ∧ Below w1.heap.size w1 wr ∧ Hid (zs.length = k - j) ∧ Hid (∀ y ∈ zs, y.id.natAbs ≤ 32768 ∧ y.rank.natAbs ≤ 32768) ∧ Hid (∀ y ∈ zs, y.rank < l2 ∨ (y.rank = l2 ∧ l1 ≤ y.id))) (fun _ _ _ i _ => k - (intOf i).toNat)
        case atStart => exact ⟨0, ys, -1048576, 1048576, Nat.zero_le _, rfl, rfl, by simp [T], rfl, HM.out, HBE.out, HYL.out, HBY.out, fun y hy => by have := HBY.out y hy; omega⟩
        case round =>
          obtain ⟨j, zs, l1, l2, hj', rfl, rfl, rfl, rfl, hm, hbel, HZL, HZB, HZO⟩ := hrel
          have HM := hide hm
          have HBE := hide hbel
          have hS1 := S_le ys HBY.out
          have hS2 := S_le zs HZB.out
          have hT := T_le F k HBD.out j hj'
          rw [HYL.out] at hS1
          rw [HZL.out] at hS2
          clear hm hbel
          by_cases hlt : j < k
          · obtain ⟨b, off, rfl, hc⟩ := H1.out.2 j hlt
            have hc0 := hc 0 (by omega)
            have hc1 := hc 1 (by omega)
            rw [Nat.add_zero] at hc0
            have hbd := HBD.out j hlt
            have hT1 : T F (j + 1) = T F j + (F j 0 * 3 + F j 1) := rfl
            clear hc
            go_wp2_with fail
            refine (mpop w1.heap.size w1.heap.size k zs _ HM.out HBE.out.size (by rw [HZL.out]; omega) (by rw [HZL.out]; omega)).mono ?_
            rintro e w3 ⟨x, rfl, us, hm3, hb3, hp3, hx⟩
            have hmem : x ∈ zs := hp3.subset (List.mem_cons_self ..)
            have hxb := HZB.out x hmem
            have hxo := HZO.out x hmem
            have hul : us.length = k - (j + 1) := by have := hp3.length_eq; rw [List.length_cons, HZL.out] at this; omega
            have hub : ∀ y ∈ us, y.id.natAbs ≤ 32768 ∧ y.rank.natAbs ≤ 32768 := fun y hy => HZB.out y (hp3.subset (List.mem_cons_of_mem _ hy))
            have huo : ∀ y ∈ us, y.rank < x.rank ∨ (y.rank = x.rank ∧ x.id ≤ y.id) := fun y hy => by
              have := (bf_iff _ _).1 (hx y (hp3.subset (List.mem_cons_of_mem _ hy)))
              omega
            have hsum : S zs = x.id * 3 + x.rank + S us := by rw [← S_perm hp3, S_cons]; rfl
            have HB3 := HBE.out.trans hb3
            have hd0 := cell_later HB3 hc0
            have hd1 := cell_later HB3 hc1
            have HM3 := hide hm3
            have HBB := hide HB3
            have HUL := hide hul
            have HUB := hide hub
            have HUO := hide huo
            obtain ⟨xid, xrank, xat⟩ := x
            simp only at hxb hxo hsum
            have HFIN := hide (show S ys - S zs - T F j + xid * 3 + xrank - F j 0 * 3 - F j 1 = S ys - S us - T F (j + 1) by rw [hT1]; omega)
            clear hm3 hb3 hp3 hx hmem hul hub huo hT1 HB3 hc0 hc1 hsum
            have hs0a : -200000000 ≤ S ys - S zs - T F j := by omega
            have hs0b : S ys - S zs - T F j ≤ 200000000 := by omega
            generalize S ys - S zs - T F j = s0 at *
            generalize F j 0 = u at *
            generalize F j 1 = v at *
            have t1 : decide (l2 < xrank) = false := by simp; omega
            have hj0 : (0 : Int) ≤ (j : Int) := by omega
            have hj1 : (j : Int) < (k : Int) := by omega
            have g1 : IntKind.i64.wrap (xid * 3) = xid * 3 := IntWalk.i64_in _ (by omega)
            have g2 : IntKind.i64.wrap (s0 + xid * 3) = s0 + xid * 3 := IntWalk.i64_in _ (by omega)
            have g3 : IntKind.i64.wrap (s0 + xid * 3 + xrank) = s0 + xid * 3 + xrank := IntWalk.i64_in _ (by omega)
            have g4 : IntKind.i64.wrap u = u := IntWalk.i64_in _ (by omega)
            have g5 : IntKind.i64.wrap (u * 3) = u * 3 := IntWalk.i64_in _ (by omega)
            have g6 : IntKind.i64.wrap (s0 + xid * 3 + xrank - u * 3) = s0 + xid * 3 + xrank - u * 3 := IntWalk.i64_in _ (by omega)
            have g7 : IntKind.i64.wrap v = v := IntWalk.i64_in _ (by omega)
            have g8 : IntKind.i64.wrap (s0 + xid * 3 + xrank - u * 3 - v) = s0 + xid * 3 + xrank - u * 3 - v := IntWalk.i64_in _ (by omega)
            by_cases hr : xrank = l2
            · have t2 : (xrank == l2) = true := by simp [hr]
              have t3 : decide (xid < l1) = false := by simp; omega
              clear hr hxo hxb hS1 hS2 hT hbd hs0a hs0b
              go_wp2_with fail
              go_quiet (fail)
              go_wp2_with fail
              go_roundw
              case rel => exact ⟨j + 1, us, xid, xrank, by omega, rfl, rfl, by rw [HFIN.out], by go_num, HM3.out.drewN _, below_drewN HBB.out _, HUL.out, HUB.out, HUO.out⟩
              case measure => simp [intOf]; omega
            · have t2 : (xrank == l2) = false := by simp [hr]
              clear hr hxo hxb hS1 hS2 hT hbd hs0a hs0b
              go_wp2_with fail
              go_quiet (fail)
              go_wp2_with fail
              go_roundw
              case rel => exact ⟨j + 1, us, xid, xrank, by omega, rfl, rfl, by rw [HFIN.out], by go_num, HM3.out.drewN _, below_drewN HBB.out _, HUL.out, HUB.out, HUO.out⟩
              case measure => simp [intOf]; omega
          · obtain rfl : j = k := by omega
            obtain rfl : zs = [] := List.eq_nil_of_length_eq_zero (by rw [HZL.out]; omega)
            have hs0 : S ys - S [] - T F j = 0 := by rw [HST.out]; simp [S]
            rw [hs0]
            have C := hide (pop_none w1.heap.size j wr HM.out.1.1)
            have D := hide (plen_any w1.heap.size j [] wr HM.out.1.1)
            clear hS1 hS2 hT hs0
            go_wp2_with (first | (go_at_call 12; (with_reducible refine C.out.mono ?_); rintro e w3 ⟨rfl, rfl⟩) | (go_at_call 13; (with_reducible refine D.out.mono ?_); rintro e w3 ⟨rfl, rfl⟩))
            go_ret
            exact ⟨rfl, HB.out.trans (HBE.out.mono HB.out.size)⟩
  · go_wp2_with fail
    go_ret
    exact ⟨rfl, HB.out⟩
end Go.Proofs.Ytlakffjodlandaa.PileSorts
