/-
  PileTurns: pushed and popped by turns, nobody comes ahead of a greater rank that is there. No condition.
-/
import Derived.Test.YtlakffjodlandaaPile9
import Derived.Test.YtlakffjodlandaaReadA
import Derived.IntWalk
namespace Go.Proofs.Ytlakffjodlandaa.PileTurns
open Go.RowKit

def Z : Array Value := Array.replicate 256 (.int .i64 0)
theorem zero_info : (Try.prog.info? 34).map (fun i => i.zero) = some (some (.agg Z)) := by kernel_rfl
theorem run_zero (W : World) : (zeroValue 34).run Try.prog W = .ok (.agg Z) W := by
  obtain ⟨i, hi, hz⟩ := Option.map_eq_some_iff.1 zero_info
  simp [zeroValue, typeInfo, hi, hz]
theorem Z_ints (W : World) (g : Nat) (hg : g = W.heap.size) : IntsM (W.alloc (.cells Z 34)) g 34 256 (fun _ => 0) := by
  subst hg
  exact ⟨Z, heap_alloc_new W _, by simp [Z], fun i hi => by simp [Z, hi]⟩

def cnt (ys : List It) (r : Int) : Int := (ys.countP fun y => y.rank == r : Nat)
/-- What is there, and how often each rank is. -/
def Inv (F : Nat → Nat → Int) (k : Nat) (ys : List It) (Th : Nat → Int) : Prop :=
  (∀ r : Nat, r < 256 → Th r = cnt ys r) ∧ (∀ y ∈ ys, 0 ≤ y.id ∧ y.id < k ∧ F y.id.toNat 0 = y.rank ∧ 0 ≤ y.rank ∧ y.rank < 256) ∧ ys.length ≤ k
theorem cnt_perm {xs ys : List It} (h : xs.Perm ys) (r : Int) : cnt xs r = cnt ys r := by unfold cnt; rw [h.countP_eq]
theorem inv_push {F : Nat → Nat → Int} {k : Nat} {ys zs : List It} {Th : Nat → Int} {u : Nat} (h : Inv F k ys Th) (hu : F k 0 = u) (hu2 : u < 256) (hp : zs.Perm (ys ++ [⟨k, u, k⟩])) :
    Inv F (k + 1) zs (fun r => if r = u then Th u + 1 else Th r) := by
  obtain ⟨h1, h2, h3⟩ := h
  refine ⟨fun r hr => ?_, fun y hy => ?_, by rw [hp.length_eq]; simp; omega⟩
  · have e : cnt zs r = cnt ys r + if (u : Int) = r then 1 else 0 := by
      rw [cnt_perm hp]; unfold cnt
      rw [List.countP_append]
      by_cases hur : (u : Int) = r
      · simp [hur]
      · simp [hur]
    rw [e]
    by_cases hru : r = u
    · subst hru; simp [h1 r hr]
    · show (if r = u then _ else _) = _
      rw [if_neg hru, if_neg (by omega), h1 r hr]; simp
  · have := hp.subset hy
    simp at this
    rcases this with hy | rfl
    · have := h2 y hy; omega
    · simp; omega
theorem inv_pop {F : Nat → Nat → Int} {k : Nat} {ys zs : List It} {Th : Nat → Int} {x : It} (h : Inv F k ys Th) (hp : (x :: zs).Perm ys) {u : Nat} (hu : x.rank = u) :
    Inv F k zs (fun r => if r = u then Th u - 1 else Th r) := by
  obtain ⟨h1, h2, h3⟩ := h
  have hl := hp.length_eq
  rw [List.length_cons] at hl
  refine ⟨fun r hr => ?_, fun y hy => h2 y (hp.subset (List.mem_cons_of_mem _ hy)), by omega⟩
  have e : cnt ys r = cnt zs r + if (u : Int) = r then 1 else 0 := by
    rw [← cnt_perm hp]; unfold cnt
    rw [List.countP_cons, hu]
    by_cases hur : (u : Int) = r
    · simp [hur]
    · simp [hur]
  by_cases hru : r = u
  · subst hru
    show (if r = r then _ else _) = _
    rw [if_pos rfl, h1 r hr, e]; simp
  · show (if r = u then _ else _) = _
    rw [if_neg hru, h1 r hr, e, if_neg (by omega)]; simp
theorem inv_top {F : Nat → Nat → Int} {k : Nat} {ys : List It} {Th : Nat → Int} (h : Inv F k ys Th) {x : It} (hx : x ∈ ys) (hb : ∀ y ∈ ys, Bf x y) {t : Nat} (ht : t < 256) (h0 : Th t ≠ 0) (hz : ∀ r, t < r → r < 256 → Th r = 0) : x.rank = t := by
  obtain ⟨h1, h2, h3⟩ := h
  have hc : 0 < ys.countP fun y => y.rank == (t : Int) := by
    have := h1 t ht
    unfold cnt at this
    omega
  obtain ⟨y, hy, he⟩ := List.countP_pos_iff.1 hc
  have he' : y.rank = t := by simpa using he
  have hxy := (bf_iff _ _).1 (hb y hy)
  have hr := h2 x hx
  by_cases hlt : (t : Int) < x.rank
  · exfalso
    have hz' := hz x.rank.toNat (by omega) (by omega)
    rw [h1 _ (by omega)] at hz'
    have : 0 < ys.countP fun y => y.rank == ((x.rank.toNat : Nat) : Int) := List.countP_pos_iff.2 ⟨x, hx, by simp; omega⟩
    unfold cnt at hz'
    omega
  · omega
theorem inv_some {F : Nat → Nat → Int} {k : Nat} {ys : List It} {Th : Nat → Int} (h : Inv F k ys Th) (hl : 0 < ys.length) : ∃ r, r < 256 ∧ Th r ≠ 0 := by
  obtain ⟨y, hy⟩ := List.exists_mem_of_length_pos hl
  have hr := h.2.1 y hy
  refine ⟨y.rank.toNat, by omega, ?_⟩
  rw [h.1 _ (by omega)]
  have : 0 < ys.countP fun z => z.rank == ((y.rank.toNat : Nat) : Int) := List.countP_pos_iff.2 ⟨y, hy, by simp; omega⟩
  unfold cnt
  omega

set_option maxRecDepth 100000 in
set_option maxHeartbeats 8000000 in
theorem walk (a : Option Addr) (len cap : Nat) (F : Nat → Nat → Int) (w : World) (h : Rws w .u8 3 a len cap F) (hw : ∀ i j, i < len → j < 3 → (Lit.int .u8 (F i j)).wf = true) :
    Calls Try.prog 4 #[.slice a len cap] w fun e w' => e = .returned (.bool true) ∧ Below w.heap.size w w' := by
  have hk : len ≤ cap := h.1
  have hb0 : ∀ i j, i < len → j < 3 → 0 ≤ F i j ∧ F i j < 256 := fun i j hi hj => by
    have h0 := bounds_u8 (hw i j hi hj)
    omega
  have HBD := hide hb0
  have H := hide h
  have hzv := run_zero
  clear h hw hb0
  go_enter Try.func4, Try.ntmps4
  go_wp2_with fail
  refine (awake_any w).mono ?_
  rintro e w1 ⟨rfl, hb⟩
  have H1 := hide (H.out.later hb)
  have HB := hide hb
  clear H hb
  by_cases h5 : len ≤ 300
  · go_wp2_with fail
    refine (new_any w1).mono ?_
    rintro e w2 ⟨rfl, rfl⟩
    go_wp2_with fail
    go_loopw [5, 6] (fun many i wr => ∃ (k : Nat) (ys : List It) (Th : Nat → Int), k ≤ len ∧ many = .int .i64 ys.length ∧ i = .int .i64 k ∧ Mine w1.heap.size wr w1.heap.size k ys ∧ IntsM wr (w1.heap.size + 1) 34 256 Th ∧ Below w1.heap.size w1 wr ∧ Hid (Inv F k ys Th)) (fun _ i _ => len - (intOf i).toNat)
    case atStart =>
      refine ⟨0, [], fun _ => 0, Nat.zero_le _, rfl, rfl, ?_, Z_ints _ _ (by simp), ((Below.refl _ _).alloc (Nat.le_refl _) _).alloc (by simp) _, ⟨fun r _ => rfl, fun y hy => by simp at hy, Nat.le_refl _⟩⟩
      exact (mine_new (Nat.le_refl _)).below ((Below.refl _ _).alloc (Nat.le_refl _) _)
    case round =>
      obtain ⟨k, ys, Th, hk', rfl, rfl, hm, hth, hbel, HI⟩ := hrel
      by_cases hlt : k < len
      · obtain ⟨b, off, rfl, hc⟩ := H1.out.2 k hlt
        have hc0 := hc 0 (by omega)
        have hc1 := hc 1 (by omega)
        rw [Nat.add_zero] at hc0
        have hu := HBD.out k 0 hlt (by omega)
        have hv := HBD.out k 1 hlt (by omega)
        have HCELL := hide hc
        have hcr0 := cell_later hbel hc0
        have HC0 := hide hc0
        have HC1 := hide hc1
        clear hc hc0 hc1
        obtain ⟨U, hU⟩ : ∃ U : Nat, F k 0 = U := ⟨(F k 0).toNat, by omega⟩
        obtain ⟨V, hV⟩ : ∃ V : Nat, F k 1 = V := ⟨(F k 1).toNat, by omega⟩
        have HFU := hide hU
        rw [hU] at hu hcr0
        rw [hV] at hv
        have hU2 : U < 256 := by omega
        have hV2 : V < 256 := by omega
        have HC0' : Hid (w1.cell? ⟨b, off + k * 3, none⟩ = some (.int .u8 (U : Int))) := by have := HC0.out; rw [hU] at this; exact this
        have HC1' : Hid (w1.cell? ⟨b, off + k * 3 + 1, none⟩ = some (.int .u8 (V : Int))) := by have := HC1.out; rw [hV] at this; exact this
        have HM := hide hm
        have HTH := hide hth
        have HBE := hide hbel
        have hyk : ys.length ≤ k := HI.out.2.2
        clear hU hV hm hth hbel HC0 HC1 hu hv
        go_wp2_with fail
        refine (mpushO w1.heap.size w1.heap.size k ys k U _ HM.out HBE.out.size (by omega) (by omega) (by omega)).mono ?_
        rintro e w3 ⟨rfl, zs, hm3, hb3, hp3, ho3⟩
        have hth3 := HTH.out.other HM.out.1.1 (by decide) (by decide) ho3
        have hcr3 := cell_later (HBE.out.trans hb3) HC0'.out
        have hcz := hth3.cell hU2
        have hfz := hth3.frozen U
        have HI3 := hide (inv_push HI.out HFU.out hU2 hp3)
        have hzl : zs.length = ys.length + 1 := by rw [hp3.length_eq]; simp
        have hcb : -1000000 ≤ Th U ∧ Th U ≤ 1000000 := by
          have := HI.out.1 U hU2
          have h9 := List.countP_le_length (p := fun y : It => y.rank == (U : Int)) (l := ys)
          unfold cnt at this
          omega
        have hcb1 := hcb.1
        have hcb2 := hcb.2
        have HM3 := hide hm3
        have HTH3 := hide hth3
        have HB3 := hide (HBE.out.trans hb3)
        have HZL := hide hzl
        clear hcr0 hm3 hb3 hp3 ho3 hth3 hzl hcb HM HTH HBE HI
        go_wp2_with fail
        obtain ⟨wo, rfl⟩ : ∃ wo : World, wo = wr := ⟨_, rfl⟩
        go_loopw [5, 7] (fun many kk wr => ∃ (j : Nat) (ys : List It) (Th : Nat → Int), j ≤ 2 ∧ many = .int .i64 ys.length ∧ kk = .int .i64 j ∧ Mine w1.heap.size wr w1.heap.size (k + 1) ys ∧ IntsM wr (w1.heap.size + 1) 34 256 Th ∧ Below w1.heap.size w1 wr ∧ Hid (Inv F (k + 1) ys Th)) (fun _ kk _ => 3 - (intOf kk).toNat)
        case atStart => exact ⟨0, zs, _, by omega, by rw [HZL.out]; go_num, rfl, HM3.out.setOther HTH3.out (by decide) (by decide) _, HTH3.out.set U _, HB3.out.setCell (by simp) _, HI3.out⟩
        case round =>
          obtain ⟨j, xs, Th', hj, rfl, rfl, hm, hth, hbel, HI⟩ := hrel
          have hcr1 := cell_later hbel HC1'.out
          have hxk : xs.length ≤ k + 1 := HI.out.2.2
          have hx0 : (0 : Int) ≤ (xs.length : Int) := by omega
          have HM := hide hm
          have HTH := hide hth
          have HBE := hide hbel
          clear hm hth hbel hcz hfz hcr3
          obtain ⟨m, hv3, hm3⟩ : ∃ m : Nat, (V : Int) % 3 = m ∧ m ≤ 2 := ⟨V % 3, by omega, by omega⟩
          by_cases hcond : j < m ∧ 0 < xs.length
          · obtain ⟨hjm, hxl⟩ := hcond
            obtain ⟨r0, hr0, hr1⟩ := inv_some HI.out hxl
            have HR0 := hide hr1
            clear hr1
            go_wp2_with fail
            go_loop [8] (fun top => ∃ tp : Nat, tp < 256 ∧ top = .int .i64 tp ∧ Hid (∀ r, tp < r → r < 256 → Th' r = 0)) (fun top => (intOf top).toNat)
            case atStart => exact ⟨255, by omega, rfl, fun r h1 h2 => by omega⟩
            case round =>
              obtain ⟨tp, htp, rfl, HZ⟩ := hrel
              have hct := HTH.out.cell htp
              have hft := HTH.out.frozen tp
              by_cases hz : Th' tp = 0
              · have hb : (Th' tp == 0) = true := by simp [hz]
                have h1 : 1 ≤ tp := by
                  rcases Nat.eq_zero_or_pos tp with e | e
                  · exfalso
                    subst e
                    rcases Nat.eq_zero_or_pos r0 with e' | e'
                    · subst e'; exact HR0.out hz
                    · exact HR0.out (HZ.out r0 e' hr0)
                  · exact e
                have HZ2 := hide hz
                clear hz
                go_wp2_with fail
                go_round
                case rel =>
                  refine ⟨tp - 1, by omega, by go_num, fun r h2 h3 => ?_⟩
                  by_cases e : r = tp
                  · subst e; exact HZ2.out
                  · exact HZ.out r (by omega) h3
                case measure => simp [intOf]; omega
              · have hb : (Th' tp == 0) = false := by simp [hz]
                have HNZ := hide hz
                clear hz
                go_wp2_with fail
                refine (mpopO w1.heap.size w1.heap.size _ xs _ HM.out HBE.out.size hxl (by omega)).mono ?_
                rintro e w5 ⟨x, rfl, zs', hm5, hb5, hp5, hx5, ho5⟩
                have hmem : x ∈ xs := hp5.subset (List.mem_cons_self ..)
                have hrank := inv_top HI.out hmem hx5 htp HNZ.out HZ.out
                have hxi := HI.out.2.1 x hmem
                have HI5 := hide (inv_pop HI.out hp5 hrank)
                have hth5 := HTH.out.other HM.out.1.1 (by decide) (by decide) ho5
                have hct5 := hth5.cell htp
                have hft5 := hth5.frozen tp
                have hzl5 : zs'.length + 1 = xs.length := by have := hp5.length_eq; simpa using this
                have HB5 := hide (HBE.out.trans hb5)
                have HTH5 := hide hth5
                have HM5 := hide hm5
                obtain ⟨xid, xrank, xat⟩ := x
                simp only at hrank hxi
                subst hrank
                obtain ⟨X, rfl⟩ : ∃ X : Nat, xid = X := ⟨xid.toNat, by omega⟩
                obtain ⟨b', off', hab, hcx⟩ := H1.out.2 X (by omega)
                have hcx0 := hcx 0 (by omega)
                rw [Nat.add_zero] at hcx0
                have hFX : F X 0 = tp := by have := hxi.2.2.1; simpa using this
                rw [hFX] at hcx0
                have hXk : X ≤ k := by have := hxi.2.1; omega
                injection hab with hab
                injection hab with hab1 hab2
                subst hab1 hab2
                have hcx5 := cell_later HB5.out hcx0
                have hcb : -1000000 ≤ Th' tp ∧ Th' tp ≤ 1000000 := by
                  have := HI.out.1 tp htp
                  have h9 := List.countP_le_length (p := fun y : It => y.rank == (tp : Int)) (l := xs)
                  unfold cnt at this
                  omega
                have hcb1' := hcb.1
                have hcb2' := hcb.2
                have HZL5 := hide hzl5
                have hl1 : (1 : Int) ≤ (xs.length : Int) := by omega
                clear hm5 hb5 hp5 hx5 ho5 hmem hxi hth5 hzl5 hcx hcx0 hFX hcb hct hft hb hcr1
                go_wp2_with fail
                go_roundw
                case rel => exact ⟨j + 1, zs', _, by omega, by have := HZL5.out; rw [← this]; go_num, by go_num, HM5.out.setOther HTH5.out (by decide) (by decide) _, HTH5.out.set tp _, HB5.out.setCell (by simp) _, HI5.out⟩
                case measure => simp [intOf]; omega
          · by_cases hjm : j < m
            · have hxl : ¬ 0 < (xs.length : Int) := by omega
              have C := hide (plen_any w1.heap.size _ xs wr HM.out.1.1)
              go_wp2_with (go_at_call 13; (with_reducible refine C.out.mono ?_); rintro e w5 ⟨rfl, rfl⟩)
              go_roundw
              case rel => exact ⟨k + 1, xs, Th', by omega, rfl, by go_num, HM.out, HTH.out, HBE.out, HI⟩
              case measure => simp [intOf]; omega
            · have C := hide (plen_any w1.heap.size _ xs wr HM.out.1.1)
              go_wp2_with (go_at_call 13; (with_reducible refine C.out.mono ?_); rintro e w5 ⟨rfl, rfl⟩)
              go_roundw
              case rel => exact ⟨k + 1, xs, Th', by omega, rfl, by go_num, HM.out, HTH.out, HBE.out, HI⟩
              case measure => simp [intOf]; omega
      · obtain rfl : k = len := by omega
        go_wp2_with fail
        go_ret
        exact ⟨rfl, HB.out.trans (hbel.mono HB.out.size)⟩
  · go_wp2_with fail
    go_ret
    exact ⟨rfl, HB.out⟩
end Go.Proofs.Ytlakffjodlandaa.PileTurns
