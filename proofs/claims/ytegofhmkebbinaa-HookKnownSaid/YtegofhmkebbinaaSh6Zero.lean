/-
  tensor.Map with hook's zero. No condition.
-/
import Derived.Test.YtegofhmkebbinaaSh6
namespace Go.Proofs.Ytegofhmkebbinaa
open Go.RowKit
attribute [local go_sem] run_store_float

set_option maxHeartbeats 4000000 in
theorem map_zero (x : Nat) (g : Option Nat → Option Nat) (hf : ∀ (W : World) (y : Nat), Calls Try.prog 25 #[.agg #[.float .f64 x], .float .f64 y] W fun e w' => ∃ r, e = .returned (.float .f64 r) ∧ Fl.can r = g (Fl.can y) ∧ Below W.heap.size W w')
    (a : Option Addr) (n c : Nat) (b : Option Addr) (m d : Nat) (S : List Int) (D : List Nat) (w : World) (hS : Isl w .i64 a n c S) (hD : Fl.Sl w b m d D) (hn : n ≤ 1099511627776) (hm : m ≤ 1099511627776) (hmay : mayB S m = true) :
    Calls Try.prog 22 #[.agg #[.slice a n c, .slice b m d], .func (.func 25) #[.agg #[.float .f64 x]] #[]] w fun e w' => ∃ a' c' b' d' D', e = .returned (.agg #[.slice a' n c', .slice b' m d']) ∧ Ten w.heap.size w' a' n c' b' m d' S D' ∧ D'.map Fl.can = (D.map Fl.can).map g ∧ Below w.heap.size w w' := by
  have hb0 : Below w.heap.size w ((w.alloc (.cells #[.slice a n c, .slice b m d] 26)).alloc (.cells #[.slice none 0 0, .slice none 0 0] 26)) := ((Below.refl _ _).alloc (Nat.le_refl _) _).alloc (by simp) _
  have x0 : ((w.alloc (.cells #[.slice a n c, .slice b m d] 26)).alloc (.cells #[.slice none 0 0, .slice none 0 0] 26)).cell? ⟨w.heap.size, 0, none⟩ = some (.slice a n c) := by simp
  have x1 : ((w.alloc (.cells #[.slice a n c, .slice b m d] 26)).alloc (.cells #[.slice none 0 0, .slice none 0 0] 26)).cell? ⟨w.heap.size, 1, none⟩ = some (.slice b m d) := by simp
  have r0 : ((w.alloc (.cells #[.slice a n c, .slice b m d] 26)).alloc (.cells #[.slice none 0 0, .slice none 0 0] 26)).heap[w.heap.size + 1]? = some (.cells #[.slice none 0 0, .slice none 0 0] 26 (0, 0)) := by
    have := heap_alloc_new (w.alloc (.cells #[.slice a n c, .slice b m d] 26)) (.cells #[.slice none 0 0, .slice none 0 0] 26)
    simpa using this
  have l0 : ((w.alloc (.cells #[.slice a n c, .slice b m d] 26)).alloc (.cells #[.slice none 0 0, .slice none 0 0] 26)).heap.size = w.heap.size + 2 := by simp
  have HS := hide (hS.later hb0)
  have HD := hide (hD.later hb0)
  have HDL := hide hD.1
  have hnf : ∀ W : World, (binOp .eql 54 (.func (.func 25) #[.agg #[.float .f64 x]] #[]) .nilFunc).run Try.prog W = .ok (.bool false) W := fun _ => rfl
  have HF := hide hf
  clear hS hD hf
  go_enter Try.func22, Try.ntmps22
  go_wp2_with fail
  generalize (w.alloc (.cells #[.slice a n c, .slice b m d] 26)).alloc (.cells #[.slice none 0 0, .slice none 0 0] 26) = W0 at hb0 x0 x1 r0 l0 HS HD ⊢
  have HB0 := hide hb0
  have HR0 := hide r0
  have HL0 := hide l0
  have HX := hide (And.intro x0 x1)
  clear hb0 r0 l0 x0 x1
  have C1 := hide (may_any a n c b m d S W0 HS.out hn)
  rw [hmay] at C1
  refine C1.out.mono ?_
  rintro e w1 ⟨rfl, hb1⟩
  have y0 := cell_later hb1 HX.out.1
  have y1 := cell_later hb1 HX.out.2
  have HB1 := hide hb1
  have HS1 := hide (HS.out.later hb1)
  have HD1 := hide (HD.out.later hb1)
  clear hb1
  go_wp2_with fail
  refine (copy_any a n c b m d S D w1 HS1.out HD1.out hn hm).mono ?_
  rintro e w2 ⟨a', c', b', d', rfl, ht2, hb2⟩
  have hl1 : w.heap.size + 2 ≤ w1.heap.size := by have := HB1.out.size; have := HL0.out; omega
  have hl2 : w1.heap.size ≤ w2.heap.size := hb2.size
  have hr2 := (hb2.block (w.heap.size + 1) (by omega)).trans ((HB1.out.block (w.heap.size + 1) (by rw [HL0.out]; omega)).trans HR0.out)
  have HB2 := hide (HB0.out.trans ((HB1.out.trans (hb2.mono HB1.out.size)).mono HB0.out.size))
  have HR2 := hide hr2
  have HT2 := hide ht2
  have HLL := hide (And.intro hl1 hl2)
  clear y0 y1 hb2 hr2 ht2 hl1 hl2
  go_wp2_with fail
  have hr5 : (w2.alloc (.cells #[.slice a' n c', .slice b' m d'] 26)).heap[w2.heap.size]? = some (.cells #[.slice a' n c', .slice b' m d'] 26 (0, 0)) := heap_alloc_new w2 _
  have hb5 : Below w2.heap.size w2 (w2.alloc (.cells #[.slice a' n c', .slice b' m d'] 26)) := (Below.refl _ _).alloc (Nat.le_refl _) _
  have hs5 : w2.heap.size < (w2.alloc (.cells #[.slice a' n c', .slice b' m d'] 26)).heap.size := by simp
  have hws : w.heap.size + 1 < w2.heap.size := by have := HLL.out.1; have := HLL.out.2; omega
  go_loopw [21] (fun i wr => ∃ (k : Nat) (D' : List Nat), k ≤ m ∧ i = .int .i64 k ∧ Ten (w.heap.size + 2) wr a' n c' b' m d' S D' ∧ wr.heap[w2.heap.size]? = some (.cells #[.slice a' n c', .slice b' m d'] 26 (0, 0)) ∧ wr.heap[w.heap.size + 1]? = some (.cells #[.slice none 0 0, .slice none 0 0] 26 (0, 0)) ∧ Below w.heap.size w wr ∧ w2.heap.size < wr.heap.size ∧ Hid (Upto g D D' k)) (fun i _ => m - (intOf i).toNat)
  case atStart => exact ⟨0, D, Nat.zero_le _, rfl, (HT2.out.mono HLL.out.1).below hb5, hr5, (hb5.block _ hws).trans HR2.out, HB2.out.trans (hb5.mono HB2.out.size), hs5, upto_start g D⟩
  case round =>
    obtain ⟨k, D', hk, rfl, ht, hr5', hr4, hbel, hsz, HU⟩ := hrel
    clear hr5 hb5 hs5
    by_cases hlt : k < m
    · obtain ⟨gd, rfl, hgd, hgl, cur, hcur⟩ := ht.form (by omega)
      obtain ⟨q1, q2⟩ := ht.cell hlt
      obtain ⟨p0, p1, p2, p3⟩ := two_cells hr5'
      obtain ⟨y, hy⟩ : ∃ y, D'.getD k 0 = y := ⟨_, rfl⟩
      have hyD : D.getD k 0 = y := by rw [← hy]; exact (HU.out.2.2 k (Nat.le_refl _)).symm
      rw [hy] at q1
      have HY := hide hyD
      have HT := hide ht
      have HR5 := hide hr5'
      have HR4 := hide hr4
      have HBE := hide hbel
      have HSZ := hide hsz
      have hne5 : w2.heap.size ≠ gd := fun e => by rw [e, hcur] at hr5'; injection hr5' with h; injection h with _ h; exact absurd h (by decide)
      have hne4 : w.heap.size + 1 ≠ gd := by omega
      have HNE := hide (And.intro hne5 hne4)
      have HG := hide (And.intro hgd hgl)
      have hk0 : (0 : Int) ≤ (k : Int) := by omega
      have hk1 : (k : Int) < (m : Int) := by omega
      clear hy hyD ht hr5' hr4 hbel hsz hne5 hne4 hgd hgl hcur
      go_wp2_with fail
      go_region_with (go_at_call 25; refine (HF.out _ y).mono ?_; rintro e w5 ⟨r, rfl, hcan, hb5⟩; have hb6 : Below wr.heap.size wr w5 := (by first | exact ((Below.refl _ _).drew).trans hb5 | exact (below_drewN (Below.refl _ _) _).trans hb5); have HT5 := hide (HT.out.below hb6); have HB6 := hide hb6; have q51 := (HT5.out.cell hlt).1; have q52 := (HT5.out.cell hlt).2; have p51 := (two_cells ((hb6.block _ HSZ.out).trans HR5.out)).2.1; have HCAN := hide hcan; clear hb5 hb6 hcan)
      all_goals (
        go_wp2_with fail
        go_roundw
        case rel => exact ⟨k + 1, D'.set k r, by omega, by go_num, HT5.out.store k r, (Below.heap_setCell _ _ _ _ HNE.out.1).trans ((HB6.out.block _ HSZ.out).trans HR5.out), (Below.heap_setCell _ _ _ _ HNE.out.2).trans ((HB6.out.block _ (by have := HSZ.out; omega)).trans HR4.out), (HBE.out.trans (HB6.out.mono HBE.out.size)).setCell (show w.heap.size ≤ gd by have := HG.out.1; omega) _, by have := HB6.out.size; have := HSZ.out; simp; omega, upto_step HU.out (by rw [HDL.out]; exact hlt) (by rw [HCAN.out, HY.out])⟩
        case measure => simp [intOf]; omega)
    · obtain rfl : m = k := by omega
      obtain ⟨p0, p1, p2, p3⟩ := two_cells hr5'
      obtain ⟨o0, o1, o2, o3⟩ := two_cells hr4
      have HT := hide ht
      have HBE := hide hbel
      clear ht hbel hr5' hr4
      go_wp2_with fail
      (try simp only [Exit.inBlock, Exit.then])
      refine bodyPost_ret (v := .agg #[.slice a' n c', .slice b' m d']) (by simp [results, Try.results22, go_sem, o0, o1]) rfl ?_
      exact ⟨a', c', b', d', D', rfl, ((HT.out.set (by simp) _).set (by simp) _).mono (by omega), upto_end (by rw [HDL.out]; exact HU.out), (HBE.out.setCell (by simp) _).setCell (by simp) _⟩
end Go.Proofs.Ytegofhmkebbinaa
