/-
  RealWhole: of small whole numbers the fold and the row are the sum. No condition.
-/
import Derived.Test.YtklfendincohjaaReal5
import Derived.Test.YtklfendincohjaaRealInts
namespace Go.Proofs.Ytklfendincohjaa.RealWhole
open Go.RowKit
attribute [local go_sem] Fl.run_add Fl.run_mul

theorem info23 : (Try.prog.info? 23).map (fun i => (i.zero, i.size, i.bytes)) = some (some (.float .f64 0), 1, 8) := by kernel_rfl
def flo (z : Int) : Value := .float .f64 (Fl.ofI z)

theorem take_step {β : Type} (f : Int → β) (zs : List Int) (k : Nat) (h : k < zs.length) :
    (zs.take (k + 1)).sum = (zs.take k).sum + zs.getD k 0 ∧ (zs.take (k + 1)).map f = (zs.take k).map f ++ [f (zs.getD k 0)] := by
  rw [List.getD_eq_getElem?_getD, List.getElem?_eq_getElem h, List.take_succ_eq_append_getElem h, List.map_append, List.sum_append]
  exact ⟨by simp, rfl⟩

set_option maxHeartbeats 2000000 in
theorem walk (a : Option Addr) (len cap : Nat) (zs : List Int) (w : World) (h : Isl w .i16 a len cap zs) (hz : ∀ n ∈ zs, (Lit.int .i16 n).wf = true) :
    Calls Try.prog 4 #[.slice a len cap] w fun e w' => e = .returned (.bool true) ∧ Below w.heap.size w w' := by
  have hk : len ≤ cap := h.2.1
  have hzb : ∀ n ∈ zs, n.natAbs ≤ 32768 := fun n hn => by have := hz n hn; simp [Lit.wf, IntKind.min, IntKind.max, IntKind.signed, IntKind.bits] at this; omega
  have HZ := hide hzb
  have HL := hide h.1
  have H := hide h
  clear h hz hzb
  obtain ⟨i0, hi, hz0, hz1, hz2⟩ := info_parts info23
  go_enter Try.func4, Try.ntmps4
  go_wp2_with fail
  refine (awake_any w).mono ?_
  rintro e w1 ⟨rfl, hb⟩
  have H1 := hide (H.out.later hb)
  have HB := hide hb
  clear H hb
  by_cases h5 : len ≤ 1000
  · go_wp2_with fail
    go_loopw [3, 4, 5] (fun n v i wr => ∃ k : Nat, k ≤ len ∧ n = .int .i64 (zs.take k).sum ∧ i = .int .i64 k ∧ wr.ownsRow w1.heap.size 23 1 v k ((zs.take k).map flo) ∧ Below w1.heap.size w1 wr) (fun _ _ i _ => len - (intOf i).toNat)
    case atStart => exact ⟨0, Nat.zero_le _, rfl, rfl, World.ownsRow_nil _ _ _ _, Below.refl _ _⟩
    case round =>
      obtain ⟨k, hk', rfl, rfl, hown, hbel⟩ := hrel
      by_cases hlt : k < len
      · obtain ⟨b, off, rfl, hc0⟩ := H1.out.2.2 k hlt
        have hlen : k < zs.length := by rw [HL.out]; exact hlt
        have hzk : (zs.getD k 0).natAbs ≤ 32768 := by rw [List.getD_eq_getElem?_getD, List.getElem?_eq_getElem hlen]; exact HZ.out _ (List.getElem_mem hlen)
        have hS := Fl.sum_le 32768 (zs.take k) fun x hx => HZ.out x (List.mem_of_mem_take hx)
        have hSt := take_step flo zs k hlen
        rw [List.length_take] at hS
        have hcell := cell_later hbel hc0
        have HST := hide hSt
        have HO := hide hown
        have HBE := hide hbel
        have hsz := hbel.size
        have HLN := hide hlen
        clear hSt hc0 hown hbel hlen
        generalize zs.getD k 0 = z at *
        generalize (zs.take k).sum = S at *
        have hz1' : -32768 ≤ z := by omega
        have hz2' : z ≤ 32768 := by omega
        have hS1 : -32768000 ≤ S := by have : min k zs.length ≤ 1000 := by omega
                                       omega
        have hS2 : S ≤ 32768000 := by have : min k zs.length ≤ 1000 := by omega
                                      omega
        clear hzk hS
        go_wp2_with (at_builtin; refine wpList_append_own _ rfl _ _ 22 rfl w1.heap.size 23 i0 (.float .f64 0) 1 8 Try.underlying22 hi hz0 hz1 hz2 rfl (by decide) _ _ _ rfl (HO.out.alloc _) ⟨wr.heap.size, 0, none⟩ 1 1 [flo z] rfl rfl ?c1 ?c2 ?c3 ?c4 ?c5 ?_)
        case c1 =>
          intro j u hj
          match j, hj with
          | 0, hj => simp at hj; subst hj; simp [Addr.add]; rfl
        case c2 => intro u hu; simp at hu; subst hu; rfl
        case c3 => unfold maxLen; omega
        case c4 => omega
        case c5 => simp; omega
        intro v' w2 hown' hgrow _
        have hb2 : Below w1.heap.size w1 w2 := (HBE.out.alloc hsz _).grown hgrow (by simp; omega) (fun g hg => (HO.out.lt g hg).1)
        have HO2 := hide hown'
        have HB2 := hide hb2
        clear hown' hgrow hb2
        go_wp2_with fail
        go_roundw
        case rel => exact ⟨k + 1, by omega, by rw [HST.out.1], by go_num, by rw [HST.out.2, List.map_take]; exact HO2.out, HB2.out⟩
        case measure => simp [intOf]; omega
      · obtain rfl : k = len := by omega
        have e1 : zs.take k = zs := by rw [← HL.out, List.take_length]
        rw [e1] at hown
        rw [e1]
        have hmm : zs.map flo = (zs.map Fl.ofI).map (Value.float .f64) := by rw [List.map_map]; rfl
        rw [hmm] at hown
        obtain ⟨A, c, rfl, hsl⟩ := Fl.Sl_of_own hown
        have hlm := HL.out
        obtain ⟨r1, hr1, hi1⟩ := Fl.foldC_whole 32768 (by omega) zs.length zs (Nat.le_refl _) HZ.out (by omega)
        obtain ⟨r2, hr2, hi2⟩ := Fl.rowC_whole 32768 zs HZ.out (by omega) (by omega)
        have hS := Fl.sum_le 32768 zs HZ.out
        have eq1 : (FloatKind.f64.format.order r1 (floatOfInt .f64 zs.sum) == some .eq) = true := by
          rw [show FloatKind.f64.format.order r1 (floatOfInt .f64 zs.sum) = some (compare zs.sum zs.sum) from Fl.order_whole hi1 (.inl rfl) (by omega) (by omega)]
          simp
        have eq2 : (FloatKind.f64.format.order r2 (floatOfInt .f64 zs.sum) == some .eq) = true := by
          rw [show FloatKind.f64.format.order r2 (floatOfInt .f64 zs.sum) = some (compare zs.sum zs.sum) from Fl.order_whole hi2 (.inl rfl) (by omega) (by omega)]
          simp
        have em : ((zs.map Fl.ofI).map Fl.can) = zs.map fun z => Fl.can (Fl.ofI z) := by rw [List.map_map]; rfl
        have F := hide (fun W (hW : Fl.Sl W A k c (zs.map Fl.ofI)) => fold_sl A k c (zs.map Fl.ofI) W (by omega) hW)
        have R := hide (fun W (hW : Fl.Sl W A k c (zs.map Fl.ofI)) => row_sl A k c (zs.map Fl.ofI) W (by omega) hW)
        have HS := hide hsl
        have HBE := hide hbel
        have HR1 := hide hr1
        have HR2 := hide hr2
        have HM := hide em
        clear hown hsl hbel hr1 hr2 em hmm e1 hlm hS hi1 hi2
        go_wp2_with (first | (go_at_call 13; refine (F.out _ ?_).mono ?_; exact HS.out; rintro e w' ⟨r, n, rfl, hc, rfl⟩; rw [HM.out, HR1.out] at hc; obtain ⟨rfl, _⟩ := Fl.of_can hc; clear hc) | (go_at_call 16; refine (R.out _ ?_).mono ?_; exact HS.out; rintro e w' ⟨r, n, rfl, hc, rfl⟩; rw [HM.out, HR2.out] at hc; obtain ⟨rfl, _⟩ := Fl.of_can hc; clear hc))
        go_ret
        exact ⟨rfl, Fl.below_drewN (HB.out.trans (HBE.out.mono HB.out.size)) _⟩
  · go_wp2_with fail
    go_ret
    exact ⟨rfl, HB.out⟩
end Go.Proofs.Ytklfendincohjaa.RealWhole
