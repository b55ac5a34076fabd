/-
  RealExact: a row of products is not fused: each product is rounded, then each sum. No condition.
-/
import Derived.Test.YtklfendincohjaaReal5
import Derived.Test.YtklfendincohjaaFlInt
namespace Go.Proofs.Ytklfendincohjaa.RealExact
open Go.RowKit Ieee

/-- Not below nought, and no NaN. -/
def Nn (x : Nat) : Prop := (∃ m p, double.read x = .number false m p) ∨ double.read x = .infinity false
/-- Above nought, and no NaN. -/
def Pos (x : Nat) : Prop := (∃ m p, double.read x = .number false m p ∧ m ≠ 0) ∨ double.read x = .infinity false

theorem nn_word (rung : Nat) (h : rung ≤ double.infRung) : Nn (double.word false rung) := by
  unfold Nn
  rw [Fl.read_word false rung (by rw [Fl.sw]; rw [Fl.inf] at h; omega)]
  split
  · exact .inl ⟨_, _, rfl⟩
  · split
    · exact .inl ⟨_, _, rfl⟩
    · split
      · exact .inr rfl
      · rename_i h1 h2 h3; exact absurd (by omega) h3
theorem pos_word (rung : Nat) (h0 : double.binade ≤ rung) (h : rung ≤ double.infRung) : Pos (double.word false rung) := by
  unfold Pos
  rw [Fl.read_word false rung (by rw [Fl.sw]; rw [Fl.inf] at h; omega), if_neg (by omega)]
  split
  · exact .inl ⟨_, _, rfl, by rw [Fl.bin]; omega⟩
  · split
    · exact .inr rfl
    · rename_i h1 h2; exact absurd (by omega) h2
theorem nn_nearest (mag : Nat) (place : Int) : Nn (double.nearest false mag place) := by
  unfold Format.nearest
  dsimp only
  split
  · exact nn_word _ (Nat.zero_le _)
  · exact nn_word _ (Nat.min_le_right ..)
theorem pos_nearest (mag : Nat) (place : Int) (hm : mag ≠ 0) (h : 0 ≤ place + mag.log2) : Pos (double.nearest false mag place) := by
  unfold Format.nearest
  dsimp only
  rw [if_neg hm]
  refine pos_word _ ?_ (Nat.min_le_right ..)
  rw [Fl.bin, Fl.inf, Fl.least, Fl.frac]
  refine Nat.le_min.2 ⟨?_, by omega⟩
  have : 1022 ≤ (max (place + (mag.log2 : Int) - 52) (-1074) - -1074).toNat := by omega
  have := Nat.mul_le_mul_right 4503599627370496 this
  omega

theorem quo_nn (z : Int) (h0 : 0 ≤ z) (h : z.natAbs < 9007199254740992) : ∃ q, Fl.op .quo (Fl.ofI z) 4751297606875873280 = some q ∧ Nn q := by
  have hc : double.read 4751297606875873280 = .number false 4503599627370496 (-20) := by decide +kernel
  obtain ⟨s, m, k, hr, hs⟩ := Fl.val_ofI z h
  have hf : s = false ∨ m = 0 := by
    cases s
    · exact .inl rfl
    · right
      simp [signed] at hs
      have : (0 : Int) ≤ z * 2 ^ k := Int.mul_nonneg h0 (Int.le_of_lt (Int.pow_pos (by omega)))
      omega
  have hs0 : s = false := by
    by_cases hz : z = 0
    · subst hz
      have : double.read (Fl.ofI 0) = .number false 0 (-1074) := by decide +kernel
      rw [this] at hr
      injection hr with h1
      exact h1.symm
    · rcases hf with hf | hf
      · exact hf
      · subst hf
        exfalso
        have h1 : (0 : Int) < z * 2 ^ k := Int.mul_pos (by omega) (Int.pow_pos (by omega))
        have h2 : signed s 0 0 = 0 := by cases s <;> rfl
        omega
  subst hs0
  refine ⟨_, by simp only [Fl.op, Format.div, hr, hc, Datum.quotient]; rfl, nn_nearest _ _⟩

theorem add_pos {q : Nat} (hq : Nn q) : ∃ x, Fl.op .add 4607182418800017408 q = some x ∧ Pos x := by
  have hc : double.read 4607182418800017408 = .number false 4503599627370496 (-52) := by decide +kernel
  rcases hq with ⟨m, p, hr⟩ | hr
  · refine ⟨_, by simp only [Fl.op, Format.add, hr, hc, Datum.sum]; rfl, ?_⟩
    generalize hb : min (-52 : Int) p = base
    have hb1 : base ≤ -52 := by omega
    have e1 : signed false 4503599627370496 (-52 - base).toNat = ((4503599627370496 * 2 ^ (-52 - base).toNat : Nat) : Int) := by simp [signed, Nat.shiftLeft_eq]
    have e2 : signed false m (p - base).toNat = ((m * 2 ^ (p - base).toNat : Nat) : Int) := by simp [signed, Nat.shiftLeft_eq]
    rw [e1, e2]
    have hp : 0 < 2 ^ (-52 - base).toNat := Nat.two_pow_pos _
    generalize hn : 4503599627370496 * 2 ^ (-52 - base).toNat + m * 2 ^ (p - base).toNat = n
    have hge : 4503599627370496 * 2 ^ (-52 - base).toNat ≤ n := by omega
    have hn0 : n ≠ 0 := by omega
    have e3 : ((4503599627370496 * 2 ^ (-52 - base).toNat : Nat) : Int) + ((m * 2 ^ (p - base).toNat : Nat) : Int) = (n : Int) := by omega
    rw [e3]
    have e4 : (if (n : Int) = 0 then (false && false) else decide ((n : Int) < 0)) = false := by
      rw [if_neg (by omega)]; simp
    rw [e4]
    refine pos_nearest _ _ (by simpa using hn0) ?_
    have h2 : 2 ^ (52 + (-52 - base).toNat) ≤ n := by
      rw [Nat.pow_add]; exact hge
    have h3 := (Nat.le_log2 hn0).2 h2
    rw [Int.natAbs_natCast]
    omega
  · exact ⟨_, by simp only [Fl.op, Format.add, hr, hc, Datum.sum]; rfl, .inr (by decide +kernel)⟩

theorem mul_some {x y : Nat} (hx : Pos x) (hy : Pos y) : ∃ p, Fl.op .mul x y = some p := by
  rcases hx with ⟨m, p, hr, hm⟩ | hr <;> rcases hy with ⟨n, q, hs, hn⟩ | hs
  · exact ⟨_, by simp only [Fl.op, Format.mul, hr, hs, Datum.product]; rfl⟩
  · exact ⟨_, by simp only [Fl.op, Format.mul, hr, hs, Datum.product, if_neg hm]; rfl⟩
  · exact ⟨_, by simp only [Fl.op, Format.mul, hr, hs, Datum.product, if_neg hn]; rfl⟩
  · exact ⟨_, by simp only [Fl.op, Format.mul, hr, hs, Datum.product]; rfl⟩

theorem run_of {o : BinOp} {P : Program} {t : TypeId} {x y r : Nat} (ho : o = .add ∨ o = .mul ∨ o = .quo) (h : Fl.op o x y = some r) (W : World) : (binOp o t (.float .f64 x) (.float .f64 y)).run P W = .ok (.float .f64 r) W := by
  have e1 : Fl.opV o W x y = r := by unfold Fl.opV; rw [h]
  have e2 : Fl.opN o x y = 0 := by unfold Fl.opN; rw [h]
  rcases ho with rfl | rfl | rfl
  · rw [Fl.run_add, e1, e2]; rfl
  · rw [Fl.run_mul, e1, e2]; rfl
  · rw [Fl.run_quo, e1, e2]; rfl
theorem times_exact {x y r : Nat} (h : Fl.op .mul x y = some r) (w : World) :
    Calls Try.prog 11 #[.float .f64 x, .float .f64 y] w fun e w' => e = .returned (.float .f64 r) ∧ w = w' :=
  (times_any x y w).mono fun e w' ⟨he, hw⟩ => by
    have e1 : Fl.opV .mul w x y = r := by unfold Fl.opV; rw [h]
    have e2 : Fl.opN .mul x y = 0 := by unfold Fl.opN; rw [h]
    rw [e1] at he
    rw [e2] at hw
    exact ⟨he, hw⟩
theorem info23 : (Try.prog.info? 23).map (fun i => (i.zero, i.size, i.bytes)) = some (some (.float .f64 0), 1, 8) := by kernel_rfl

set_option maxHeartbeats 2000000 in
theorem walk (a : Option Addr) (la ca : Nat) (za : List Int) (b : Option Addr) (lb cb : Nat) (zb : List Int) (w : World) (ha : Isl w .u32 a la ca za) (wa : ∀ n ∈ za, (Lit.int .u32 n).wf = true) (hb : Isl w .u32 b lb cb zb) (wb : ∀ n ∈ zb, (Lit.int .u32 n).wf = true) :
    Calls Try.prog 7 #[.slice a la ca, .slice b lb cb] w fun e w' => e = .returned (.bool true) ∧ Below w.heap.size w w' := by
  have hka : la ≤ ca := ha.2.1
  have hkb : lb ≤ cb := hb.2.1
  have bnd : ∀ (l : List Int), (∀ n ∈ l, (Lit.int .u32 n).wf = true) → ∀ k, k < l.length → 0 ≤ l.getD k 0 ∧ (l.getD k 0).natAbs < 9007199254740992 := fun l hl k hk => by
    have := hl (l.getD k 0) (by rw [List.getD_eq_getElem?_getD, List.getElem?_eq_getElem hk]; exact List.getElem_mem hk)
    simp [Lit.wf, IntKind.min, IntKind.max, IntKind.signed, IntKind.bits] at this
    simp
    omega
  have BA := hide (bnd za wa)
  have BB := hide (bnd zb wb)
  have LA := hide ha.1
  have LB := hide hb.1
  have A := hide ha
  have B := hide hb
  clear ha hb wa wb bnd
  obtain ⟨i0, hi, hz0, hz1, hz2⟩ := info_parts info23
  go_enter Try.func7, Try.ntmps7
  go_wp2_with fail
  refine (awake_any w).mono ?_
  rintro e w1 ⟨rfl, hbe⟩
  have A1 := hide (A.out.later hbe)
  have B1 := hide (B.out.later hbe)
  have HB := hide hbe
  clear A B hbe
  by_cases hne : la = lb
  · subst hne
    by_cases h5 : la ≤ 200
    · have h5' : ¬ (200 : Int) < la := by omega
      go_wp2_with fail
      go_loopw [5, 6, 7] (fun v s i wr => ∃ (k r : Nat) (ps : List Nat), k ≤ la ∧ i = .int .i64 k ∧ s = .float .f64 r ∧ Hid (Fl.can r = Fl.rowC (ps.map Fl.can)) ∧ wr.ownsRow w1.heap.size 23 1 v k (ps.map (Value.float .f64)) ∧ Below w1.heap.size w1 wr) (fun _ _ i _ => la - (intOf i).toNat)
      case atStart => exact ⟨0, 0, [], Nat.zero_le _, rfl, rfl, by show _ = _; decide +kernel, World.ownsRow_nil _ _ _ _, Below.refl _ _⟩
      case round =>
        obtain ⟨k, r, ps, hk', rfl, rfl, HC, hown, hbel⟩ := hrel
        by_cases hlt : k < la
        · obtain ⟨b1, off1, rfl, hc1⟩ := A1.out.2.2 k hlt
          obtain ⟨b2, off2, rfl, hc2⟩ := B1.out.2.2 k hlt
          have hz1' := BA.out k (by rw [LA.out]; exact hlt)
          have hz2' := BB.out k (by rw [LB.out]; exact hlt)
          have hcell1 := cell_later hbel hc1
          have hcell2 := cell_later hbel hc2
          have HO := hide hown
          have HBE := hide hbel
          have hsz := hbel.size
          clear hc1 hc2 hown hbel
          generalize za.getD k 0 = z1 at *
          generalize zb.getD k 0 = z2 at *
          obtain ⟨q1, hq1, nq1⟩ := quo_nn z1 hz1'.1 hz1'.2
          obtain ⟨q2, hq2, nq2⟩ := quo_nn z2 hz2'.1 hz2'.2
          obtain ⟨x1, hx1, px1⟩ := add_pos nq1
          obtain ⟨x2, hx2, px2⟩ := add_pos nq2
          obtain ⟨p, hp⟩ := mul_some px1 px2
          have rq1 := fun W => run_of (P := Try.prog) (t := 23) (.inr (.inr rfl)) hq1 W
          have rq2 := fun W => run_of (P := Try.prog) (t := 23) (.inr (.inr rfl)) hq2 W
          have rx1 := fun W => run_of (P := Try.prog) (t := 23) (.inl rfl) hx1 W
          have rx2 := fun W => run_of (P := Try.prog) (t := 23) (.inl rfl) hx2 W
          have rp := fun W => run_of (P := Try.prog) (t := 23) (.inr (.inl rfl)) hp W
          have hne : (FloatKind.f64.format.order p p != some .eq) = false := by
            rw [show (FloatKind.f64.format.order p p != some .eq) = Fl.nanB p from Fl.ne_self p]; exact Fl.op_ok hp
          have T := hide (fun W => times_exact hp W)
          rw [← Fl.ofI_is] at rq1 rq2
          have hk0 : (0 : Int) ≤ (k : Int) := by omega
          have hk1 : (k : Int) < (la : Int) := by omega
          clear hz1' hz2' hq1 hq2 nq1 nq2 hx1 hx2 px1 px2 hp
          go_wp2_with fail
          go_quiet (fail)
          go_wp2_with (first | (go_at_call 11; refine (T.out _).mono ?_; rintro e w' ⟨rfl, rfl⟩) | (at_builtin; refine wpList_append_own _ rfl _ _ 22 rfl w1.heap.size 23 i0 (.float .f64 0) 1 8 Try.underlying22 hi hz0 hz1 hz2 rfl (by decide) _ _ _ rfl (HO.out.alloc _) ⟨wr.heap.size, 0, none⟩ 1 1 [.float .f64 p] rfl rfl ?c1 ?c2 ?c3 ?c4 ?c5 ?_))
          case c1 =>
            intro j u hj
            match j, hj with
            | 0, hj => simp at hj; subst hj; simp only [Addr.add]; exact World.cell?_alloc_new (wr.drewN nq) _ _ 0
          case c2 => intro u hu; simp at hu; subst hu; rfl
          case c3 => unfold maxLen; omega
          case c4 => omega
          case c5 => simp; omega
          intro v' w2 hown' hgrow _
          have hb2 : Below w1.heap.size w1 w2 := ((Fl.below_drewN HBE.out nq).alloc hsz _).grown hgrow (by simp; omega) (fun g hg => (HO.out.lt g hg).1)
          have HO2 := hide hown'
          have HB2 := hide hb2
          clear hown' hgrow hb2
          go_wp2_with (go_at_call 10; refine (plus_gives _ _ _).mono ?_; rintro e w' ⟨r', n', rfl, hc', rfl⟩; have HC' := hide hc'; clear hc')
          go_roundw
          case rel => exact ⟨k + 1, r', ps ++ [p], by omega, by go_num, rfl, by show _ = _; rw [List.map_append, List.map_singleton, Fl.rowC_snoc, ← HC.out]; exact HC'.out, by rw [List.map_append, List.map_singleton]; exact HO2.out, Fl.below_drewN HB2.out _⟩
          case measure => simp [intOf]; omega
        · obtain rfl : k = la := by omega
          obtain ⟨A, c, rfl, hsl⟩ := Fl.Sl_of_own hown
          have F := hide (fun W (hW : Fl.Sl W A k c ps) => row_sl A k c ps W (by omega) hW)
          have HS := hide hsl
          have HBE := hide hbel
          have hss : Fl.sameB (Fl.rowC (ps.map Fl.can)) (Fl.can r) = true := by rw [HC.out]; exact beq_self_eq_true _
          clear hsl hown hbel
          go_wp2_with (first | (go_at_call 16; refine (F.out _ ?_).mono ?_; exact HS.out; rintro e w' ⟨r', n, rfl, hc, rfl⟩) | (go_at_call 18; refine (same_any _ _ _).mono ?_; rintro e w' ⟨rfl, rfl⟩))
          go_ret
          exact ⟨rfl, Fl.below_drewN (HB.out.trans (HBE.out.mono HB.out.size)) _⟩
    · go_wp2_with fail
      go_ret
      exact ⟨rfl, HB.out⟩
  · have hne' : ((la : Int) != (lb : Int)) = true := by rw [bne_iff_ne]; omega
    clear hne
    go_wp2_with fail
    go_ret
    exact ⟨rfl, HB.out⟩
end Go.Proofs.Ytklfendincohjaa.RealExact
