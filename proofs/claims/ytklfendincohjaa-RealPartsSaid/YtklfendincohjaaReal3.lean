/-
  The contracts of package real's Fold, and of the reference's Bits, Same, Row, Fold. No condition.
-/
import Derived.Test.YtklfendincohjaaReal2
namespace Go.Proofs.Ytklfendincohjaa
open Go.RowKit
attribute [local go_sem] Fl.run_add Fl.run_mul

theorem fold_any (xs : List Nat) (b off len cap : Nat) (w : World) (hl : xs.length = len) (hlc : len ≤ cap) (hlm : len ≤ 4294967296) (hr : Fl.Row w b off xs) :
    Calls Try.prog 13 #[.slice (some ⟨b, off, none⟩) len cap] w (Fl.Gives (Fl.foldC (xs.map Fl.can)) w) := by
  by_cases h0 : len = 0
  · subst h0
    obtain rfl := List.length_eq_zero_iff.1 hl
    go_enter Try.func13, Try.ntmps13
    go_wp2_with fail
    go_ret
    exact ⟨0, 0, rfl, by rw [List.map_nil, Fl.foldC_nil]; rfl, rfl⟩
  · have hz : ((len : Int) == 0) = false := by simp; omega
    have HH := hide (halves_any len xs b off len cap w hl (by omega) (Nat.le_refl _) hlc hlm hr)
    have HL := hide hl
    have HR := hide hr
    clear hl hr h0
    go_enter Try.func13, Try.ntmps13
    go_wp2_with (go_at_call 25; (with_reducible refine HH.out.mono ?_); rintro e w' ⟨r1, n1, rfl, hc1, rfl⟩; have HC1 := hide hc1; clear hc1)
    go_ret
    exact ⟨_, _, rfl, HC1.out, rfl⟩
theorem fold_nil (w : World) : Calls Try.prog 13 #[.slice none 0 0] w (Fl.Gives (some 0) w) := by
  go_enter Try.func13, Try.ntmps13
  go_wp2_with fail
  go_ret
  exact ⟨0, 0, rfl, rfl, rfl⟩
theorem row_nil (w : World) : Calls Try.prog 16 #[.slice none 0 0] w (Fl.Gives (some 0) w) := by
  go_enter Try.func16, Try.ntmps16
  go_wp2_with fail
  go_loopw [3, 8] (fun s i wr => s = .float .f64 0 ∧ i = .int .i64 0 ∧ wr = w) (fun _ i _ => 0)
  case atStart => exact ⟨rfl, rfl, rfl⟩
  case round =>
    obtain ⟨rfl, rfl, rfl⟩ := hrel
    go_wp2_with fail
    go_ret
    exact ⟨0, 0, rfl, rfl, rfl⟩

theorem refbits_any (a : Nat) (w : World) :
    Calls Try.prog 14 #[.float .f64 a] w fun e w' => e = .returned (.int .u64 (Fl.bitsI (Fl.can a))) ∧ w = w' := by
  have hb := bits_run
  have hne : (FloatKind.f64.format.order a a != some .eq) = Fl.nanB a := Fl.ne_self a
  cases hn : Fl.nanB a with
  | true =>
    rw [Fl.can_none hn]
    rw [hn] at hne
    go_enter Try.func14, Try.ntmps14
    go_wp2
    go_ret
    exact ⟨rfl, rfl⟩
  | false =>
    rw [Fl.can_some hn]
    rw [hn] at hne
    go_enter Try.func14, Try.ntmps14
    go_wp2
    go_ret
    exact ⟨rfl, rfl⟩
theorem refsame_any (a b : Nat) (w : World) :
    Calls Try.prog 19 #[.float .f64 a, .float .f64 b] w fun e w' => e = .returned (.bool (Fl.sameB (Fl.can a) (Fl.can b))) ∧ w = w' := by
  rw [← Fl.bits_eq]
  go_enter Try.func19, Try.ntmps19
  go_wp2_with (go_at_call 14; refine (refbits_any _ _).mono ?_; rintro e w' ⟨rfl, rfl⟩)
  go_ret
  exact ⟨rfl, rfl⟩

theorem refrow_any (xs : List Nat) (b off len cap : Nat) (w : World) (hl : xs.length = len) (hlc : len ≤ 4294967296) (hr : Fl.Row w b off xs) :
    Calls Try.prog 17 #[.slice (some ⟨b, off, none⟩) len cap] w (Fl.Gives (Fl.rowC (xs.map Fl.can)) w) := by
  subst hl
  have HR := hide hr
  clear hr
  go_enter Try.func17, Try.ntmps17
  go_wp2_with fail
  go_loopw [3, 4] (fun s i wr => ∃ (k r n : Nat), k ≤ xs.length ∧ s = .float .f64 r ∧ i = .int .i64 k ∧ Hid (Fl.can r = Fl.rowC ((xs.take k).map Fl.can)) ∧ wr = w.drewN n) (fun _ i _ => xs.length - (intOf i).toNat)
  case atStart => exact ⟨0, 0, 0, by omega, rfl, rfl, rfl, rfl⟩
  case round =>
    obtain ⟨k, r, n, hk, rfl, rfl, HC, rfl⟩ := hrel
    by_cases hlt : k < xs.length
    · have hcell := HR.out k hlt
      go_wp2_with fail
      go_roundw
      case rel => exact ⟨k + 1, _, _, by omega, rfl, by go_num, by show _ = _; rw [Fl.take_can xs k hlt, Fl.rowC_snoc, ← HC.out]; exact Fl.can_opV _ _ _ _, rfl⟩
      case measure => simp [intOf]; omega
    · go_wp2_with fail
      go_ret
      have : k = xs.length := by omega
      subst this
      exact ⟨_, _, rfl, by rw [HC.out, List.take_length], rfl⟩

set_option maxHeartbeats 2000000 in
theorem reffold_any (k : Nat) : ∀ (xs : List Nat) (b off len cap : Nat) (w : World), xs.length = len → 1 ≤ len → len ≤ k → len ≤ cap → len ≤ 4294967296 → Fl.Row w b off xs →
    Calls Try.prog 15 #[.slice (some ⟨b, off, none⟩) len cap] w (Fl.Gives (Fl.foldC (xs.map Fl.can)) w) := by
  induction k with
  | zero => intro xs b off len cap w _ h1 h0; omega
  | succ k ih =>
    intro xs b off len cap w hl h1 hk hlc hcap hr
    by_cases hone : len = 1
    · subst hone
      have hc : w.cell? ⟨b, off, none⟩ = some (.float .f64 (xs.getD 0 0)) := hr 0 (by omega)
      have HL := hide hl
      have HR := hide hr
      clear hl hr
      go_enter Try.func15, Try.ntmps15
      go_wp2
      go_ret
      refine ⟨_, 0, rfl, ?_, rfl⟩
      have h := HL.out
      match xs, h with
      | [x], _ => rw [List.map_singleton, Fl.foldC_one]; rfl
    · have h1' : ((len : Int) == 1) = false := by simp; omega
      have h0' : ((len : Int) == 0) = false := by simp; omega
      have H1 : ∀ W, Fl.Row W b off (xs.take ((len + 1) / 2)) → Calls Try.prog 15 #[.slice (some ⟨b, off, none⟩) ((len + 1) / 2) cap] W (Fl.Gives (Fl.foldC ((xs.take ((len + 1) / 2)).map Fl.can)) W) :=
        fun W hW => ih _ _ _ _ _ W (by simp; omega) (by omega) (by omega) (by omega) (by omega) hW
      have H2 : ∀ W, Fl.Row W b (off + (len + 1) / 2) (xs.drop ((len + 1) / 2)) → Calls Try.prog 15 #[.slice (some ⟨b, off + (len + 1) / 2, none⟩) (len - (len + 1) / 2) (cap - (len + 1) / 2)] W (Fl.Gives (Fl.foldC ((xs.drop ((len + 1) / 2)).map Fl.can)) W) :=
        fun W hW => ih _ _ _ _ _ W (by simp; omega) (by omega) (by omega) (by omega) (by omega) hW
      have R1 : Fl.Row w b off (xs.take ((len + 1) / 2)) := hr.take _
      have R2 : Fl.Row w b (off + (len + 1) / 2) (xs.drop ((len + 1) / 2)) := hr.drop _
      have HE : Hid (Fl.foldC (xs.map Fl.can) = Fl.opC .add (Fl.foldC ((xs.take ((len + 1) / 2)).map Fl.can)) (Fl.foldC ((xs.drop ((len + 1) / 2)).map Fl.can))) := by
        show _ = _
        rw [Fl.foldC_step _ (by simp; omega), List.length_map, hl, ← List.map_take, ← List.map_drop]
      have HH1 := hide H1
      have HH2 := hide H2
      have HR1 := hide R1
      have HR2 := hide R2
      have hc1 : (len + 1) / 2 < cap := by omega
      have hc2 : (len + 1) / 2 ≤ len := by omega
      have hc4 : cap ≠ (len + 1) / 2 := by omega
      clear hl hr ih hone H1 H2 R1 R2
      go_enter Try.func15, Try.ntmps15
      go_wp2_with fail
      go_region_with (first | (go_at_call 15; (with_reducible refine (HH1.out _ ?_).mono ?_); exact HR1.out; rintro e w' ⟨r1, n1, rfl, hc1, rfl⟩; have HC1 := hide hc1; clear hc1) | (go_at_call 15; (with_reducible refine (HH2.out _ ?_).mono ?_); exact HR2.out; rintro e w' ⟨r2, n2, rfl, hc2, rfl⟩; have HC2 := hide hc2; clear hc2))
      all_goals
        go_wp2_with fail
        go_ret
        refine ⟨_, _, rfl, ?_, rfl⟩
        rw [HE.out, ← HC1.out, ← HC2.out]
        exact Fl.can_opV _ _ _ _

theorem reffold_nil (w : World) : Calls Try.prog 15 #[.slice none 0 0] w (Fl.Gives (some 0) w) := by
  go_enter Try.func15, Try.ntmps15
  go_wp2_with fail
  go_ret
  exact ⟨0, 0, rfl, rfl, rfl⟩
theorem reffold_empty (b off cap : Nat) (w : World) : Calls Try.prog 15 #[.slice (some ⟨b, off, none⟩) 0 cap] w (Fl.Gives (some 0) w) := by
  go_enter Try.func15, Try.ntmps15
  go_wp2_with fail
  go_ret
  exact ⟨0, 0, rfl, rfl, rfl⟩
theorem refrow_nil (w : World) : Calls Try.prog 17 #[.slice none 0 0] w (Fl.Gives (some 0) w) := by
  go_enter Try.func17, Try.ntmps17
  go_wp2_with fail
  go_loopw [3, 4] (fun s i wr => s = .float .f64 0 ∧ i = .int .i64 0 ∧ wr = w) (fun _ i _ => 0)
  case atStart => exact ⟨rfl, rfl, rfl⟩
  case round =>
    obtain ⟨rfl, rfl, rfl⟩ := hrel
    go_wp2_with fail
    go_ret
    exact ⟨0, 0, rfl, rfl, rfl⟩
end Go.Proofs.Ytklfendincohjaa
