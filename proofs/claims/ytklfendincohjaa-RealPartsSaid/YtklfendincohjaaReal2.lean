/-
  The contracts of package real's folds and rows, and the reference's. No condition.
-/
import Derived.Test.YtklfendincohjaaReal1
import Derived.Test.YtklfendincohjaaFlRow
import Derived.Deep.RegionWith
import Derived.Deep.QuietTactic
import Derived.BigQuiet
namespace Go.Proofs.Ytklfendincohjaa
open Go.RowKit
attribute [local go_sem] Fl.run_add Fl.run_mul

namespace Fl
def sameB (c d : Option Nat) : Bool := c == d
theorem bits_eq (a b : Nat) : (bitsI (can a) == bitsI (can b)) = sameB (can a) (can b) := by
  have key : ∀ a, nanB a = false → a ≠ 9221120237041090561 := by
    intro a h e; subst e; revert h; decide +kernel
  unfold sameB
  cases ha : nanB a <;> cases hb : nanB b
  · rw [can_some ha, can_some hb]
    rw [Bool.eq_iff_iff]; simp [bitsI]; omega
  · rw [can_some ha, can_none hb]
    have := key a ha
    rw [Bool.eq_iff_iff]; simp [bitsI]; omega
  · rw [can_none ha, can_some hb]
    have := key b hb
    rw [Bool.eq_iff_iff]; simp [bitsI]; omega
  · rw [can_none ha, can_none hb]; rfl

/-- A row's sum, from the first on. -/
def rowC (l : List (Option Nat)) : Option Nat := l.foldl (opC .add) (some 0)
/-- A row's sum, by halves. -/
def foldC (l : List (Option Nat)) : Option Nat :=
  if h : l.length ≤ 1 then l.headD (some 0) else opC .add (foldC (l.take ((l.length + 1) / 2))) (foldC (l.drop ((l.length + 1) / 2)))
  termination_by l.length
  decreasing_by
    · simp; omega
    · simp; omega

theorem foldC_step (l : List (Option Nat)) (h : ¬ l.length ≤ 1) : foldC l = opC .add (foldC (l.take ((l.length + 1) / 2))) (foldC (l.drop ((l.length + 1) / 2))) := by
  rw [foldC, dif_neg h]
theorem foldC_nil : foldC [] = some 0 := by rw [foldC, dif_pos (by simp)]; rfl
theorem foldC_one (x : Option Nat) : foldC [x] = x := by rw [foldC, dif_pos (by simp)]; rfl
theorem rowC_snoc (l : List (Option Nat)) (x : Option Nat) : rowC (l ++ [x]) = opC .add (rowC l) x := by unfold rowC; simp
theorem take_can (xs : List Nat) (k : Nat) (h : k < xs.length) : (xs.take (k + 1)).map can = (xs.take k).map can ++ [can xs[k]] := by
  rw [List.take_succ_eq_append_getElem h, List.map_append, List.map_singleton]
end Fl

theorem plus_gives (a b : Nat) (w : World) : Calls Try.prog 10 #[.float .f64 a, .float .f64 b] w (Fl.Gives (Fl.opC .add (Fl.can a) (Fl.can b)) w) :=
  (plus_any a b w).mono fun _ _ ⟨he, hw⟩ => ⟨_, _, he, Fl.can_opV _ _ _ _, hw⟩
theorem times_gives (a b : Nat) (w : World) : Calls Try.prog 11 #[.float .f64 a, .float .f64 b] w (Fl.Gives (Fl.opC .mul (Fl.can a) (Fl.can b)) w) :=
  (times_any a b w).mono fun _ _ ⟨he, hw⟩ => ⟨_, _, he, Fl.can_opV _ _ _ _, hw⟩

theorem same_any (a b : Nat) (w : World) :
    Calls Try.prog 18 #[.float .f64 a, .float .f64 b] w fun e w' => e = .returned (.bool (Fl.sameB (Fl.can a) (Fl.can b))) ∧ w = w' := by
  rw [← Fl.bits_eq]
  go_enter Try.func18, Try.ntmps18
  go_wp2_with (go_at_call 12; refine (bits_any _ _).mono ?_; rintro e w' ⟨rfl, rfl⟩)
  go_ret
  exact ⟨rfl, rfl⟩

theorem row_any (xs : List Nat) (b off len cap : Nat) (w : World) (hl : xs.length = len) (hlc : len ≤ 4294967296) (hr : Fl.Row w b off xs) :
    Calls Try.prog 16 #[.slice (some ⟨b, off, none⟩) len cap] w (Fl.Gives (Fl.rowC (xs.map Fl.can)) w) := by
  subst hl
  have HR := hide hr
  clear hr
  go_enter Try.func16, Try.ntmps16
  go_wp2_with fail
  go_loopw [3, 8] (fun s i wr => ∃ (k r n : Nat), k ≤ xs.length ∧ s = .float .f64 r ∧ i = .int .i64 k ∧ Hid (Fl.can r = Fl.rowC ((xs.take k).map Fl.can)) ∧ wr = w.drewN n) (fun _ i _ => xs.length - (intOf i).toNat)
  case atStart => exact ⟨0, 0, 0, by omega, rfl, rfl, rfl, rfl⟩
  case round =>
    obtain ⟨k, r, n, hk, rfl, rfl, HC, rfl⟩ := hrel
    by_cases hlt : k < xs.length
    · have hcell := HR.out k hlt
      go_wp2_with (go_at_call 10; refine (plus_gives _ _ _).mono ?_; rintro e w' ⟨r', n', rfl, hc, rfl⟩; have HC' := hide hc; clear hc)
      go_roundw
      case rel => exact ⟨k + 1, r', n + n', by omega, rfl, by go_num, by show _ = _; rw [Fl.take_can xs k hlt, Fl.rowC_snoc, ← HC.out]; exact HC'.out, rfl⟩
      case measure => simp [intOf]; omega
    · go_wp2_with fail
      go_ret
      have : k = xs.length := by omega
      subst this
      exact ⟨_, _, rfl, by rw [HC.out, List.take_length], rfl⟩

set_option maxHeartbeats 2000000 in
theorem halves_any (k : Nat) : ∀ (xs : List Nat) (b off len cap : Nat) (w : World), xs.length = len → 1 ≤ len → len ≤ k → len ≤ cap → len ≤ 4294967296 → Fl.Row w b off xs →
    Calls Try.prog 25 #[.slice (some ⟨b, off, none⟩) len cap, .func (.func 10) #[] #[]] w (Fl.Gives (Fl.foldC (xs.map Fl.can)) w) := by
  induction k with
  | zero => intro xs b off len cap w _ h1 h0; omega
  | succ k ih =>
    intro xs b off len cap w hl h1 hk hlc hcap hr
    by_cases hone : len = 1
    · subst hone
      have hc : w.cell? ⟨b, off, none⟩ = some (.float .f64 (xs.getD 0 0)) := hr 0 (by omega)
      have HL := hide hl
      have HR := hide hr
      clear hl hr
      go_enter Try.func25, Try.ntmps25
      go_wp2
      go_ret
      refine ⟨_, 0, rfl, ?_, rfl⟩
      have h := HL.out
      match xs, h with
      | [x], _ => rw [List.map_singleton, Fl.foldC_one]; rfl
    · have h1' : ((len : Int) == 1) = false := by simp; omega
      have H1 : ∀ W, Fl.Row W b off (xs.take ((len + 1) / 2)) → Calls Try.prog 25 #[.slice (some ⟨b, off, none⟩) ((len + 1) / 2) cap, .func (.func 10) #[] #[]] W (Fl.Gives (Fl.foldC ((xs.take ((len + 1) / 2)).map Fl.can)) W) :=
        fun W hW => ih _ _ _ _ _ W (by simp; omega) (by omega) (by omega) (by omega) (by omega) hW
      have H2 : ∀ W, Fl.Row W b (off + (len + 1) / 2) (xs.drop ((len + 1) / 2)) → Calls Try.prog 25 #[.slice (some ⟨b, off + (len + 1) / 2, none⟩) (len - (len + 1) / 2) (cap - (len + 1) / 2), .func (.func 10) #[] #[]] W (Fl.Gives (Fl.foldC ((xs.drop ((len + 1) / 2)).map Fl.can)) W) :=
        fun W hW => ih _ _ _ _ _ W (by simp; omega) (by omega) (by omega) (by omega) (by omega) hW
      have R1 : Fl.Row w b off (xs.take ((len + 1) / 2)) := hr.take _
      have R2 : Fl.Row w b (off + (len + 1) / 2) (xs.drop ((len + 1) / 2)) := hr.drop _
      have HE : Hid (Fl.foldC (xs.map Fl.can) = Fl.opC .add (Fl.foldC ((xs.take ((len + 1) / 2)).map Fl.can)) (Fl.foldC ((xs.drop ((len + 1) / 2)).map Fl.can))) := by
        show _ = _
        rw [Fl.foldC_step _ (by simp; omega), List.length_map, hl, ← List.map_take, ← List.map_drop]
      have HH1 := hide H1
      have HH2 := hide H2
      have HR1 := hide R1
      have HR2 := hide R2
      have hc1 : (len + 1) / 2 < cap := by omega
      have hc2 : (len + 1) / 2 ≤ len := by omega
      have hc4 : cap ≠ (len + 1) / 2 := by omega
      clear hl hr ih hone H1 H2 R1 R2
      go_enter Try.func25, Try.ntmps25
      go_wp2_with fail
      go_region_with (first | (go_at_call 10; refine (plus_gives _ _ _).mono ?_; rintro e w' ⟨r3, n3, rfl, hc3, rfl⟩; have HC3 := hide hc3; clear hc3) | (go_at_call 25; (with_reducible refine (HH1.out _ ?_).mono ?_); exact HR1.out; rintro e w' ⟨r1, n1, rfl, hc1, rfl⟩; have HC1 := hide hc1; clear hc1) | (go_at_call 25; (with_reducible refine (HH2.out _ ?_).mono ?_); exact HR2.out; rintro e w' ⟨r2, n2, rfl, hc2, rfl⟩; have HC2 := hide hc2; clear hc2))
      all_goals
        go_wp2_with fail
        go_ret
        refine ⟨_, _, rfl, ?_, rfl⟩
        rw [HE.out, ← HC1.out, ← HC2.out]
        exact HC3.out
end Go.Proofs.Ytklfendincohjaa
