/-
  The folds and rows of any slice of floats that came in; the statement RealFolds' walk. No condition.
-/
import Derived.Test.YtklfendincohjaaReal4
namespace Go.Proofs.Ytklfendincohjaa
open Go.RowKit
attribute [local go_sem] Fl.run_add Fl.run_mul


theorem fold_zero (a : Option Addr) (cap : Nat) (w : World) : Calls Try.prog 13 #[.slice a 0 cap] w (Fl.Gives (some 0) w) := by
  go_enter Try.func13, Try.ntmps13
  go_wp2_with fail
  go_ret
  exact ⟨0, 0, rfl, rfl, rfl⟩
theorem reffold_zero (a : Option Addr) (cap : Nat) (w : World) : Calls Try.prog 15 #[.slice a 0 cap] w (Fl.Gives (some 0) w) := by
  go_enter Try.func15, Try.ntmps15
  go_wp2_with fail
  go_ret
  exact ⟨0, 0, rfl, rfl, rfl⟩
theorem row_zero (a : Option Addr) (cap : Nat) (w : World) : Calls Try.prog 16 #[.slice a 0 cap] w (Fl.Gives (some 0) w) := by
  go_enter Try.func16, Try.ntmps16
  go_wp2_with fail
  go_loopw [3, 8] (fun s i wr => s = .float .f64 0 ∧ i = .int .i64 0 ∧ wr = w) (fun _ i _ => 0)
  case atStart => exact ⟨rfl, rfl, rfl⟩
  case round =>
    obtain ⟨rfl, rfl, rfl⟩ := hrel
    go_wp2_with fail
    go_ret
    exact ⟨0, 0, rfl, rfl, rfl⟩
theorem refrow_zero (a : Option Addr) (cap : Nat) (w : World) : Calls Try.prog 17 #[.slice a 0 cap] w (Fl.Gives (some 0) w) := by
  go_enter Try.func17, Try.ntmps17
  go_wp2_with fail
  go_loopw [3, 4] (fun s i wr => s = .float .f64 0 ∧ i = .int .i64 0 ∧ wr = w) (fun _ i _ => 0)
  case atStart => exact ⟨rfl, rfl, rfl⟩
  case round =>
    obtain ⟨rfl, rfl, rfl⟩ := hrel
    go_wp2_with fail
    go_ret
    exact ⟨0, 0, rfl, rfl, rfl⟩

theorem fold_sl (a : Option Addr) (len cap : Nat) (xs : List Nat) (w : World) (hm : len ≤ 4294967296) (h : Fl.Sl w a len cap xs) :
    Calls Try.prog 13 #[.slice a len cap] w (Fl.Gives (Fl.foldC (xs.map Fl.can)) w) := by
  obtain ⟨hl, hc, rfl | ⟨b, off, rfl, hr⟩⟩ := h
  · obtain rfl := List.length_eq_zero_iff.1 hl
    rw [List.map_nil, Fl.foldC_nil]
    exact fold_zero a cap w
  · exact fold_any xs b off len cap w hl hc hm hr
theorem reffold_sl (a : Option Addr) (len cap : Nat) (xs : List Nat) (w : World) (hm : len ≤ 4294967296) (h : Fl.Sl w a len cap xs) :
    Calls Try.prog 15 #[.slice a len cap] w (Fl.Gives (Fl.foldC (xs.map Fl.can)) w) := by
  obtain ⟨hl, hc, rfl | ⟨b, off, rfl, hr⟩⟩ := h
  · obtain rfl := List.length_eq_zero_iff.1 hl
    rw [List.map_nil, Fl.foldC_nil]
    exact reffold_zero a cap w
  · by_cases h0 : len = 0
    · subst h0
      obtain rfl := List.length_eq_zero_iff.1 hl
      rw [List.map_nil, Fl.foldC_nil]
      exact reffold_zero _ cap w
    · exact reffold_any len xs b off len cap w hl (by omega) (Nat.le_refl _) hc hm hr
theorem row_sl (a : Option Addr) (len cap : Nat) (xs : List Nat) (w : World) (hm : len ≤ 4294967296) (h : Fl.Sl w a len cap xs) :
    Calls Try.prog 16 #[.slice a len cap] w (Fl.Gives (Fl.rowC (xs.map Fl.can)) w) := by
  obtain ⟨hl, hc, rfl | ⟨b, off, rfl, hr⟩⟩ := h
  · obtain rfl := List.length_eq_zero_iff.1 hl
    exact row_zero a cap w
  · exact row_any xs b off len cap w hl hm hr
theorem refrow_sl (a : Option Addr) (len cap : Nat) (xs : List Nat) (w : World) (hm : len ≤ 4294967296) (h : Fl.Sl w a len cap xs) :
    Calls Try.prog 17 #[.slice a len cap] w (Fl.Gives (Fl.rowC (xs.map Fl.can)) w) := by
  obtain ⟨hl, hc, rfl | ⟨b, off, rfl, hr⟩⟩ := h
  · obtain rfl := List.length_eq_zero_iff.1 hl
    exact refrow_zero a cap w
  · exact refrow_any xs b off len cap w hl hm hr
end Go.Proofs.Ytklfendincohjaa
