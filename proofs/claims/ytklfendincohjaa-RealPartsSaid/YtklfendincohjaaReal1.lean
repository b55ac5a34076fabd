/-
  The contracts of package real's small functions: Plus, Times, Bits, Same, and the reference's Bits, Same. No condition.
-/
import Derived.Test.YtklfendincohjaaRows
import Derived.Test.YtklfendincohjaaFl
import Derived.Laws.Externs
import Derived.KernelRfl
namespace Go.Proofs.Ytklfendincohjaa
open Go.RowKit
attribute [local go_sem] Fl.run_add Fl.run_mul

namespace Fl
/-- The bits of a float, all NaNs taken as one. -/
def bitsI (c : Option Nat) : Int := match c with | none => 9221120237041090561 | some b => b
theorem ne_self (x : Nat) : (Ieee.double.order x x != some .eq) = nanB x := by
  have h := order_self x
  cases hn : nanB x <;> simp [bne, h, hn]
end Fl

theorem frombits_run (n : Int) (w : World) : (callFunc 20 #[.int .u64 n]).run Try.prog w = .ok (.value (.float .f64 n.toNat)) w := by
  rw [run_callFunc_extern Try.func20 (by kernel_rfl) (by kernel_rfl) (by kernel_rfl) (e := Extern.MathFloatBits.float64frombits) (by kernel_rfl)]
  rfl
theorem bits_run (b : Nat) (w : World) : (callFunc 24 #[.float .f64 b]).run Try.prog w = .ok (.value (.int .u64 b)) w := by
  rw [run_callFunc_extern Try.func24 (by kernel_rfl) (by kernel_rfl) (by kernel_rfl) (e := Extern.MathFloatBits.float64bits) (by kernel_rfl)]
  rfl

theorem plus_any (a b : Nat) (w : World) :
    Calls Try.prog 10 #[.float .f64 a, .float .f64 b] w fun e w' => e = .returned (.float .f64 (Fl.opV .add w a b)) ∧ w.drewN (Fl.opN .add a b) = w' := by
  go_enter Try.func10, Try.ntmps10
  go_wp2
  go_ret
  exact ⟨rfl, rfl⟩
theorem times_any (a b : Nat) (w : World) :
    Calls Try.prog 11 #[.float .f64 a, .float .f64 b] w fun e w' => e = .returned (.float .f64 (Fl.opV .mul w a b)) ∧ w.drewN (Fl.opN .mul a b) = w' := by
  go_enter Try.func11, Try.ntmps11
  go_wp2
  go_ret
  exact ⟨rfl, rfl⟩

theorem bits_any (a : Nat) (w : World) :
    Calls Try.prog 12 #[.float .f64 a] w fun e w' => e = .returned (.int .u64 (Fl.bitsI (Fl.can a))) ∧ w = w' := by
  have hb := bits_run
  have hne : (FloatKind.f64.format.order a a != some .eq) = Fl.nanB a := Fl.ne_self a
  cases hn : Fl.nanB a with
  | true =>
    rw [Fl.can_none hn]
    rw [hn] at hne
    go_enter Try.func12, Try.ntmps12
    go_wp2
    go_ret
    exact ⟨rfl, rfl⟩
  | false =>
    rw [Fl.can_some hn]
    rw [hn] at hne
    go_enter Try.func12, Try.ntmps12
    go_wp2
    go_ret
    exact ⟨rfl, rfl⟩
end Go.Proofs.Ytklfendincohjaa
