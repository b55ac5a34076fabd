/-
  How rows of bytes that came in are opened. A plain law over this program's types. No condition.
-/
import Derived.Test.YtedpppkknmeheaaReadW
namespace Go.Proofs.Ytedpppkknmeheaa
open Go.ChangeShapes Go.WideShapes Go.ChangeAt Go.RowKit

/-- Rows of bytes. -/
def Bs (w : World) (a : Option Addr) (len cap : Nat) (V : List (List Int)) : Prop :=
  V.length = len ∧ len ≤ cap ∧ ∀ i, i < len → ∃ b off, a = some ⟨b, off, none⟩ ∧ ∃ c n d, w.cell? ⟨b, off + i, none⟩ = some (.slice c n d) ∧ Isl w .u8 c n d (V.getD i []) ∧ n ≤ 140737488355328 ∧ ∀ x ∈ V.getD i [], 0 ≤ x ∧ x < 256
section
variable {H : Type} {enc : TypeId × Value → H} {w : World} {base : Nat} {held : Bool}
theorem open_bytes {fuel : Nat} {v : Value} {x : DataW H × List MemPlace} (h : DataW.trod enc Try.prog w base (fun _ => true) held fuel 52 [v] = some x) (hw : Wt Try.prog 52 x.1) : ∃ a n c zs, v = .slice a n c ∧ Isl w .u8 a n c zs ∧ n ≤ 140737488355328 ∧ ∀ x ∈ zs, 0 ≤ x ∧ x < 256 := by
  obtain ⟨a, n, c, rfl⟩ := slice_one Try.underlying52 h
  obtain ⟨hl, _, _, hr, _⟩ := open_rows_w Try.underlying52 (K := 1) (by kernel_rfl) (by omega) h hw
  obtain ⟨_, zs, hz, hwf⟩ := open_isl Try.underlying52 Try.underlying5 (by kernel_rfl) h
  have hb : Try.prog.bytesOf 5 = 1 := by kernel_rfl
  rw [hb] at hr
  have h2 : reachBytes < 2 ^ 47 := reachBytes_lt
  refine ⟨a, n, c, zs, rfl, hz, by omega, fun x hx => ?_⟩
  have h3 := hwf x hx
  have e1 : IntKind.u8.min = 0 := by decide
  have e2 : IntKind.u8.max = 255 := by decide
  simp [Lit.wf, e1, e2] at h3
  omega
theorem open_bytes2 {fuel : Nat} {a : Option Addr} {len cap : Nat} {x : DataW H × List MemPlace} (h : DataW.trod enc Try.prog w base (fun _ => true) held fuel 51 [.slice a len cap] = some x) (hw : Wt Try.prog 51 x.1) :
    cap ≤ maxLen ∧ (a = none → cap = 0) ∧ len ≤ 140737488355328 ∧ ∃ V, Bs w a len cap V := by
  obtain ⟨hl, hcm, hn, hr, hel⟩ := open_rows_w Try.underlying51 (K := 1) (by kernel_rfl) (by omega) h hw
  obtain ⟨F, hF⟩ := Go.Deep.choose_lt (α := List Int) (n := len) (p := fun i V => ∃ b off, a = some ⟨b, off, none⟩ ∧ ∃ c n d, w.cell? ⟨b, off + i, none⟩ = some (.slice c n d) ∧ Isl w .u8 c n d V ∧ n ≤ 140737488355328 ∧ ∀ x ∈ V, 0 ≤ x ∧ x < 256) (fun i hi => by
    obtain ⟨b, off, rfl, cs, n, y, hcl, hc, hd, hwy⟩ := hel i hi
    obtain ⟨v, rfl⟩ : ∃ v, cs = [v] := by
      match cs, hcl with
      | [v], _ => exact ⟨v, rfl⟩
    obtain ⟨c, m, d, V, rfl, hI, hm, hx⟩ := open_bytes hd hwy
    have hc0 := hc 0 _ rfl
    rw [Nat.mul_one] at hc0
    exact ⟨V, b, off, rfl, c, m, d, hc0, hI, hm, hx⟩)
  have e : ∀ i, i < len → ((List.range len).map F).getD i [] = F i := fun i hi => by simp [List.getD, hi]
  refine ⟨hcm, hn, Nat.le_trans hl (long_of hr (of_decide_eq_true (by kernel_rfl))), (List.range len).map F, ⟨by simp, hl, fun i hi => ?_⟩⟩
  rw [e i hi]; exact hF i hi
end
end Go.Proofs.Ytedpppkknmeheaa
