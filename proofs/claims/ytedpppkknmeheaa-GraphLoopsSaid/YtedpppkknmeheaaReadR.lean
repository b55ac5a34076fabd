/-
  How graphs that came in are opened, with this more: a graph without an address has no room. No condition.
-/
import Derived.Test.YtedpppkknmeheaaReadW
namespace Go.Proofs.Ytedpppkknmeheaa
open Go.ChangeShapes Go.WideShapes Go.ChangeAt Go.RowKit

section
variable {H : Type} {enc : TypeId × Value → H} {w : World} {base : Nat} {held : Bool}
def Rms (gs : List Gr) (len : Nat) : Prop := ∀ i, i < len → (gs.getD i default).a = none → (gs.getD i default).cap = 0
theorem open_graphs_r {fuel : Nat} {a : Option Addr} {len cap : Nat} {x : DataW H × List MemPlace} (h : DataW.trod enc Try.prog w base (fun _ => true) held fuel 22 [.slice a len cap] = some x) (hw : Wt Try.prog 22 x.1) :
    cap ≤ maxLen ∧ (a = none → cap = 0) ∧ len ≤ 140737488355328 ∧ ∃ gs, Grs w a len cap gs ∧ Szs gs len ∧ Rms gs len := by
  obtain ⟨hl, hcm, hn, hr, hel⟩ := open_rows_w Try.underlying22 (K := 1) (by kernel_rfl) (by omega) h hw
  have c1 : Try.prog.cellsOf 34 = 1 := by kernel_rfl
  obtain ⟨F, hF⟩ := Go.Deep.choose_lt (α := Gr) (n := len) (p := fun i g => (∃ b off, a = some ⟨b, off, none⟩ ∧ w.cell? ⟨b, off + i, none⟩ = some (.slice g.a g.len g.cap) ∧ Nds w g.a g.len g.cap g.l) ∧ (g.len ≤ 140737488355328 ∧ ∀ k, k < g.len → (g.l.getD k default).sized) ∧ (g.a = none → g.cap = 0)) (fun i hi => by
    obtain ⟨b, off, rfl, cs, n, y, _, hc, hd, hwy⟩ := hel i hi
    obtain ⟨v0, m0, z0, e0, t0, w0⟩ := open_field_w (j := 0) (o := 0) (ft := 32) Try.underlying34 hd hwy (by kernel_rfl) (by kernel_rfl) (by omega)
    obtain ⟨ga, gl, gc, l, rfl, hN, hgl, hz⟩ := open_nodes t0 w0
    have hc0 := hc 0 _ e0
    rw [Nat.mul_one] at hc0
    exact ⟨⟨ga, gl, gc, l⟩, ⟨b, off, rfl, hc0, hN⟩, ⟨hgl, hz⟩, open_room Try.underlying32 t0⟩)
  have e : ∀ i, i < len → ((List.range len).map F).getD i default = F i := fun i hi => by simp [List.getD, hi]
  refine ⟨hcm, hn, Nat.le_trans hl (long_of hr (of_decide_eq_true (by kernel_rfl))), (List.range len).map F, ⟨by simp, hl, fun i hi => ?_⟩, fun i hi => ?_, fun i hi => ?_⟩
  · rw [e i hi]; exact (hF i hi).1
  · rw [e i hi]; exact (hF i hi).2.1
  · rw [e i hi]; exact (hF i hi).2.2
end
end Go.Proofs.Ytedpppkknmeheaa
