/-
  A method called through an interface value whose dynamic type is a pointer: which function is called, on what receiver. Plain laws over any program. No condition.
-/
import Derived.WalkKit
import Derived.WalkLawsBesides
namespace Go.Proofs.Ytlakffjodlandaa
open Go.RowKit

theorem ssa_ok (P : Program) (t : TypeId) (a : Addr) (x y : ByteArray) (w : World) : (Builtin.ssaWrapNilChk_ #[t] t #[.pointer (some a), .string x, .string y]).run P w = .ok (.pointer (some a)) w := rfl

section
variable {P : Program} {w : World}
/-- A method of the pointed type: the receiver is loaded. -/
theorem run_method_load {f : Nat} {t elem : TypeId} {a : Addr} {v : Value} {name : String} {func : FuncId} (hf : 0 < f)
    (hi : (P.info? t).bind (fun i => (i.methods.find? (·.name == name)).map fun m => (m.func, m.path.toList)) = some (some (func, false), []))
    (ht : P.underlying t = some (.pointer elem)) (he : ∀ w, (isAgg elem).run P w = .ok false w) (hc : w.cell? a = some v) :
    (method f t (.pointer (some a)) name).run P w = .ok (func, v) w := by
  obtain ⟨k, rfl⟩ : ∃ k, f = k + 1 := ⟨f - 1, by omega⟩
  obtain ⟨i, hi1, hi2⟩ := Option.bind_eq_some_iff.1 hi
  obtain ⟨m, hm1, hm2⟩ := Option.map_eq_some_iff.1 hi2
  simp only [Prod.mk.injEq] at hm2
  obtain ⟨hm2, hm3⟩ := hm2
  have hpath : m.path = #[] := Array.toList_eq_nil_iff.1 hm3
  simp [method, typeInfo, hi1, hm1, hm2, follow, receiverAt, run_underlying ht, Place.get, hpath, strVal, ssa_ok, loadVar, he, asAddr, hc]
/-- A method of the pointer itself. -/
theorem run_method_ptr {f : Nat} {t elem : TypeId} {a : Addr} {name : String} {func : FuncId} (hf : 0 < f)
    (hi : (P.info? t).bind (fun i => (i.methods.find? (·.name == name)).map fun m => (m.func, m.path.toList)) = some (some (func, true), []))
    (ht : P.underlying t = some (.pointer elem)) :
    (method f t (.pointer (some a)) name).run P w = .ok (func, .pointer (some a)) w := by
  obtain ⟨k, rfl⟩ : ∃ k, f = k + 1 := ⟨f - 1, by omega⟩
  obtain ⟨i, hi1, hi2⟩ := Option.bind_eq_some_iff.1 hi
  obtain ⟨m, hm1, hm2⟩ := Option.map_eq_some_iff.1 hi2
  simp only [Prod.mk.injEq] at hm2
  obtain ⟨hm2, hm3⟩ := hm2
  simp [method, typeInfo, hi1, hm1, hm2, hm3, follow, receiverAt, run_underlying ht, Place.get]
end
end Go.Proofs.Ytlakffjodlandaa
