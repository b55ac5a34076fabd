/-
  No cell of these rows narrows 'for every input' (looked for: loops, veiled, ifaces, maps, wideKeys, modest, calm, conditions, laid).
  DERIVED. THE GIVEN ROWS OF THIS SEAT. 4 by the template 'for every input the law returns true; each argument reads behind the call as it read before'; 0 by the template 'total and deterministic' (their statements: YtegofhmkebbinaaTotals.lean).
  GIVEN WITH THE SEED: the statements are not yours to turn. If you find one false, say at which input.
  Laid BY PROGRAM, IN A SANDBOX (cutbox-rows.mjs): the forced cells as the released guide's own fill.sh prints them over the translation 653ff275c4851fef… (all of the seat's roots in one cut). By AI agents, Wed Nov 11 2026. No macro, syntax, notation, axiom, sorry.
-/
import Derived.Test.YtegofhmkebbinaaChecked
import GoSem.Claim
import GoSem.ClaimJoined
import GoSem.ClaimMapViews
import Derived.JoinedTies
import Derived.KernelRfl
namespace Go.Proofs.Ytegofhmkebbinaa
/- THE CELL 'sum', in the pinned program and in every row, IS THE sha256 OF THE DUMP (.gsa) THAT YtegofhmkebbinaaProg.lean LOADS. Nothing in Lean hashes anything: it is a label: what it is worth is what the hold of that sum in a sandbox is worth. -/
noncomputable def Try.pinned : Pinned := { name := "ytegofhmkebbinaa", sum := "653ff275c4851fef63d7480330462cb17cb7d4fa2a60139721418a60aa9bca6e", checked := Try.checked }
namespace Rows
def none {H : Type} : Left H := { results := [], args := [] }

/-- 'backstitchlaw9.HookDoes': WHATEVER THE INPUT: true; the input reads as it did. -/
def hookDoesSpec : ChangeSpec := { name := "hookDoes", fn := fun _ => fun
  | [d1, d2] => { results := [.lit (.bool true)], args := [d1, d2] }
  | _ => none }
def hookDoesRow : OpenClaim := { program := "ytegofhmkebbinaa", sum := "653ff275c4851fef63d7480330462cb17cb7d4fa2a60139721418a60aa9bca6e", func := "backstitch/backstitchlaw9.HookDoes", spec := "hookDoes", inPlace := ["math.Float64bits", "math.Float64frombits"], unfollowed := true, recurses := true, apart := false }
def HookDoesSaid : Prop := hookDoesRow.holds Try.pinned (OpenSpec.ofChange hookDoesSpec)

/-- ITS FALSE NEIGHBOUR: 'it returns false'. Refute it at one input. -/
def hookDoesWrong : ChangeSpec := { name := "hookDoes", fn := fun _ => fun
  | [d1, d2] => { results := [.lit (.bool false)], args := [d1, d2] }
  | _ => none }
def HookDoesWrongFalsely : Prop := hookDoesRow.holds Try.pinned (OpenSpec.ofChange hookDoesWrong)

/-- 'backstitchlaw9.HookParts': WHATEVER THE INPUT: true; the input reads as it did. -/
def hookPartsSpec : ChangeSpec := { name := "hookParts", fn := fun _ => fun
  | [d1, d2, d3] => { results := [.lit (.bool true)], args := [d1, d2, d3] }
  | _ => none }
def hookPartsRow : OpenClaim := { program := "ytegofhmkebbinaa", sum := "653ff275c4851fef63d7480330462cb17cb7d4fa2a60139721418a60aa9bca6e", func := "backstitch/backstitchlaw9.HookParts", spec := "hookParts", inPlace := ["math.Float64bits", "math.Float64frombits"], unfollowed := true, recurses := true, apart := false }
def HookPartsSaid : Prop := hookPartsRow.holds Try.pinned (OpenSpec.ofChange hookPartsSpec)

/-- ITS FALSE NEIGHBOUR: 'it returns false'. Refute it at one input. -/
def hookPartsWrong : ChangeSpec := { name := "hookParts", fn := fun _ => fun
  | [d1, d2, d3] => { results := [.lit (.bool false)], args := [d1, d2, d3] }
  | _ => none }
def HookPartsWrongFalsely : Prop := hookPartsRow.holds Try.pinned (OpenSpec.ofChange hookPartsWrong)

/-- 'backstitchlaw9.HookScales': WHATEVER THE INPUT: true; the input reads as it did. -/
def hookScalesSpec : ChangeSpec := { name := "hookScales", fn := fun _ => fun
  | [d1, d2, d3] => { results := [.lit (.bool true)], args := [d1, d2, d3] }
  | _ => none }
def hookScalesRow : OpenClaim := { program := "ytegofhmkebbinaa", sum := "653ff275c4851fef63d7480330462cb17cb7d4fa2a60139721418a60aa9bca6e", func := "backstitch/backstitchlaw9.HookScales", spec := "hookScales", inPlace := ["math.Float64bits", "math.Float64frombits"], unfollowed := true, recurses := true, apart := false }
def HookScalesSaid : Prop := hookScalesRow.holds Try.pinned (OpenSpec.ofChange hookScalesSpec)

/-- ITS FALSE NEIGHBOUR: 'it returns false'. Refute it at one input. -/
def hookScalesWrong : ChangeSpec := { name := "hookScales", fn := fun _ => fun
  | [d1, d2, d3] => { results := [.lit (.bool false)], args := [d1, d2, d3] }
  | _ => none }
def HookScalesWrongFalsely : Prop := hookScalesRow.holds Try.pinned (OpenSpec.ofChange hookScalesWrong)

/-- 'backstitchlaw9.HookKnown': WHATEVER THE INPUT: true; the input reads as it did. -/
def hookKnownSpec : ChangeSpec := { name := "hookKnown", fn := fun _ => fun
  | [] => { results := [.lit (.bool true)], args := [] }
  | _ => none }
def hookKnownRow : OpenClaim := { program := "ytegofhmkebbinaa", sum := "653ff275c4851fef63d7480330462cb17cb7d4fa2a60139721418a60aa9bca6e", func := "backstitch/backstitchlaw9.HookKnown", spec := "hookKnown", inPlace := ["math.Float64bits", "math.Float64frombits"], unfollowed := true, recurses := true, apart := false }
def HookKnownSaid : Prop := hookKnownRow.holds Try.pinned (OpenSpec.ofChange hookKnownSpec)

/-- ITS FALSE NEIGHBOUR: 'it returns false'. Refute it at one input. -/
def hookKnownWrong : ChangeSpec := { name := "hookKnown", fn := fun _ => fun
  | [] => { results := [.lit (.bool false)], args := [] }
  | _ => none }
def HookKnownWrongFalsely : Prop := hookKnownRow.holds Try.pinned (OpenSpec.ofChange hookKnownWrong)

/- THE SECOND FORM. 'bulk': how many values and letters a reading holds, each counted each time it is reached (what is shared counts as often as it is met; a slice's spare places count too). A statement '..UptoSaid' is the law's where the arguments, and the package variables that the reading takes, are together of bulk at most 1048576: NARROWER than '..Said'. Prove '..Said' where nothing that the law and all that it calls make is longer than what came in: it says more and counts as full. Else prove '..UptoSaid'. A law counts once. -/
mutual
def uptoBulk {H : Type} : DataW H → Nat
  | .lit (.string bytes) => bytes.length + 1
  | .lit _ => 1
  | .nil => 1
  | .ptr d => uptoBulk d + 1
  | .slice elems spare => uptoBulkAll elems + uptoBulkAll spare + 1
  | .agg parts => uptoBulkAll parts + 1
  | .iface _ d => uptoBulk d + 1
  | .map entries => uptoBulkEntries entries + 1
  | .held _ => 1
def uptoBulkAll {H : Type} : List (DataW H) → Nat
  | [] => 0
  | d :: r => uptoBulk d + uptoBulkAll r
def uptoBulkEntries {H : Type} : List (Lit × DataW H) → Nat
  | [] => 0
  | x :: r => uptoBulkEntry x + uptoBulkEntries r
def uptoBulkEntry {H : Type} : Lit × DataW H → Nat
  | (.string bytes, d) => bytes.length + uptoBulk d + 1
  | (_, d) => uptoBulk d + 1
 end
def uptoSmall : (H : Type) → List (DataW H) → Bool := fun _ ds => decide (uptoBulkAll ds ≤ 1048576)
def OpenSpec.upto (s : _root_.Go.ChangeSpec) : _root_.Go.OpenSpec := { _root_.Go.OpenSpec.ofChange s with cond := some uptoSmall }

/-- 'backstitchlaw9.HookDoes', WHERE WHAT IT READS IS OF BULK AT MOST 1048576: true; the input reads as it did. -/
def hookDoesUptoRow : OpenClaim := { program := "ytegofhmkebbinaa", sum := "653ff275c4851fef63d7480330462cb17cb7d4fa2a60139721418a60aa9bca6e", func := "backstitch/backstitchlaw9.HookDoes", spec := "hookDoes", inPlace := ["math.Float64bits", "math.Float64frombits"], unfollowed := true, recurses := true, apart := false, narrowed := true }
def HookDoesUptoSaid : Prop := hookDoesUptoRow.holds Try.pinned (OpenSpec.upto hookDoesSpec)

/-- 'backstitchlaw9.HookParts', WHERE WHAT IT READS IS OF BULK AT MOST 1048576: true; the input reads as it did. -/
def hookPartsUptoRow : OpenClaim := { program := "ytegofhmkebbinaa", sum := "653ff275c4851fef63d7480330462cb17cb7d4fa2a60139721418a60aa9bca6e", func := "backstitch/backstitchlaw9.HookParts", spec := "hookParts", inPlace := ["math.Float64bits", "math.Float64frombits"], unfollowed := true, recurses := true, apart := false, narrowed := true }
def HookPartsUptoSaid : Prop := hookPartsUptoRow.holds Try.pinned (OpenSpec.upto hookPartsSpec)

/-- 'backstitchlaw9.HookScales', WHERE WHAT IT READS IS OF BULK AT MOST 1048576: true; the input reads as it did. -/
def hookScalesUptoRow : OpenClaim := { program := "ytegofhmkebbinaa", sum := "653ff275c4851fef63d7480330462cb17cb7d4fa2a60139721418a60aa9bca6e", func := "backstitch/backstitchlaw9.HookScales", spec := "hookScales", inPlace := ["math.Float64bits", "math.Float64frombits"], unfollowed := true, recurses := true, apart := false, narrowed := true }
def HookScalesUptoSaid : Prop := hookScalesUptoRow.holds Try.pinned (OpenSpec.upto hookScalesSpec)

/-- 'backstitchlaw9.HookKnown', WHERE WHAT IT READS IS OF BULK AT MOST 1048576: true; the input reads as it did. -/
def hookKnownUptoRow : OpenClaim := { program := "ytegofhmkebbinaa", sum := "653ff275c4851fef63d7480330462cb17cb7d4fa2a60139721418a60aa9bca6e", func := "backstitch/backstitchlaw9.HookKnown", spec := "hookKnown", inPlace := ["math.Float64bits", "math.Float64frombits"], unfollowed := true, recurses := true, apart := false, narrowed := true }
def HookKnownUptoSaid : Prop := hookKnownUptoRow.holds Try.pinned (OpenSpec.upto hookKnownSpec)

end Rows
end Go.Proofs.Ytegofhmkebbinaa
