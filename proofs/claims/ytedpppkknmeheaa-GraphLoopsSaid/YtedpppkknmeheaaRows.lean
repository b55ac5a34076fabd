/-
  No cell of these rows narrows 'for every input' (looked for: loops, veiled, ifaces, maps, wideKeys, modest, calm, conditions, laid).
  DERIVED. THE GIVEN ROWS OF THIS SEAT. 6 by the template 'for every input the law returns true; each argument reads behind the call as it read before'; 0 by the template 'total and deterministic' (their statements: YtedpppkknmeheaaTotals.lean).
  GIVEN WITH THE SEED: the statements are not yours to turn. If you find one false, say at which input.
  Laid BY PROGRAM, IN A SANDBOX (cutbox-rows.mjs): the forced cells as the released guide's own fill.sh prints them over the translation db578af3d9ef0715… (all of the seat's roots in one cut). By AI agents, Wed Nov 11 2026. No macro, syntax, notation, axiom, sorry.
-/
import Derived.Test.YtedpppkknmeheaaChecked
import GoSem.Claim
import GoSem.ClaimJoined
import GoSem.ClaimMapViews
import Derived.JoinedTies
import Derived.KernelRfl
namespace Go.Proofs.Ytedpppkknmeheaa
/- THE CELL 'sum', in the pinned program and in every row, IS THE sha256 OF THE DUMP (.gsa) THAT YtedpppkknmeheaaProg.lean LOADS. Nothing in Lean hashes anything: it is a label: what it is worth is what the hold of that sum in a sandbox is worth. -/
noncomputable def Try.pinned : Pinned := { name := "ytedpppkknmeheaa", sum := "db578af3d9ef07150c41fd7d666ced8c17dc5dc953585e620853bb2accfb96c2", checked := Try.checked }
namespace Rows
def none {H : Type} : Left H := { results := [], args := [] }

/-- 'backstitchlaw10.GraphChecks': WHATEVER THE INPUT: true; the input reads as it did. -/
def graphChecksSpec : ChangeSpec := { name := "graphChecks", fn := fun _ => fun
  | [d1, d2] => { results := [.lit (.bool true)], args := [d1, d2] }
  | _ => none }
def graphChecksRow : OpenClaim := { program := "ytedpppkknmeheaa", sum := "db578af3d9ef07150c41fd7d666ced8c17dc5dc953585e620853bb2accfb96c2", func := "backstitch/backstitchlaw10.GraphChecks", spec := "graphChecks", unfollowed := true, recurses := true, apart := false }
def GraphChecksSaid : Prop := graphChecksRow.holds Try.pinned (OpenSpec.ofChange graphChecksSpec)

/-- ITS FALSE NEIGHBOUR: 'it returns false'. Refute it at one input. -/
def graphChecksWrong : ChangeSpec := { name := "graphChecks", fn := fun _ => fun
  | [d1, d2] => { results := [.lit (.bool false)], args := [d1, d2] }
  | _ => none }
def GraphChecksWrongFalsely : Prop := graphChecksRow.holds Try.pinned (OpenSpec.ofChange graphChecksWrong)

/-- 'backstitchlaw10.GraphDeep': WHATEVER THE INPUT: true; the input reads as it did. -/
def graphDeepSpec : ChangeSpec := { name := "graphDeep", fn := fun _ => fun
  | [d1, d2, d3] => { results := [.lit (.bool true)], args := [d1, d2, d3] }
  | _ => none }
def graphDeepRow : OpenClaim := { program := "ytedpppkknmeheaa", sum := "db578af3d9ef07150c41fd7d666ced8c17dc5dc953585e620853bb2accfb96c2", func := "backstitch/backstitchlaw10.GraphDeep", spec := "graphDeep", unfollowed := true, recurses := true, apart := false }
def GraphDeepSaid : Prop := graphDeepRow.holds Try.pinned (OpenSpec.ofChange graphDeepSpec)

/-- ITS FALSE NEIGHBOUR: 'it returns false'. Refute it at one input. -/
def graphDeepWrong : ChangeSpec := { name := "graphDeep", fn := fun _ => fun
  | [d1, d2, d3] => { results := [.lit (.bool false)], args := [d1, d2, d3] }
  | _ => none }
def GraphDeepWrongFalsely : Prop := graphDeepRow.holds Try.pinned (OpenSpec.ofChange graphDeepWrong)

/-- 'backstitchlaw10.GraphKnown': WHATEVER THE INPUT: true; the input reads as it did. -/
def graphKnownSpec : ChangeSpec := { name := "graphKnown", fn := fun _ => fun
  | [] => { results := [.lit (.bool true)], args := [] }
  | _ => none }
def graphKnownRow : OpenClaim := { program := "ytedpppkknmeheaa", sum := "db578af3d9ef07150c41fd7d666ced8c17dc5dc953585e620853bb2accfb96c2", func := "backstitch/backstitchlaw10.GraphKnown", spec := "graphKnown", unfollowed := true, recurses := true, apart := false }
def GraphKnownSaid : Prop := graphKnownRow.holds Try.pinned (OpenSpec.ofChange graphKnownSpec)

/-- ITS FALSE NEIGHBOUR: 'it returns false'. Refute it at one input. -/
def graphKnownWrong : ChangeSpec := { name := "graphKnown", fn := fun _ => fun
  | [] => { results := [.lit (.bool false)], args := [] }
  | _ => none }
def GraphKnownWrongFalsely : Prop := graphKnownRow.holds Try.pinned (OpenSpec.ofChange graphKnownWrong)

/-- 'backstitchlaw10.GraphLoops': WHATEVER THE INPUT: true; the input reads as it did. -/
def graphLoopsSpec : ChangeSpec := { name := "graphLoops", fn := fun _ => fun
  | [d] => { results := [.lit (.bool true)], args := [d] }
  | _ => none }
def graphLoopsRow : OpenClaim := { program := "ytedpppkknmeheaa", sum := "db578af3d9ef07150c41fd7d666ced8c17dc5dc953585e620853bb2accfb96c2", func := "backstitch/backstitchlaw10.GraphLoops", spec := "graphLoops", unfollowed := true, recurses := true, apart := false }
def GraphLoopsSaid : Prop := graphLoopsRow.holds Try.pinned (OpenSpec.ofChange graphLoopsSpec)

/-- ITS FALSE NEIGHBOUR: 'it returns false'. Refute it at one input. -/
def graphLoopsWrong : ChangeSpec := { name := "graphLoops", fn := fun _ => fun
  | [d] => { results := [.lit (.bool false)], args := [d] }
  | _ => none }
def GraphLoopsWrongFalsely : Prop := graphLoopsRow.holds Try.pinned (OpenSpec.ofChange graphLoopsWrong)

/-- 'backstitchlaw10.GraphFirst': WHATEVER THE INPUT: true; the input reads as it did. -/
def graphFirstSpec : ChangeSpec := { name := "graphFirst", fn := fun _ => fun
  | [d1, d2, d3] => { results := [.lit (.bool true)], args := [d1, d2, d3] }
  | _ => none }
def graphFirstRow : OpenClaim := { program := "ytedpppkknmeheaa", sum := "db578af3d9ef07150c41fd7d666ced8c17dc5dc953585e620853bb2accfb96c2", func := "backstitch/backstitchlaw10.GraphFirst", spec := "graphFirst", unfollowed := true, recurses := true, apart := false }
def GraphFirstSaid : Prop := graphFirstRow.holds Try.pinned (OpenSpec.ofChange graphFirstSpec)

/-- ITS FALSE NEIGHBOUR: 'it returns false'. Refute it at one input. -/
def graphFirstWrong : ChangeSpec := { name := "graphFirst", fn := fun _ => fun
  | [d1, d2, d3] => { results := [.lit (.bool false)], args := [d1, d2, d3] }
  | _ => none }
def GraphFirstWrongFalsely : Prop := graphFirstRow.holds Try.pinned (OpenSpec.ofChange graphFirstWrong)

/-- 'backstitchlaw10.GraphWorks': WHATEVER THE INPUT: true; the input reads as it did. -/
def graphWorksSpec : ChangeSpec := { name := "graphWorks", fn := fun _ => fun
  | [d1, d2, d3] => { results := [.lit (.bool true)], args := [d1, d2, d3] }
  | _ => none }
def graphWorksRow : OpenClaim := { program := "ytedpppkknmeheaa", sum := "db578af3d9ef07150c41fd7d666ced8c17dc5dc953585e620853bb2accfb96c2", func := "backstitch/backstitchlaw10.GraphWorks", spec := "graphWorks", unfollowed := true, recurses := true, apart := false }
def GraphWorksSaid : Prop := graphWorksRow.holds Try.pinned (OpenSpec.ofChange graphWorksSpec)

/-- ITS FALSE NEIGHBOUR: 'it returns false'. Refute it at one input. -/
def graphWorksWrong : ChangeSpec := { name := "graphWorks", fn := fun _ => fun
  | [d1, d2, d3] => { results := [.lit (.bool false)], args := [d1, d2, d3] }
  | _ => none }
def GraphWorksWrongFalsely : Prop := graphWorksRow.holds Try.pinned (OpenSpec.ofChange graphWorksWrong)

/- THE SECOND FORM. 'bulk': how many values and letters a reading holds, each counted each time it is reached (what is shared counts as often as it is met; a slice's spare places count too). A statement '..UptoSaid' is the law's where the arguments, and the package variables that the reading takes, are together of bulk at most 1048576: NARROWER than '..Said'. Prove '..Said' where nothing that the law and all that it calls make is longer than what came in: it says more and counts as full. Else prove '..UptoSaid'. A law counts once. -/
mutual
def uptoBulk {H : Type} : DataW H → Nat
  | .lit (.string bytes) => bytes.length + 1
  | .lit _ => 1
  | .nil => 1
  | .ptr d => uptoBulk d + 1
  | .slice elems spare => uptoBulkAll elems + uptoBulkAll spare + 1
  | .agg parts => uptoBulkAll parts + 1
  | .iface _ d => uptoBulk d + 1
  | .map entries => uptoBulkEntries entries + 1
  | .held _ => 1
def uptoBulkAll {H : Type} : List (DataW H) → Nat
  | [] => 0
  | d :: r => uptoBulk d + uptoBulkAll r
def uptoBulkEntries {H : Type} : List (Lit × DataW H) → Nat
  | [] => 0
  | x :: r => uptoBulkEntry x + uptoBulkEntries r
def uptoBulkEntry {H : Type} : Lit × DataW H → Nat
  | (.string bytes, d) => bytes.length + uptoBulk d + 1
  | (_, d) => uptoBulk d + 1
 end
def uptoSmall : (H : Type) → List (DataW H) → Bool := fun _ ds => decide (uptoBulkAll ds ≤ 1048576)
def OpenSpec.upto (s : _root_.Go.ChangeSpec) : _root_.Go.OpenSpec := { _root_.Go.OpenSpec.ofChange s with cond := some uptoSmall }

/-- 'backstitchlaw10.GraphChecks', WHERE WHAT IT READS IS OF BULK AT MOST 1048576: true; the input reads as it did. -/
def graphChecksUptoRow : OpenClaim := { program := "ytedpppkknmeheaa", sum := "db578af3d9ef07150c41fd7d666ced8c17dc5dc953585e620853bb2accfb96c2", func := "backstitch/backstitchlaw10.GraphChecks", spec := "graphChecks", unfollowed := true, recurses := true, apart := false, narrowed := true }
def GraphChecksUptoSaid : Prop := graphChecksUptoRow.holds Try.pinned (OpenSpec.upto graphChecksSpec)

/-- 'backstitchlaw10.GraphDeep', WHERE WHAT IT READS IS OF BULK AT MOST 1048576: true; the input reads as it did. -/
def graphDeepUptoRow : OpenClaim := { program := "ytedpppkknmeheaa", sum := "db578af3d9ef07150c41fd7d666ced8c17dc5dc953585e620853bb2accfb96c2", func := "backstitch/backstitchlaw10.GraphDeep", spec := "graphDeep", unfollowed := true, recurses := true, apart := false, narrowed := true }
def GraphDeepUptoSaid : Prop := graphDeepUptoRow.holds Try.pinned (OpenSpec.upto graphDeepSpec)

/-- 'backstitchlaw10.GraphKnown', WHERE WHAT IT READS IS OF BULK AT MOST 1048576: true; the input reads as it did. -/
def graphKnownUptoRow : OpenClaim := { program := "ytedpppkknmeheaa", sum := "db578af3d9ef07150c41fd7d666ced8c17dc5dc953585e620853bb2accfb96c2", func := "backstitch/backstitchlaw10.GraphKnown", spec := "graphKnown", unfollowed := true, recurses := true, apart := false, narrowed := true }
def GraphKnownUptoSaid : Prop := graphKnownUptoRow.holds Try.pinned (OpenSpec.upto graphKnownSpec)

/-- 'backstitchlaw10.GraphLoops', WHERE WHAT IT READS IS OF BULK AT MOST 1048576: true; the input reads as it did. -/
def graphLoopsUptoRow : OpenClaim := { program := "ytedpppkknmeheaa", sum := "db578af3d9ef07150c41fd7d666ced8c17dc5dc953585e620853bb2accfb96c2", func := "backstitch/backstitchlaw10.GraphLoops", spec := "graphLoops", unfollowed := true, recurses := true, apart := false, narrowed := true }
def GraphLoopsUptoSaid : Prop := graphLoopsUptoRow.holds Try.pinned (OpenSpec.upto graphLoopsSpec)

/-- 'backstitchlaw10.GraphFirst', WHERE WHAT IT READS IS OF BULK AT MOST 1048576: true; the input reads as it did. -/
def graphFirstUptoRow : OpenClaim := { program := "ytedpppkknmeheaa", sum := "db578af3d9ef07150c41fd7d666ced8c17dc5dc953585e620853bb2accfb96c2", func := "backstitch/backstitchlaw10.GraphFirst", spec := "graphFirst", unfollowed := true, recurses := true, apart := false, narrowed := true }
def GraphFirstUptoSaid : Prop := graphFirstUptoRow.holds Try.pinned (OpenSpec.upto graphFirstSpec)

/-- 'backstitchlaw10.GraphWorks', WHERE WHAT IT READS IS OF BULK AT MOST 1048576: true; the input reads as it did. -/
def graphWorksUptoRow : OpenClaim := { program := "ytedpppkknmeheaa", sum := "db578af3d9ef07150c41fd7d666ced8c17dc5dc953585e620853bb2accfb96c2", func := "backstitch/backstitchlaw10.GraphWorks", spec := "graphWorks", unfollowed := true, recurses := true, apart := false, narrowed := true }
def GraphWorksUptoSaid : Prop := graphWorksUptoRow.holds Try.pinned (OpenSpec.upto graphWorksSpec)

end Rows
end Go.Proofs.Ytedpppkknmeheaa
