/-
  No cell of these rows narrows 'for every input' (looked for: loops, veiled, ifaces, maps, wideKeys, modest, calm, conditions, laid).
  DERIVED. THE GIVEN ROWS OF THIS SEAT. 6 by the template 'for every input the law returns true; each argument reads behind the call as it read before'; 0 by the template 'total and deterministic' (their statements: YtklfendincohjaaTotals.lean).
  GIVEN WITH THE SEED: the statements are not yours to turn. If you find one false, say at which input.
  Laid BY PROGRAM, IN A SANDBOX (cutbox-rows.mjs): the forced cells as the released guide's own fill.sh prints them over the translation 3ead164b206643a5… (all of the seat's roots in one cut). By AI agents, Wed Nov 11 2026. No macro, syntax, notation, axiom, sorry.
-/
import Derived.Test.YtklfendincohjaaChecked
import GoSem.Claim
import GoSem.ClaimJoined
import GoSem.ClaimMapViews
import Derived.JoinedTies
import Derived.KernelRfl
namespace Go.Proofs.Ytklfendincohjaa
/- THE CELL 'sum', in the pinned program and in every row, IS THE sha256 OF THE DUMP (.gsa) THAT YtklfendincohjaaProg.lean LOADS. Nothing in Lean hashes anything: it is a label: what it is worth is what the hold of that sum in a sandbox is worth. -/
noncomputable def Try.pinned : Pinned := { name := "ytklfendincohjaa", sum := "3ead164b206643a5d619492047ca03237db3e41e1adc7165536a646f8af5e3bf", checked := Try.checked }
namespace Rows
def none {H : Type} : Left H := { results := [], args := [] }

/-- 'backstitchlaw2.RealFolds': WHATEVER THE INPUT: true; the input reads as it did. -/
def realFoldsSpec : ChangeSpec := { name := "realFolds", fn := fun _ => fun
  | [d1, d2, d3] => { results := [.lit (.bool true)], args := [d1, d2, d3] }
  | _ => none }
def realFoldsRow : OpenClaim := { program := "ytklfendincohjaa", sum := "3ead164b206643a5d619492047ca03237db3e41e1adc7165536a646f8af5e3bf", func := "backstitch/backstitchlaw2.RealFolds", spec := "realFolds", inPlace := ["math.Float64frombits", "math.Float64bits"], unfollowed := true, recurses := true, apart := false }
def RealFoldsSaid : Prop := realFoldsRow.holds Try.pinned (OpenSpec.ofChange realFoldsSpec)

/-- ITS FALSE NEIGHBOUR: 'it returns false'. Refute it at one input. -/
def realFoldsWrong : ChangeSpec := { name := "realFolds", fn := fun _ => fun
  | [d1, d2, d3] => { results := [.lit (.bool false)], args := [d1, d2, d3] }
  | _ => none }
def RealFoldsWrongFalsely : Prop := realFoldsRow.holds Try.pinned (OpenSpec.ofChange realFoldsWrong)

/-- 'backstitchlaw2.RealWhole': WHATEVER THE INPUT: true; the input reads as it did. -/
def realWholeSpec : ChangeSpec := { name := "realWhole", fn := fun _ => fun
  | [d] => { results := [.lit (.bool true)], args := [d] }
  | _ => none }
def realWholeRow : OpenClaim := { program := "ytklfendincohjaa", sum := "3ead164b206643a5d619492047ca03237db3e41e1adc7165536a646f8af5e3bf", func := "backstitch/backstitchlaw2.RealWhole", spec := "realWhole", inPlace := ["math.Float64frombits", "math.Float64bits"], unfollowed := true, recurses := true, apart := false }
def RealWholeSaid : Prop := realWholeRow.holds Try.pinned (OpenSpec.ofChange realWholeSpec)

/-- ITS FALSE NEIGHBOUR: 'it returns false'. Refute it at one input. -/
def realWholeWrong : ChangeSpec := { name := "realWhole", fn := fun _ => fun
  | [d] => { results := [.lit (.bool false)], args := [d] }
  | _ => none }
def RealWholeWrongFalsely : Prop := realWholeRow.holds Try.pinned (OpenSpec.ofChange realWholeWrong)

/-- 'backstitchlaw2.RealParts': WHATEVER THE INPUT: true; the input reads as it did. -/
def realPartsSpec : ChangeSpec := { name := "realParts", fn := fun _ => fun
  | [d1, d2] => { results := [.lit (.bool true)], args := [d1, d2] }
  | _ => none }
def realPartsRow : OpenClaim := { program := "ytklfendincohjaa", sum := "3ead164b206643a5d619492047ca03237db3e41e1adc7165536a646f8af5e3bf", func := "backstitch/backstitchlaw2.RealParts", spec := "realParts", inPlace := ["math.Float64frombits", "math.Float64bits"], unfollowed := true, recurses := true, apart := false }
def RealPartsSaid : Prop := realPartsRow.holds Try.pinned (OpenSpec.ofChange realPartsSpec)

/-- ITS FALSE NEIGHBOUR: 'it returns false'. Refute it at one input. -/
def realPartsWrong : ChangeSpec := { name := "realParts", fn := fun _ => fun
  | [d1, d2] => { results := [.lit (.bool false)], args := [d1, d2] }
  | _ => none }
def RealPartsWrongFalsely : Prop := realPartsRow.holds Try.pinned (OpenSpec.ofChange realPartsWrong)

/-- 'backstitchlaw2.RealSames': WHATEVER THE INPUT: true; the input reads as it did. -/
def realSamesSpec : ChangeSpec := { name := "realSames", fn := fun _ => fun
  | [d1, d2] => { results := [.lit (.bool true)], args := [d1, d2] }
  | _ => none }
def realSamesRow : OpenClaim := { program := "ytklfendincohjaa", sum := "3ead164b206643a5d619492047ca03237db3e41e1adc7165536a646f8af5e3bf", func := "backstitch/backstitchlaw2.RealSames", spec := "realSames", inPlace := ["math.Float64frombits", "math.Float64bits"], unfollowed := true, recurses := true, apart := false }
def RealSamesSaid : Prop := realSamesRow.holds Try.pinned (OpenSpec.ofChange realSamesSpec)

/-- ITS FALSE NEIGHBOUR: 'it returns false'. Refute it at one input. -/
def realSamesWrong : ChangeSpec := { name := "realSames", fn := fun _ => fun
  | [d1, d2] => { results := [.lit (.bool false)], args := [d1, d2] }
  | _ => none }
def RealSamesWrongFalsely : Prop := realSamesRow.holds Try.pinned (OpenSpec.ofChange realSamesWrong)

/-- 'backstitchlaw2.RealExact': WHATEVER THE INPUT: true; the input reads as it did. -/
def realExactSpec : ChangeSpec := { name := "realExact", fn := fun _ => fun
  | [d1, d2] => { results := [.lit (.bool true)], args := [d1, d2] }
  | _ => none }
def realExactRow : OpenClaim := { program := "ytklfendincohjaa", sum := "3ead164b206643a5d619492047ca03237db3e41e1adc7165536a646f8af5e3bf", func := "backstitch/backstitchlaw2.RealExact", spec := "realExact", inPlace := ["math.Float64frombits", "math.Float64bits"], unfollowed := true, recurses := true, apart := false }
def RealExactSaid : Prop := realExactRow.holds Try.pinned (OpenSpec.ofChange realExactSpec)

/-- ITS FALSE NEIGHBOUR: 'it returns false'. Refute it at one input. -/
def realExactWrong : ChangeSpec := { name := "realExact", fn := fun _ => fun
  | [d1, d2] => { results := [.lit (.bool false)], args := [d1, d2] }
  | _ => none }
def RealExactWrongFalsely : Prop := realExactRow.holds Try.pinned (OpenSpec.ofChange realExactWrong)

/-- 'backstitchlaw2.RealKnown': WHATEVER THE INPUT: true; the input reads as it did. -/
def realKnownSpec : ChangeSpec := { name := "realKnown", fn := fun _ => fun
  | [] => { results := [.lit (.bool true)], args := [] }
  | _ => none }
def realKnownRow : OpenClaim := { program := "ytklfendincohjaa", sum := "3ead164b206643a5d619492047ca03237db3e41e1adc7165536a646f8af5e3bf", func := "backstitch/backstitchlaw2.RealKnown", spec := "realKnown", inPlace := ["math.Float64frombits", "math.Float64bits"], unfollowed := true, recurses := true, apart := false }
def RealKnownSaid : Prop := realKnownRow.holds Try.pinned (OpenSpec.ofChange realKnownSpec)

/-- ITS FALSE NEIGHBOUR: 'it returns false'. Refute it at one input. -/
def realKnownWrong : ChangeSpec := { name := "realKnown", fn := fun _ => fun
  | [] => { results := [.lit (.bool false)], args := [] }
  | _ => none }
def RealKnownWrongFalsely : Prop := realKnownRow.holds Try.pinned (OpenSpec.ofChange realKnownWrong)

/- THE SECOND FORM. 'bulk': how many values and letters a reading holds, each counted each time it is reached (what is shared counts as often as it is met; a slice's spare places count too). A statement '..UptoSaid' is the law's where the arguments, and the package variables that the reading takes, are together of bulk at most 1048576: NARROWER than '..Said'. Prove '..Said' where nothing that the law and all that it calls make is longer than what came in: it says more and counts as full. Else prove '..UptoSaid'. A law counts once. -/
mutual
def uptoBulk {H : Type} : DataW H → Nat
  | .lit (.string bytes) => bytes.length + 1
  | .lit _ => 1
  | .nil => 1
  | .ptr d => uptoBulk d + 1
  | .slice elems spare => uptoBulkAll elems + uptoBulkAll spare + 1
  | .agg parts => uptoBulkAll parts + 1
  | .iface _ d => uptoBulk d + 1
  | .map entries => uptoBulkEntries entries + 1
  | .held _ => 1
def uptoBulkAll {H : Type} : List (DataW H) → Nat
  | [] => 0
  | d :: r => uptoBulk d + uptoBulkAll r
def uptoBulkEntries {H : Type} : List (Lit × DataW H) → Nat
  | [] => 0
  | x :: r => uptoBulkEntry x + uptoBulkEntries r
def uptoBulkEntry {H : Type} : Lit × DataW H → Nat
  | (.string bytes, d) => bytes.length + uptoBulk d + 1
  | (_, d) => uptoBulk d + 1
 end
def uptoSmall : (H : Type) → List (DataW H) → Bool := fun _ ds => decide (uptoBulkAll ds ≤ 1048576)
def OpenSpec.upto (s : _root_.Go.ChangeSpec) : _root_.Go.OpenSpec := { _root_.Go.OpenSpec.ofChange s with cond := some uptoSmall }

/-- 'backstitchlaw2.RealFolds', WHERE WHAT IT READS IS OF BULK AT MOST 1048576: true; the input reads as it did. -/
def realFoldsUptoRow : OpenClaim := { program := "ytklfendincohjaa", sum := "3ead164b206643a5d619492047ca03237db3e41e1adc7165536a646f8af5e3bf", func := "backstitch/backstitchlaw2.RealFolds", spec := "realFolds", inPlace := ["math.Float64frombits", "math.Float64bits"], unfollowed := true, recurses := true, apart := false, narrowed := true }
def RealFoldsUptoSaid : Prop := realFoldsUptoRow.holds Try.pinned (OpenSpec.upto realFoldsSpec)

/-- 'backstitchlaw2.RealWhole', WHERE WHAT IT READS IS OF BULK AT MOST 1048576: true; the input reads as it did. -/
def realWholeUptoRow : OpenClaim := { program := "ytklfendincohjaa", sum := "3ead164b206643a5d619492047ca03237db3e41e1adc7165536a646f8af5e3bf", func := "backstitch/backstitchlaw2.RealWhole", spec := "realWhole", inPlace := ["math.Float64frombits", "math.Float64bits"], unfollowed := true, recurses := true, apart := false, narrowed := true }
def RealWholeUptoSaid : Prop := realWholeUptoRow.holds Try.pinned (OpenSpec.upto realWholeSpec)

/-- 'backstitchlaw2.RealParts', WHERE WHAT IT READS IS OF BULK AT MOST 1048576: true; the input reads as it did. -/
def realPartsUptoRow : OpenClaim := { program := "ytklfendincohjaa", sum := "3ead164b206643a5d619492047ca03237db3e41e1adc7165536a646f8af5e3bf", func := "backstitch/backstitchlaw2.RealParts", spec := "realParts", inPlace := ["math.Float64frombits", "math.Float64bits"], unfollowed := true, recurses := true, apart := false, narrowed := true }
def RealPartsUptoSaid : Prop := realPartsUptoRow.holds Try.pinned (OpenSpec.upto realPartsSpec)

/-- 'backstitchlaw2.RealSames', WHERE WHAT IT READS IS OF BULK AT MOST 1048576: true; the input reads as it did. -/
def realSamesUptoRow : OpenClaim := { program := "ytklfendincohjaa", sum := "3ead164b206643a5d619492047ca03237db3e41e1adc7165536a646f8af5e3bf", func := "backstitch/backstitchlaw2.RealSames", spec := "realSames", inPlace := ["math.Float64frombits", "math.Float64bits"], unfollowed := true, recurses := true, apart := false, narrowed := true }
def RealSamesUptoSaid : Prop := realSamesUptoRow.holds Try.pinned (OpenSpec.upto realSamesSpec)

/-- 'backstitchlaw2.RealExact', WHERE WHAT IT READS IS OF BULK AT MOST 1048576: true; the input reads as it did. -/
def realExactUptoRow : OpenClaim := { program := "ytklfendincohjaa", sum := "3ead164b206643a5d619492047ca03237db3e41e1adc7165536a646f8af5e3bf", func := "backstitch/backstitchlaw2.RealExact", spec := "realExact", inPlace := ["math.Float64frombits", "math.Float64bits"], unfollowed := true, recurses := true, apart := false, narrowed := true }
def RealExactUptoSaid : Prop := realExactUptoRow.holds Try.pinned (OpenSpec.upto realExactSpec)

/-- 'backstitchlaw2.RealKnown', WHERE WHAT IT READS IS OF BULK AT MOST 1048576: true; the input reads as it did. -/
def realKnownUptoRow : OpenClaim := { program := "ytklfendincohjaa", sum := "3ead164b206643a5d619492047ca03237db3e41e1adc7165536a646f8af5e3bf", func := "backstitch/backstitchlaw2.RealKnown", spec := "realKnown", inPlace := ["math.Float64frombits", "math.Float64bits"], unfollowed := true, recurses := true, apart := false, narrowed := true }
def RealKnownUptoSaid : Prop := realKnownUptoRow.holds Try.pinned (OpenSpec.upto realKnownSpec)

end Rows
end Go.Proofs.Ytklfendincohjaa
