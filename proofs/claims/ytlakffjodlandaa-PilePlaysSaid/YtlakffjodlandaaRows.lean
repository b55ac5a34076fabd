/-
  No cell of these rows narrows 'for every input' (looked for: loops, veiled, ifaces, maps, wideKeys, modest, calm, conditions, laid).
  DERIVED. THE GIVEN ROWS OF THIS SEAT. 6 by the template 'for every input the law returns true; each argument reads behind the call as it read before'; 0 by the template 'total and deterministic' (their statements: YtlakffjodlandaaTotals.lean).
  GIVEN WITH THE SEED: the statements are not yours to turn. If you find one false, say at which input.
  Laid BY PROGRAM, IN A SANDBOX (cutbox-rows.mjs): the forced cells as the released guide's own fill.sh prints them over the translation a7507d31a5078225… (all of the seat's roots in one cut). By AI agents, Wed Nov 11 2026. No macro, syntax, notation, axiom, sorry.
-/
import Derived.Test.YtlakffjodlandaaChecked
import GoSem.Claim
import GoSem.ClaimJoined
import GoSem.ClaimMapViews
import Derived.JoinedTies
import Derived.KernelRfl
namespace Go.Proofs.Ytlakffjodlandaa
/- THE CELL 'sum', in the pinned program and in every row, IS THE sha256 OF THE DUMP (.gsa) THAT YtlakffjodlandaaProg.lean LOADS. Nothing in Lean hashes anything: it is a label: what it is worth is what the hold of that sum in a sandbox is worth. -/
noncomputable def Try.pinned : Pinned := { name := "ytlakffjodlandaa", sum := "a7507d31a5078225214986ee584bef7b98c9a898f4c3df791b8ca422c2a5eb78", checked := Try.checked }
namespace Rows
def none {H : Type} : Left H := { results := [], args := [] }

/-- 'backstitchlaw14.PileSorts': WHATEVER THE INPUT: true; the input reads as it did. -/
def pileSortsSpec : ChangeSpec := { name := "pileSorts", fn := fun _ => fun
  | [d] => { results := [.lit (.bool true)], args := [d] }
  | _ => none }
def pileSortsRow : OpenClaim := { program := "ytlakffjodlandaa", sum := "a7507d31a5078225214986ee584bef7b98c9a898f4c3df791b8ca422c2a5eb78", func := "backstitch/backstitchlaw14.PileSorts", spec := "pileSorts", unfollowed := true, recurses := true, apart := false }
def PileSortsSaid : Prop := pileSortsRow.holds Try.pinned (OpenSpec.ofChange pileSortsSpec)

/-- ITS FALSE NEIGHBOUR: 'it returns false'. Refute it at one input. -/
def pileSortsWrong : ChangeSpec := { name := "pileSorts", fn := fun _ => fun
  | [d] => { results := [.lit (.bool false)], args := [d] }
  | _ => none }
def PileSortsWrongFalsely : Prop := pileSortsRow.holds Try.pinned (OpenSpec.ofChange pileSortsWrong)

/-- 'backstitchlaw14.PileTurns': WHATEVER THE INPUT: true; the input reads as it did. -/
def pileTurnsSpec : ChangeSpec := { name := "pileTurns", fn := fun _ => fun
  | [d] => { results := [.lit (.bool true)], args := [d] }
  | _ => none }
def pileTurnsRow : OpenClaim := { program := "ytlakffjodlandaa", sum := "a7507d31a5078225214986ee584bef7b98c9a898f4c3df791b8ca422c2a5eb78", func := "backstitch/backstitchlaw14.PileTurns", spec := "pileTurns", unfollowed := true, recurses := true, apart := false }
def PileTurnsSaid : Prop := pileTurnsRow.holds Try.pinned (OpenSpec.ofChange pileTurnsSpec)

/-- ITS FALSE NEIGHBOUR: 'it returns false'. Refute it at one input. -/
def pileTurnsWrong : ChangeSpec := { name := "pileTurns", fn := fun _ => fun
  | [d] => { results := [.lit (.bool false)], args := [d] }
  | _ => none }
def PileTurnsWrongFalsely : Prop := pileTurnsRow.holds Try.pinned (OpenSpec.ofChange pileTurnsWrong)

/-- 'backstitchlaw14.PilePlays': WHATEVER THE INPUT: true; the input reads as it did. -/
def pilePlaysSpec : ChangeSpec := { name := "pilePlays", fn := fun _ => fun
  | [d] => { results := [.lit (.bool true)], args := [d] }
  | _ => none }
def pilePlaysRow : OpenClaim := { program := "ytlakffjodlandaa", sum := "a7507d31a5078225214986ee584bef7b98c9a898f4c3df791b8ca422c2a5eb78", func := "backstitch/backstitchlaw14.PilePlays", spec := "pilePlays", unfollowed := true, recurses := true, apart := false }
def PilePlaysSaid : Prop := pilePlaysRow.holds Try.pinned (OpenSpec.ofChange pilePlaysSpec)

/-- ITS FALSE NEIGHBOUR: 'it returns false'. Refute it at one input. -/
def pilePlaysWrong : ChangeSpec := { name := "pilePlays", fn := fun _ => fun
  | [d] => { results := [.lit (.bool false)], args := [d] }
  | _ => none }
def PilePlaysWrongFalsely : Prop := pilePlaysRow.holds Try.pinned (OpenSpec.ofChange pilePlaysWrong)

/-- 'backstitchlaw14.PileKnown': WHATEVER THE INPUT: true; the input reads as it did. -/
def pileKnownSpec : ChangeSpec := { name := "pileKnown", fn := fun _ => fun
  | [] => { results := [.lit (.bool true)], args := [] }
  | _ => none }
def pileKnownRow : OpenClaim := { program := "ytlakffjodlandaa", sum := "a7507d31a5078225214986ee584bef7b98c9a898f4c3df791b8ca422c2a5eb78", func := "backstitch/backstitchlaw14.PileKnown", spec := "pileKnown", unfollowed := true, recurses := true, apart := false }
def PileKnownSaid : Prop := pileKnownRow.holds Try.pinned (OpenSpec.ofChange pileKnownSpec)

/-- ITS FALSE NEIGHBOUR: 'it returns false'. Refute it at one input. -/
def pileKnownWrong : ChangeSpec := { name := "pileKnown", fn := fun _ => fun
  | [] => { results := [.lit (.bool false)], args := [] }
  | _ => none }
def PileKnownWrongFalsely : Prop := pileKnownRow.holds Try.pinned (OpenSpec.ofChange pileKnownWrong)

/-- 'backstitchlaw14.PileDrops': WHATEVER THE INPUT: true; the input reads as it did. -/
def pileDropsSpec : ChangeSpec := { name := "pileDrops", fn := fun _ => fun
  | [d1, d2] => { results := [.lit (.bool true)], args := [d1, d2] }
  | _ => none }
def pileDropsRow : OpenClaim := { program := "ytlakffjodlandaa", sum := "a7507d31a5078225214986ee584bef7b98c9a898f4c3df791b8ca422c2a5eb78", func := "backstitch/backstitchlaw14.PileDrops", spec := "pileDrops", unfollowed := true, recurses := true, apart := false }
def PileDropsSaid : Prop := pileDropsRow.holds Try.pinned (OpenSpec.ofChange pileDropsSpec)

/-- ITS FALSE NEIGHBOUR: 'it returns false'. Refute it at one input. -/
def pileDropsWrong : ChangeSpec := { name := "pileDrops", fn := fun _ => fun
  | [d1, d2] => { results := [.lit (.bool false)], args := [d1, d2] }
  | _ => none }
def PileDropsWrongFalsely : Prop := pileDropsRow.holds Try.pinned (OpenSpec.ofChange pileDropsWrong)

/-- 'backstitchlaw14.PileOne': WHATEVER THE INPUT: true; the input reads as it did. -/
def pileOneSpec : ChangeSpec := { name := "pileOne", fn := fun _ => fun
  | [d1, d2] => { results := [.lit (.bool true)], args := [d1, d2] }
  | _ => none }
def pileOneRow : OpenClaim := { program := "ytlakffjodlandaa", sum := "a7507d31a5078225214986ee584bef7b98c9a898f4c3df791b8ca422c2a5eb78", func := "backstitch/backstitchlaw14.PileOne", spec := "pileOne", unfollowed := true, recurses := true, apart := false }
def PileOneSaid : Prop := pileOneRow.holds Try.pinned (OpenSpec.ofChange pileOneSpec)

/-- ITS FALSE NEIGHBOUR: 'it returns false'. Refute it at one input. -/
def pileOneWrong : ChangeSpec := { name := "pileOne", fn := fun _ => fun
  | [d1, d2] => { results := [.lit (.bool false)], args := [d1, d2] }
  | _ => none }
def PileOneWrongFalsely : Prop := pileOneRow.holds Try.pinned (OpenSpec.ofChange pileOneWrong)

/- THE SECOND FORM. 'bulk': how many values and letters a reading holds, each counted each time it is reached (what is shared counts as often as it is met; a slice's spare places count too). A statement '..UptoSaid' is the law's where the arguments, and the package variables that the reading takes, are together of bulk at most 1048576: NARROWER than '..Said'. Prove '..Said' where nothing that the law and all that it calls make is longer than what came in: it says more and counts as full. Else prove '..UptoSaid'. A law counts once. -/
mutual
def uptoBulk {H : Type} : DataW H → Nat
  | .lit (.string bytes) => bytes.length + 1
  | .lit _ => 1
  | .nil => 1
  | .ptr d => uptoBulk d + 1
  | .slice elems spare => uptoBulkAll elems + uptoBulkAll spare + 1
  | .agg parts => uptoBulkAll parts + 1
  | .iface _ d => uptoBulk d + 1
  | .map entries => uptoBulkEntries entries + 1
  | .held _ => 1
def uptoBulkAll {H : Type} : List (DataW H) → Nat
  | [] => 0
  | d :: r => uptoBulk d + uptoBulkAll r
def uptoBulkEntries {H : Type} : List (Lit × DataW H) → Nat
  | [] => 0
  | x :: r => uptoBulkEntry x + uptoBulkEntries r
def uptoBulkEntry {H : Type} : Lit × DataW H → Nat
  | (.string bytes, d) => bytes.length + uptoBulk d + 1
  | (_, d) => uptoBulk d + 1
 end
def uptoSmall : (H : Type) → List (DataW H) → Bool := fun _ ds => decide (uptoBulkAll ds ≤ 1048576)
def OpenSpec.upto (s : _root_.Go.ChangeSpec) : _root_.Go.OpenSpec := { _root_.Go.OpenSpec.ofChange s with cond := some uptoSmall }

/-- 'backstitchlaw14.PileSorts', WHERE WHAT IT READS IS OF BULK AT MOST 1048576: true; the input reads as it did. -/
def pileSortsUptoRow : OpenClaim := { program := "ytlakffjodlandaa", sum := "a7507d31a5078225214986ee584bef7b98c9a898f4c3df791b8ca422c2a5eb78", func := "backstitch/backstitchlaw14.PileSorts", spec := "pileSorts", unfollowed := true, recurses := true, apart := false, narrowed := true }
def PileSortsUptoSaid : Prop := pileSortsUptoRow.holds Try.pinned (OpenSpec.upto pileSortsSpec)

/-- 'backstitchlaw14.PileTurns', WHERE WHAT IT READS IS OF BULK AT MOST 1048576: true; the input reads as it did. -/
def pileTurnsUptoRow : OpenClaim := { program := "ytlakffjodlandaa", sum := "a7507d31a5078225214986ee584bef7b98c9a898f4c3df791b8ca422c2a5eb78", func := "backstitch/backstitchlaw14.PileTurns", spec := "pileTurns", unfollowed := true, recurses := true, apart := false, narrowed := true }
def PileTurnsUptoSaid : Prop := pileTurnsUptoRow.holds Try.pinned (OpenSpec.upto pileTurnsSpec)

/-- 'backstitchlaw14.PilePlays', WHERE WHAT IT READS IS OF BULK AT MOST 1048576: true; the input reads as it did. -/
def pilePlaysUptoRow : OpenClaim := { program := "ytlakffjodlandaa", sum := "a7507d31a5078225214986ee584bef7b98c9a898f4c3df791b8ca422c2a5eb78", func := "backstitch/backstitchlaw14.PilePlays", spec := "pilePlays", unfollowed := true, recurses := true, apart := false, narrowed := true }
def PilePlaysUptoSaid : Prop := pilePlaysUptoRow.holds Try.pinned (OpenSpec.upto pilePlaysSpec)

/-- 'backstitchlaw14.PileKnown', WHERE WHAT IT READS IS OF BULK AT MOST 1048576: true; the input reads as it did. -/
def pileKnownUptoRow : OpenClaim := { program := "ytlakffjodlandaa", sum := "a7507d31a5078225214986ee584bef7b98c9a898f4c3df791b8ca422c2a5eb78", func := "backstitch/backstitchlaw14.PileKnown", spec := "pileKnown", unfollowed := true, recurses := true, apart := false, narrowed := true }
def PileKnownUptoSaid : Prop := pileKnownUptoRow.holds Try.pinned (OpenSpec.upto pileKnownSpec)

/-- 'backstitchlaw14.PileDrops', WHERE WHAT IT READS IS OF BULK AT MOST 1048576: true; the input reads as it did. -/
def pileDropsUptoRow : OpenClaim := { program := "ytlakffjodlandaa", sum := "a7507d31a5078225214986ee584bef7b98c9a898f4c3df791b8ca422c2a5eb78", func := "backstitch/backstitchlaw14.PileDrops", spec := "pileDrops", unfollowed := true, recurses := true, apart := false, narrowed := true }
def PileDropsUptoSaid : Prop := pileDropsUptoRow.holds Try.pinned (OpenSpec.upto pileDropsSpec)

/-- 'backstitchlaw14.PileOne', WHERE WHAT IT READS IS OF BULK AT MOST 1048576: true; the input reads as it did. -/
def pileOneUptoRow : OpenClaim := { program := "ytlakffjodlandaa", sum := "a7507d31a5078225214986ee584bef7b98c9a898f4c3df791b8ca422c2a5eb78", func := "backstitch/backstitchlaw14.PileOne", spec := "pileOne", unfollowed := true, recurses := true, apart := false, narrowed := true }
def PileOneUptoSaid : Prop := pileOneUptoRow.holds Try.pinned (OpenSpec.upto pileOneSpec)

end Rows
end Go.Proofs.Ytlakffjodlandaa
