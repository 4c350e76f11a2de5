/-
  No cell of these rows narrows 'for every input' (looked for: loops, veiled, ifaces, maps, wideKeys, modest, calm, conditions, laid).
  DERIVED. THE GIVEN ROWS OF THIS SEAT. 5 by the template 'for every input the law returns true; each argument reads behind the call as it read before'; 0 by the template 'total and deterministic' (their statements: YtnngbniomonabaaTotals.lean).
  GIVEN WITH THE SEED: the statements are not yours to turn. If you find one false, say at which input.
  Laid BY PROGRAM, IN A SANDBOX (cutbox-rows.mjs): the forced cells as the released guide's own fill.sh prints them over the translation 57f5328c7b9860e3… (all of the seat's roots in one cut). By AI agents, Wed Nov 11 2026. No macro, syntax, notation, axiom, sorry.
-/
import Derived.Test.YtnngbniomonabaaChecked
import GoSem.Claim
import GoSem.ClaimJoined
import GoSem.ClaimMapViews
import Derived.JoinedTies
import Derived.KernelRfl
namespace Go.Proofs.Ytnngbniomonabaa
/- THE CELL 'sum', in the pinned program and in every row, IS THE sha256 OF THE DUMP (.gsa) THAT YtnngbniomonabaaProg.lean LOADS. Nothing in Lean hashes anything: it is a label: what it is worth is what the hold of that sum in a sandbox is worth. -/
noncomputable def Try.pinned : Pinned := { name := "ytnngbniomonabaa", sum := "57f5328c7b9860e3143bfe72e91c68d1dc3ce23101bacf9829078dfa8ee375d6", checked := Try.checked }
namespace Rows
def none {H : Type} : Left H := { results := [], args := [] }

/-- 'nostoslaw18.DeltaDiffs': WHATEVER THE INPUT: true; the input reads as it did. -/
def deltaDiffsSpec : ChangeSpec := { name := "deltaDiffs", fn := fun _ => fun
  | [d1, d2] => { results := [.lit (.bool true)], args := [d1, d2] }
  | _ => none }
def deltaDiffsRow : OpenClaim := { program := "ytnngbniomonabaa", sum := "57f5328c7b9860e3143bfe72e91c68d1dc3ce23101bacf9829078dfa8ee375d6", func := "nostos/nostoslaw18.DeltaDiffs", spec := "deltaDiffs", unfollowed := true, recurses := true, apart := false }
def DeltaDiffsSaid : Prop := deltaDiffsRow.holds Try.pinned (OpenSpec.ofChange deltaDiffsSpec)

/-- ITS FALSE NEIGHBOUR: 'it returns false'. Refute it at one input. -/
def deltaDiffsWrong : ChangeSpec := { name := "deltaDiffs", fn := fun _ => fun
  | [d1, d2] => { results := [.lit (.bool false)], args := [d1, d2] }
  | _ => none }
def DeltaDiffsWrongFalsely : Prop := deltaDiffsRow.holds Try.pinned (OpenSpec.ofChange deltaDiffsWrong)

/-- 'nostoslaw18.DeltaBacks': WHATEVER THE INPUT: true; the input reads as it did. -/
def deltaBacksSpec : ChangeSpec := { name := "deltaBacks", fn := fun _ => fun
  | [d1, d2] => { results := [.lit (.bool true)], args := [d1, d2] }
  | _ => none }
def deltaBacksRow : OpenClaim := { program := "ytnngbniomonabaa", sum := "57f5328c7b9860e3143bfe72e91c68d1dc3ce23101bacf9829078dfa8ee375d6", func := "nostos/nostoslaw18.DeltaBacks", spec := "deltaBacks", unfollowed := true, recurses := true, apart := false }
def DeltaBacksSaid : Prop := deltaBacksRow.holds Try.pinned (OpenSpec.ofChange deltaBacksSpec)

/-- ITS FALSE NEIGHBOUR: 'it returns false'. Refute it at one input. -/
def deltaBacksWrong : ChangeSpec := { name := "deltaBacks", fn := fun _ => fun
  | [d1, d2] => { results := [.lit (.bool false)], args := [d1, d2] }
  | _ => none }
def DeltaBacksWrongFalsely : Prop := deltaBacksRow.holds Try.pinned (OpenSpec.ofChange deltaBacksWrong)

/-- 'nostoslaw18.DeltaUndoes': WHATEVER THE INPUT: true; the input reads as it did. -/
def deltaUndoesSpec : ChangeSpec := { name := "deltaUndoes", fn := fun _ => fun
  | [d1, d2] => { results := [.lit (.bool true)], args := [d1, d2] }
  | _ => none }
def deltaUndoesRow : OpenClaim := { program := "ytnngbniomonabaa", sum := "57f5328c7b9860e3143bfe72e91c68d1dc3ce23101bacf9829078dfa8ee375d6", func := "nostos/nostoslaw18.DeltaUndoes", spec := "deltaUndoes", unfollowed := true, recurses := true, apart := false }
def DeltaUndoesSaid : Prop := deltaUndoesRow.holds Try.pinned (OpenSpec.ofChange deltaUndoesSpec)

/-- ITS FALSE NEIGHBOUR: 'it returns false'. Refute it at one input. -/
def deltaUndoesWrong : ChangeSpec := { name := "deltaUndoes", fn := fun _ => fun
  | [d1, d2] => { results := [.lit (.bool false)], args := [d1, d2] }
  | _ => none }
def DeltaUndoesWrongFalsely : Prop := deltaUndoesRow.holds Try.pinned (OpenSpec.ofChange deltaUndoesWrong)

/-- 'nostoslaw18.DeltaTakes': WHATEVER THE INPUT: true; the input reads as it did. -/
def deltaTakesSpec : ChangeSpec := { name := "deltaTakes", fn := fun _ => fun
  | [d] => { results := [.lit (.bool true)], args := [d] }
  | _ => none }
def deltaTakesRow : OpenClaim := { program := "ytnngbniomonabaa", sum := "57f5328c7b9860e3143bfe72e91c68d1dc3ce23101bacf9829078dfa8ee375d6", func := "nostos/nostoslaw18.DeltaTakes", spec := "deltaTakes", unfollowed := true, recurses := true, apart := false }
def DeltaTakesSaid : Prop := deltaTakesRow.holds Try.pinned (OpenSpec.ofChange deltaTakesSpec)

/-- ITS FALSE NEIGHBOUR: 'it returns false'. Refute it at one input. -/
def deltaTakesWrong : ChangeSpec := { name := "deltaTakes", fn := fun _ => fun
  | [d] => { results := [.lit (.bool false)], args := [d] }
  | _ => none }
def DeltaTakesWrongFalsely : Prop := deltaTakesRow.holds Try.pinned (OpenSpec.ofChange deltaTakesWrong)

/-- 'nostoslaw18.DeltaBytes': WHATEVER THE INPUT: true; the input reads as it did. -/
def deltaBytesSpec : ChangeSpec := { name := "deltaBytes", fn := fun _ => fun
  | [d1, d2] => { results := [.lit (.bool true)], args := [d1, d2] }
  | _ => none }
def deltaBytesRow : OpenClaim := { program := "ytnngbniomonabaa", sum := "57f5328c7b9860e3143bfe72e91c68d1dc3ce23101bacf9829078dfa8ee375d6", func := "nostos/nostoslaw18.DeltaBytes", spec := "deltaBytes", unfollowed := true, recurses := true, apart := false }
def DeltaBytesSaid : Prop := deltaBytesRow.holds Try.pinned (OpenSpec.ofChange deltaBytesSpec)

/-- ITS FALSE NEIGHBOUR: 'it returns false'. Refute it at one input. -/
def deltaBytesWrong : ChangeSpec := { name := "deltaBytes", fn := fun _ => fun
  | [d1, d2] => { results := [.lit (.bool false)], args := [d1, d2] }
  | _ => none }
def DeltaBytesWrongFalsely : Prop := deltaBytesRow.holds Try.pinned (OpenSpec.ofChange deltaBytesWrong)

/- THE SECOND FORM. 'bulk': how many values and letters a reading holds, each counted each time it is reached (what is shared counts as often as it is met; a slice's spare places count too). A statement '..UptoSaid' is the law's where the arguments, and the package variables that the reading takes, are together of bulk at most 1048576: NARROWER than '..Said'. Prove '..Said' where nothing that the law and all that it calls make is longer than what came in: it says more and counts as full. Else prove '..UptoSaid'. A law counts once. -/
mutual
def uptoBulk {H : Type} : DataW H → Nat
  | .lit (.string bytes) => bytes.length + 1
  | .lit _ => 1
  | .nil => 1
  | .ptr d => uptoBulk d + 1
  | .slice elems spare => uptoBulkAll elems + uptoBulkAll spare + 1
  | .agg parts => uptoBulkAll parts + 1
  | .iface _ d => uptoBulk d + 1
  | .map entries => uptoBulkEntries entries + 1
  | .held _ => 1
def uptoBulkAll {H : Type} : List (DataW H) → Nat
  | [] => 0
  | d :: r => uptoBulk d + uptoBulkAll r
def uptoBulkEntries {H : Type} : List (Lit × DataW H) → Nat
  | [] => 0
  | x :: r => uptoBulkEntry x + uptoBulkEntries r
def uptoBulkEntry {H : Type} : Lit × DataW H → Nat
  | (.string bytes, d) => bytes.length + uptoBulk d + 1
  | (_, d) => uptoBulk d + 1
 end
def uptoSmall : (H : Type) → List (DataW H) → Bool := fun _ ds => decide (uptoBulkAll ds ≤ 1048576)
def OpenSpec.upto (s : _root_.Go.ChangeSpec) : _root_.Go.OpenSpec := { _root_.Go.OpenSpec.ofChange s with cond := some uptoSmall }

/-- 'nostoslaw18.DeltaDiffs', WHERE WHAT IT READS IS OF BULK AT MOST 1048576: true; the input reads as it did. -/
def deltaDiffsUptoRow : OpenClaim := { program := "ytnngbniomonabaa", sum := "57f5328c7b9860e3143bfe72e91c68d1dc3ce23101bacf9829078dfa8ee375d6", func := "nostos/nostoslaw18.DeltaDiffs", spec := "deltaDiffs", unfollowed := true, recurses := true, apart := false, narrowed := true }
def DeltaDiffsUptoSaid : Prop := deltaDiffsUptoRow.holds Try.pinned (OpenSpec.upto deltaDiffsSpec)

/-- 'nostoslaw18.DeltaBacks', WHERE WHAT IT READS IS OF BULK AT MOST 1048576: true; the input reads as it did. -/
def deltaBacksUptoRow : OpenClaim := { program := "ytnngbniomonabaa", sum := "57f5328c7b9860e3143bfe72e91c68d1dc3ce23101bacf9829078dfa8ee375d6", func := "nostos/nostoslaw18.DeltaBacks", spec := "deltaBacks", unfollowed := true, recurses := true, apart := false, narrowed := true }
def DeltaBacksUptoSaid : Prop := deltaBacksUptoRow.holds Try.pinned (OpenSpec.upto deltaBacksSpec)

/-- 'nostoslaw18.DeltaUndoes', WHERE WHAT IT READS IS OF BULK AT MOST 1048576: true; the input reads as it did. -/
def deltaUndoesUptoRow : OpenClaim := { program := "ytnngbniomonabaa", sum := "57f5328c7b9860e3143bfe72e91c68d1dc3ce23101bacf9829078dfa8ee375d6", func := "nostos/nostoslaw18.DeltaUndoes", spec := "deltaUndoes", unfollowed := true, recurses := true, apart := false, narrowed := true }
def DeltaUndoesUptoSaid : Prop := deltaUndoesUptoRow.holds Try.pinned (OpenSpec.upto deltaUndoesSpec)

/-- 'nostoslaw18.DeltaTakes', WHERE WHAT IT READS IS OF BULK AT MOST 1048576: true; the input reads as it did. -/
def deltaTakesUptoRow : OpenClaim := { program := "ytnngbniomonabaa", sum := "57f5328c7b9860e3143bfe72e91c68d1dc3ce23101bacf9829078dfa8ee375d6", func := "nostos/nostoslaw18.DeltaTakes", spec := "deltaTakes", unfollowed := true, recurses := true, apart := false, narrowed := true }
def DeltaTakesUptoSaid : Prop := deltaTakesUptoRow.holds Try.pinned (OpenSpec.upto deltaTakesSpec)

/-- 'nostoslaw18.DeltaBytes', WHERE WHAT IT READS IS OF BULK AT MOST 1048576: true; the input reads as it did. -/
def deltaBytesUptoRow : OpenClaim := { program := "ytnngbniomonabaa", sum := "57f5328c7b9860e3143bfe72e91c68d1dc3ce23101bacf9829078dfa8ee375d6", func := "nostos/nostoslaw18.DeltaBytes", spec := "deltaBytes", unfollowed := true, recurses := true, apart := false, narrowed := true }
def DeltaBytesUptoSaid : Prop := deltaBytesUptoRow.holds Try.pinned (OpenSpec.upto deltaBytesSpec)

end Rows
end Go.Proofs.Ytnngbniomonabaa
