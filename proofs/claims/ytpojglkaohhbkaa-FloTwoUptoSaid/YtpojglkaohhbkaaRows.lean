/-
  No cell of these rows narrows 'for every input' (looked for: loops, veiled, ifaces, maps, wideKeys, modest, calm, conditions, laid).
  DERIVED. THE GIVEN ROWS OF THIS SEAT. 5 by the template 'for every input the law returns true; each argument reads behind the call as it read before'; 0 by the template 'total and deterministic' (their statements: YtpojglkaohhbkaaTotals.lean).
  GIVEN WITH THE SEED: the statements are not yours to turn. If you find one false, say at which input.
  Laid BY PROGRAM, IN A SANDBOX (cutbox-rows.mjs): the forced cells as the released guide's own fill.sh prints them over the translation f7317fc524a232b9… (all of the seat's roots in one cut). By AI agents, Wed Nov 11 2026. No macro, syntax, notation, axiom, sorry.
-/
import Derived.Test.YtpojglkaohhbkaaChecked
import GoSem.Claim
import GoSem.ClaimJoined
import GoSem.ClaimMapViews
import Derived.JoinedTies
import Derived.KernelRfl
namespace Go.Proofs.Ytpojglkaohhbkaa
/- THE CELL 'sum', in the pinned program and in every row, IS THE sha256 OF THE DUMP (.gsa) THAT YtpojglkaohhbkaaProg.lean LOADS. Nothing in Lean hashes anything: it is a label: what it is worth is what the hold of that sum in a sandbox is worth. -/
noncomputable def Try.pinned : Pinned := { name := "ytpojglkaohhbkaa", sum := "f7317fc524a232b9777bbee7da0813aaeecda800af5623f53d9b6af2a4e4d2e2", checked := Try.checked }
namespace Rows
def none {H : Type} : Left H := { results := [], args := [] }

/-- 'nostoslaw02.FloTwo': WHATEVER THE INPUT: true; the input reads as it did. -/
def floTwoSpec : ChangeSpec := { name := "floTwo", fn := fun _ => fun
  | [d1, d2, d3] => { results := [.lit (.bool true)], args := [d1, d2, d3] }
  | _ => none }
def floTwoRow : OpenClaim := { program := "ytpojglkaohhbkaa", sum := "f7317fc524a232b9777bbee7da0813aaeecda800af5623f53d9b6af2a4e4d2e2", func := "nostos/nostoslaw02.FloTwo", spec := "floTwo", inPlace := ["math.Float64bits", "math.Float64frombits", "math.sqrt", "math.archFloor", "math.archTrunc"], unfollowed := true, recurses := true, apart := false }
def FloTwoSaid : Prop := floTwoRow.holds Try.pinned (OpenSpec.ofChange floTwoSpec)

/-- ITS FALSE NEIGHBOUR: 'it returns false'. Refute it at one input. -/
def floTwoWrong : ChangeSpec := { name := "floTwo", fn := fun _ => fun
  | [d1, d2, d3] => { results := [.lit (.bool false)], args := [d1, d2, d3] }
  | _ => none }
def FloTwoWrongFalsely : Prop := floTwoRow.holds Try.pinned (OpenSpec.ofChange floTwoWrong)

/-- 'nostoslaw02.FloOne': WHATEVER THE INPUT: true; the input reads as it did. -/
def floOneSpec : ChangeSpec := { name := "floOne", fn := fun _ => fun
  | [d1, d2] => { results := [.lit (.bool true)], args := [d1, d2] }
  | _ => none }
def floOneRow : OpenClaim := { program := "ytpojglkaohhbkaa", sum := "f7317fc524a232b9777bbee7da0813aaeecda800af5623f53d9b6af2a4e4d2e2", func := "nostos/nostoslaw02.FloOne", spec := "floOne", inPlace := ["math.Float64bits", "math.Float64frombits", "math.sqrt", "math.archFloor", "math.archTrunc"], unfollowed := true, recurses := true, apart := false }
def FloOneSaid : Prop := floOneRow.holds Try.pinned (OpenSpec.ofChange floOneSpec)

/-- ITS FALSE NEIGHBOUR: 'it returns false'. Refute it at one input. -/
def floOneWrong : ChangeSpec := { name := "floOne", fn := fun _ => fun
  | [d1, d2] => { results := [.lit (.bool false)], args := [d1, d2] }
  | _ => none }
def FloOneWrongFalsely : Prop := floOneRow.holds Try.pinned (OpenSpec.ofChange floOneWrong)

/-- 'nostoslaw02.FloCompares': WHATEVER THE INPUT: true; the input reads as it did. -/
def floComparesSpec : ChangeSpec := { name := "floCompares", fn := fun _ => fun
  | [d1, d2] => { results := [.lit (.bool true)], args := [d1, d2] }
  | _ => none }
def floComparesRow : OpenClaim := { program := "ytpojglkaohhbkaa", sum := "f7317fc524a232b9777bbee7da0813aaeecda800af5623f53d9b6af2a4e4d2e2", func := "nostos/nostoslaw02.FloCompares", spec := "floCompares", inPlace := ["math.Float64bits", "math.Float64frombits", "math.sqrt", "math.archFloor", "math.archTrunc"], unfollowed := true, recurses := true, apart := false }
def FloComparesSaid : Prop := floComparesRow.holds Try.pinned (OpenSpec.ofChange floComparesSpec)

/-- ITS FALSE NEIGHBOUR: 'it returns false'. Refute it at one input. -/
def floComparesWrong : ChangeSpec := { name := "floCompares", fn := fun _ => fun
  | [d1, d2] => { results := [.lit (.bool false)], args := [d1, d2] }
  | _ => none }
def FloComparesWrongFalsely : Prop := floComparesRow.holds Try.pinned (OpenSpec.ofChange floComparesWrong)

/-- 'nostoslaw02.FloTurns': WHATEVER THE INPUT: true; the input reads as it did. -/
def floTurnsSpec : ChangeSpec := { name := "floTurns", fn := fun _ => fun
  | [d1, d2] => { results := [.lit (.bool true)], args := [d1, d2] }
  | _ => none }
def floTurnsRow : OpenClaim := { program := "ytpojglkaohhbkaa", sum := "f7317fc524a232b9777bbee7da0813aaeecda800af5623f53d9b6af2a4e4d2e2", func := "nostos/nostoslaw02.FloTurns", spec := "floTurns", inPlace := ["math.Float64bits", "math.Float64frombits", "math.sqrt", "math.archFloor", "math.archTrunc"], unfollowed := true, recurses := true, apart := false }
def FloTurnsSaid : Prop := floTurnsRow.holds Try.pinned (OpenSpec.ofChange floTurnsSpec)

/-- ITS FALSE NEIGHBOUR: 'it returns false'. Refute it at one input. -/
def floTurnsWrong : ChangeSpec := { name := "floTurns", fn := fun _ => fun
  | [d1, d2] => { results := [.lit (.bool false)], args := [d1, d2] }
  | _ => none }
def FloTurnsWrongFalsely : Prop := floTurnsRow.holds Try.pinned (OpenSpec.ofChange floTurnsWrong)

/-- 'nostoslaw02.FloCells': WHATEVER THE INPUT: true; the input reads as it did. -/
def floCellsSpec : ChangeSpec := { name := "floCells", fn := fun _ => fun
  | [d1, d2] => { results := [.lit (.bool true)], args := [d1, d2] }
  | _ => none }
def floCellsRow : OpenClaim := { program := "ytpojglkaohhbkaa", sum := "f7317fc524a232b9777bbee7da0813aaeecda800af5623f53d9b6af2a4e4d2e2", func := "nostos/nostoslaw02.FloCells", spec := "floCells", inPlace := ["math.Float64bits", "math.Float64frombits", "math.sqrt", "math.archFloor", "math.archTrunc"], unfollowed := true, recurses := true, apart := false }
def FloCellsSaid : Prop := floCellsRow.holds Try.pinned (OpenSpec.ofChange floCellsSpec)

/-- ITS FALSE NEIGHBOUR: 'it returns false'. Refute it at one input. -/
def floCellsWrong : ChangeSpec := { name := "floCells", fn := fun _ => fun
  | [d1, d2] => { results := [.lit (.bool false)], args := [d1, d2] }
  | _ => none }
def FloCellsWrongFalsely : Prop := floCellsRow.holds Try.pinned (OpenSpec.ofChange floCellsWrong)

/- THE SECOND FORM. 'bulk': how many values and letters a reading holds, each counted each time it is reached (what is shared counts as often as it is met; a slice's spare places count too). A statement '..UptoSaid' is the law's where the arguments, and the package variables that the reading takes, are together of bulk at most 1048576: NARROWER than '..Said'. Prove '..Said' where nothing that the law and all that it calls make is longer than what came in: it says more and counts as full. Else prove '..UptoSaid'. A law counts once. -/
mutual
def uptoBulk {H : Type} : DataW H → Nat
  | .lit (.string bytes) => bytes.length + 1
  | .lit _ => 1
  | .nil => 1
  | .ptr d => uptoBulk d + 1
  | .slice elems spare => uptoBulkAll elems + uptoBulkAll spare + 1
  | .agg parts => uptoBulkAll parts + 1
  | .iface _ d => uptoBulk d + 1
  | .map entries => uptoBulkEntries entries + 1
  | .held _ => 1
def uptoBulkAll {H : Type} : List (DataW H) → Nat
  | [] => 0
  | d :: r => uptoBulk d + uptoBulkAll r
def uptoBulkEntries {H : Type} : List (Lit × DataW H) → Nat
  | [] => 0
  | x :: r => uptoBulkEntry x + uptoBulkEntries r
def uptoBulkEntry {H : Type} : Lit × DataW H → Nat
  | (.string bytes, d) => bytes.length + uptoBulk d + 1
  | (_, d) => uptoBulk d + 1
 end
def uptoSmall : (H : Type) → List (DataW H) → Bool := fun _ ds => decide (uptoBulkAll ds ≤ 1048576)
def OpenSpec.upto (s : _root_.Go.ChangeSpec) : _root_.Go.OpenSpec := { _root_.Go.OpenSpec.ofChange s with cond := some uptoSmall }

/-- 'nostoslaw02.FloTwo', WHERE WHAT IT READS IS OF BULK AT MOST 1048576: true; the input reads as it did. -/
def floTwoUptoRow : OpenClaim := { program := "ytpojglkaohhbkaa", sum := "f7317fc524a232b9777bbee7da0813aaeecda800af5623f53d9b6af2a4e4d2e2", func := "nostos/nostoslaw02.FloTwo", spec := "floTwo", inPlace := ["math.Float64bits", "math.Float64frombits", "math.sqrt", "math.archFloor", "math.archTrunc"], unfollowed := true, recurses := true, apart := false, narrowed := true }
def FloTwoUptoSaid : Prop := floTwoUptoRow.holds Try.pinned (OpenSpec.upto floTwoSpec)

/-- 'nostoslaw02.FloOne', WHERE WHAT IT READS IS OF BULK AT MOST 1048576: true; the input reads as it did. -/
def floOneUptoRow : OpenClaim := { program := "ytpojglkaohhbkaa", sum := "f7317fc524a232b9777bbee7da0813aaeecda800af5623f53d9b6af2a4e4d2e2", func := "nostos/nostoslaw02.FloOne", spec := "floOne", inPlace := ["math.Float64bits", "math.Float64frombits", "math.sqrt", "math.archFloor", "math.archTrunc"], unfollowed := true, recurses := true, apart := false, narrowed := true }
def FloOneUptoSaid : Prop := floOneUptoRow.holds Try.pinned (OpenSpec.upto floOneSpec)

/-- 'nostoslaw02.FloCompares', WHERE WHAT IT READS IS OF BULK AT MOST 1048576: true; the input reads as it did. -/
def floComparesUptoRow : OpenClaim := { program := "ytpojglkaohhbkaa", sum := "f7317fc524a232b9777bbee7da0813aaeecda800af5623f53d9b6af2a4e4d2e2", func := "nostos/nostoslaw02.FloCompares", spec := "floCompares", inPlace := ["math.Float64bits", "math.Float64frombits", "math.sqrt", "math.archFloor", "math.archTrunc"], unfollowed := true, recurses := true, apart := false, narrowed := true }
def FloComparesUptoSaid : Prop := floComparesUptoRow.holds Try.pinned (OpenSpec.upto floComparesSpec)

/-- 'nostoslaw02.FloTurns', WHERE WHAT IT READS IS OF BULK AT MOST 1048576: true; the input reads as it did. -/
def floTurnsUptoRow : OpenClaim := { program := "ytpojglkaohhbkaa", sum := "f7317fc524a232b9777bbee7da0813aaeecda800af5623f53d9b6af2a4e4d2e2", func := "nostos/nostoslaw02.FloTurns", spec := "floTurns", inPlace := ["math.Float64bits", "math.Float64frombits", "math.sqrt", "math.archFloor", "math.archTrunc"], unfollowed := true, recurses := true, apart := false, narrowed := true }
def FloTurnsUptoSaid : Prop := floTurnsUptoRow.holds Try.pinned (OpenSpec.upto floTurnsSpec)

/-- 'nostoslaw02.FloCells', WHERE WHAT IT READS IS OF BULK AT MOST 1048576: true; the input reads as it did. -/
def floCellsUptoRow : OpenClaim := { program := "ytpojglkaohhbkaa", sum := "f7317fc524a232b9777bbee7da0813aaeecda800af5623f53d9b6af2a4e4d2e2", func := "nostos/nostoslaw02.FloCells", spec := "floCells", inPlace := ["math.Float64bits", "math.Float64frombits", "math.sqrt", "math.archFloor", "math.archTrunc"], unfollowed := true, recurses := true, apart := false, narrowed := true }
def FloCellsUptoSaid : Prop := floCellsUptoRow.holds Try.pinned (OpenSpec.upto floCellsSpec)

end Rows
end Go.Proofs.Ytpojglkaohhbkaa
