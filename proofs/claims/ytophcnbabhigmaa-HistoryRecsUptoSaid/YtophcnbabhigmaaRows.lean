/-
  No cell of these rows narrows 'for every input' (looked for: loops, veiled, ifaces, maps, wideKeys, modest, calm, conditions, laid).
  DERIVED. THE GIVEN ROWS OF THIS SEAT. 4 by the template 'for every input the law returns true; each argument reads behind the call as it read before'; 0 by the template 'total and deterministic' (their statements: YtophcnbabhigmaaTotals.lean).
  GIVEN WITH THE SEED: the statements are not yours to turn. If you find one false, say at which input.
  Laid BY PROGRAM, IN A SANDBOX (cutbox-rows.mjs): the forced cells as the released guide's own fill.sh prints them over the translation 3981375dbb096bf0… (all of the seat's roots in one cut). By AI agents, Wed Nov 11 2026. No macro, syntax, notation, axiom, sorry.
-/
import Derived.Test.YtophcnbabhigmaaChecked
import GoSem.Claim
import GoSem.ClaimJoined
import GoSem.ClaimMapViews
import Derived.JoinedTies
import Derived.KernelRfl
namespace Go.Proofs.Ytophcnbabhigmaa
/- THE CELL 'sum', in the pinned program and in every row, IS THE sha256 OF THE DUMP (.gsa) THAT YtophcnbabhigmaaProg.lean LOADS. Nothing in Lean hashes anything: it is a label: what it is worth is what the hold of that sum in a sandbox is worth. -/
noncomputable def Try.pinned : Pinned := { name := "ytophcnbabhigmaa", sum := "3981375dbb096bf088f4d0a836df9ee3a5af6c97f13428c6dcee98cca62fb150", checked := Try.checked }
namespace Rows
def none {H : Type} : Left H := { results := [], args := [] }

/-- 'nostoslaw20.HistoryRuns': WHATEVER THE INPUT: true; the input reads as it did. -/
def historyRunsSpec : ChangeSpec := { name := "historyRuns", fn := fun _ => fun
  | [d1, d2, d3] => { results := [.lit (.bool true)], args := [d1, d2, d3] }
  | _ => none }
def historyRunsRow : OpenClaim := { program := "ytophcnbabhigmaa", sum := "3981375dbb096bf088f4d0a836df9ee3a5af6c97f13428c6dcee98cca62fb150", func := "nostos/nostoslaw20.HistoryRuns", spec := "historyRuns", unfollowed := true, recurses := true, apart := false }
def HistoryRunsSaid : Prop := historyRunsRow.holds Try.pinned (OpenSpec.ofChange historyRunsSpec)

/-- ITS FALSE NEIGHBOUR: 'it returns false'. Refute it at one input. -/
def historyRunsWrong : ChangeSpec := { name := "historyRuns", fn := fun _ => fun
  | [d1, d2, d3] => { results := [.lit (.bool false)], args := [d1, d2, d3] }
  | _ => none }
def HistoryRunsWrongFalsely : Prop := historyRunsRow.holds Try.pinned (OpenSpec.ofChange historyRunsWrong)

/-- 'nostoslaw20.HistoryBound': WHATEVER THE INPUT: true; the input reads as it did. -/
def historyBoundSpec : ChangeSpec := { name := "historyBound", fn := fun _ => fun
  | [d1, d2, d3] => { results := [.lit (.bool true)], args := [d1, d2, d3] }
  | _ => none }
def historyBoundRow : OpenClaim := { program := "ytophcnbabhigmaa", sum := "3981375dbb096bf088f4d0a836df9ee3a5af6c97f13428c6dcee98cca62fb150", func := "nostos/nostoslaw20.HistoryBound", spec := "historyBound", unfollowed := true, recurses := true, apart := false }
def HistoryBoundSaid : Prop := historyBoundRow.holds Try.pinned (OpenSpec.ofChange historyBoundSpec)

/-- ITS FALSE NEIGHBOUR: 'it returns false'. Refute it at one input. -/
def historyBoundWrong : ChangeSpec := { name := "historyBound", fn := fun _ => fun
  | [d1, d2, d3] => { results := [.lit (.bool false)], args := [d1, d2, d3] }
  | _ => none }
def HistoryBoundWrongFalsely : Prop := historyBoundRow.holds Try.pinned (OpenSpec.ofChange historyBoundWrong)

/-- 'nostoslaw20.HistoryKeeps': WHATEVER THE INPUT: true; the input reads as it did. -/
def historyKeepsSpec : ChangeSpec := { name := "historyKeeps", fn := fun _ => fun
  | [d1, d2, d3] => { results := [.lit (.bool true)], args := [d1, d2, d3] }
  | _ => none }
def historyKeepsRow : OpenClaim := { program := "ytophcnbabhigmaa", sum := "3981375dbb096bf088f4d0a836df9ee3a5af6c97f13428c6dcee98cca62fb150", func := "nostos/nostoslaw20.HistoryKeeps", spec := "historyKeeps", unfollowed := true, recurses := true, apart := false }
def HistoryKeepsSaid : Prop := historyKeepsRow.holds Try.pinned (OpenSpec.ofChange historyKeepsSpec)

/-- ITS FALSE NEIGHBOUR: 'it returns false'. Refute it at one input. -/
def historyKeepsWrong : ChangeSpec := { name := "historyKeeps", fn := fun _ => fun
  | [d1, d2, d3] => { results := [.lit (.bool false)], args := [d1, d2, d3] }
  | _ => none }
def HistoryKeepsWrongFalsely : Prop := historyKeepsRow.holds Try.pinned (OpenSpec.ofChange historyKeepsWrong)

/-- 'nostoslaw20.HistoryRecs': WHATEVER THE INPUT: true; the input reads as it did. -/
def historyRecsSpec : ChangeSpec := { name := "historyRecs", fn := fun _ => fun
  | [d1, d2, d3] => { results := [.lit (.bool true)], args := [d1, d2, d3] }
  | _ => none }
def historyRecsRow : OpenClaim := { program := "ytophcnbabhigmaa", sum := "3981375dbb096bf088f4d0a836df9ee3a5af6c97f13428c6dcee98cca62fb150", func := "nostos/nostoslaw20.HistoryRecs", spec := "historyRecs", unfollowed := true, recurses := true, apart := false }
def HistoryRecsSaid : Prop := historyRecsRow.holds Try.pinned (OpenSpec.ofChange historyRecsSpec)

/-- ITS FALSE NEIGHBOUR: 'it returns false'. Refute it at one input. -/
def historyRecsWrong : ChangeSpec := { name := "historyRecs", fn := fun _ => fun
  | [d1, d2, d3] => { results := [.lit (.bool false)], args := [d1, d2, d3] }
  | _ => none }
def HistoryRecsWrongFalsely : Prop := historyRecsRow.holds Try.pinned (OpenSpec.ofChange historyRecsWrong)

/- THE SECOND FORM. 'bulk': how many values and letters a reading holds, each counted each time it is reached (what is shared counts as often as it is met; a slice's spare places count too). A statement '..UptoSaid' is the law's where the arguments, and the package variables that the reading takes, are together of bulk at most 1048576: NARROWER than '..Said'. Prove '..Said' where nothing that the law and all that it calls make is longer than what came in: it says more and counts as full. Else prove '..UptoSaid'. A law counts once. -/
mutual
def uptoBulk {H : Type} : DataW H → Nat
  | .lit (.string bytes) => bytes.length + 1
  | .lit _ => 1
  | .nil => 1
  | .ptr d => uptoBulk d + 1
  | .slice elems spare => uptoBulkAll elems + uptoBulkAll spare + 1
  | .agg parts => uptoBulkAll parts + 1
  | .iface _ d => uptoBulk d + 1
  | .map entries => uptoBulkEntries entries + 1
  | .held _ => 1
def uptoBulkAll {H : Type} : List (DataW H) → Nat
  | [] => 0
  | d :: r => uptoBulk d + uptoBulkAll r
def uptoBulkEntries {H : Type} : List (Lit × DataW H) → Nat
  | [] => 0
  | x :: r => uptoBulkEntry x + uptoBulkEntries r
def uptoBulkEntry {H : Type} : Lit × DataW H → Nat
  | (.string bytes, d) => bytes.length + uptoBulk d + 1
  | (_, d) => uptoBulk d + 1
 end
def uptoSmall : (H : Type) → List (DataW H) → Bool := fun _ ds => decide (uptoBulkAll ds ≤ 1048576)
def OpenSpec.upto (s : _root_.Go.ChangeSpec) : _root_.Go.OpenSpec := { _root_.Go.OpenSpec.ofChange s with cond := some uptoSmall }

/-- 'nostoslaw20.HistoryRuns', WHERE WHAT IT READS IS OF BULK AT MOST 1048576: true; the input reads as it did. -/
def historyRunsUptoRow : OpenClaim := { program := "ytophcnbabhigmaa", sum := "3981375dbb096bf088f4d0a836df9ee3a5af6c97f13428c6dcee98cca62fb150", func := "nostos/nostoslaw20.HistoryRuns", spec := "historyRuns", unfollowed := true, recurses := true, apart := false, narrowed := true }
def HistoryRunsUptoSaid : Prop := historyRunsUptoRow.holds Try.pinned (OpenSpec.upto historyRunsSpec)

/-- 'nostoslaw20.HistoryBound', WHERE WHAT IT READS IS OF BULK AT MOST 1048576: true; the input reads as it did. -/
def historyBoundUptoRow : OpenClaim := { program := "ytophcnbabhigmaa", sum := "3981375dbb096bf088f4d0a836df9ee3a5af6c97f13428c6dcee98cca62fb150", func := "nostos/nostoslaw20.HistoryBound", spec := "historyBound", unfollowed := true, recurses := true, apart := false, narrowed := true }
def HistoryBoundUptoSaid : Prop := historyBoundUptoRow.holds Try.pinned (OpenSpec.upto historyBoundSpec)

/-- 'nostoslaw20.HistoryKeeps', WHERE WHAT IT READS IS OF BULK AT MOST 1048576: true; the input reads as it did. -/
def historyKeepsUptoRow : OpenClaim := { program := "ytophcnbabhigmaa", sum := "3981375dbb096bf088f4d0a836df9ee3a5af6c97f13428c6dcee98cca62fb150", func := "nostos/nostoslaw20.HistoryKeeps", spec := "historyKeeps", unfollowed := true, recurses := true, apart := false, narrowed := true }
def HistoryKeepsUptoSaid : Prop := historyKeepsUptoRow.holds Try.pinned (OpenSpec.upto historyKeepsSpec)

/-- 'nostoslaw20.HistoryRecs', WHERE WHAT IT READS IS OF BULK AT MOST 1048576: true; the input reads as it did. -/
def historyRecsUptoRow : OpenClaim := { program := "ytophcnbabhigmaa", sum := "3981375dbb096bf088f4d0a836df9ee3a5af6c97f13428c6dcee98cca62fb150", func := "nostos/nostoslaw20.HistoryRecs", spec := "historyRecs", unfollowed := true, recurses := true, apart := false, narrowed := true }
def HistoryRecsUptoSaid : Prop := historyRecsUptoRow.holds Try.pinned (OpenSpec.upto historyRecsSpec)

end Rows
end Go.Proofs.Ytophcnbabhigmaa
