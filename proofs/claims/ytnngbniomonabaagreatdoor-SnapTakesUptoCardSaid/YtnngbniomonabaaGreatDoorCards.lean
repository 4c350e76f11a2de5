/-
  DERIVED. GIVEN WITH THE SEED: THE CARDS: each row of YtnngbniomonabaaGreatDoorRows.lean that lists a variable, with what it lists TIED to the program's text (the seventh form; the later family's looks); each row that meets fmt, with fmt's text TOLD by the authors' own Lean function (tested against real Go, not proved from fmt's source: count such statements apart). THE CARD IS WHAT COUNTS. Prove the row's statement (the work); the ties are given (YtnngbniomonabaaGreatDoorTie.lean); close each card by the builder's one call (the guide's Derived/Test/ToyasCard.lean, 'card_holds'). Laid BY PROGRAM, IN A SANDBOX (cutbox-door.mjs). By AI agents, Wed Nov 11 2026. No macro, syntax, notation, axiom, sorry.
-/
import Derived.Test.YtnngbniomonabaaGreatDoorRows
import GoSem.ClaimSeven
namespace Go.Proofs.YtnngbniomonabaaGreatDoor
namespace Rows

/-- THE TIED CARD OF 'nostoslaw19.SnapPuts'. -/
def snapPutsCard : Claim7 := { stood := { row := snapPutsRow, standIns := [], harness := (true, "f6006a02afb57fc50615391a37ee3f7f0a2cfcd45d73a7c2aac94dccc122fa2f"), looks := true }, kinds := [], alts := [], laidByText := true, laidKinds := [.data, .pinned], laidTests := true, laidLooks := .later }
def SnapPutsCardSaid : Prop := Claim7.holds Tryz.pinned (.plain (OpenSpec.ofChange snapPutsSpec)) snapPutsCard

/-- THE TIED CARD OF 'nostoslaw19.SnapTakes'. -/
def snapTakesCard : Claim7 := { stood := { row := snapTakesRow, standIns := [], harness := (true, "f6006a02afb57fc50615391a37ee3f7f0a2cfcd45d73a7c2aac94dccc122fa2f"), looks := true }, kinds := [], alts := [], laidByText := true, laidKinds := [.data, .pinned], laidTests := true, laidLooks := .later }
def SnapTakesCardSaid : Prop := Claim7.holds Tryz.pinned (.plain (OpenSpec.ofChange snapTakesSpec)) snapTakesCard

/-- THE SECOND FORM's CARD OF 'nostoslaw19.SnapPuts'. -/
def snapPutsUptoCard : Claim7 := { stood := { row := snapPutsUptoRow, standIns := [], harness := (true, "f6006a02afb57fc50615391a37ee3f7f0a2cfcd45d73a7c2aac94dccc122fa2f"), looks := true }, kinds := [], alts := [], laidByText := true, laidKinds := [.data, .pinned], laidTests := true, laidLooks := .later }
def SnapPutsUptoCardSaid : Prop := Claim7.holds Tryz.pinned (.plain (OpenSpec.upto snapPutsSpec)) snapPutsUptoCard

/-- THE SECOND FORM's CARD OF 'nostoslaw19.SnapTakes'. -/
def snapTakesUptoCard : Claim7 := { stood := { row := snapTakesUptoRow, standIns := [], harness := (true, "f6006a02afb57fc50615391a37ee3f7f0a2cfcd45d73a7c2aac94dccc122fa2f"), looks := true }, kinds := [], alts := [], laidByText := true, laidKinds := [.data, .pinned], laidTests := true, laidLooks := .later }
def SnapTakesUptoCardSaid : Prop := Claim7.holds Tryz.pinned (.plain (OpenSpec.upto snapTakesSpec)) snapTakesUptoCard
end Rows
end Go.Proofs.YtnngbniomonabaaGreatDoor
