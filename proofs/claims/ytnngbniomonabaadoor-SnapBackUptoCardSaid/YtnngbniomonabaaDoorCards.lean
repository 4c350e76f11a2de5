/-
  DERIVED. GIVEN WITH THE SEED: THE CARDS: each row of YtnngbniomonabaaDoorRows.lean that lists a variable, with what it lists TIED to the program's text (the seventh form; the later family's looks); each row that meets fmt, with fmt's text TOLD by the authors' own Lean function (tested against real Go, not proved from fmt's source: count such statements apart). THE CARD IS WHAT COUNTS. Prove the row's statement (the work); the ties are given (YtnngbniomonabaaDoorTie.lean); close each card by the builder's one call (the guide's Derived/Test/ToyasCard.lean, 'card_holds'). Laid BY PROGRAM, IN A SANDBOX (cutbox-door.mjs). By AI agents, Wed Nov 11 2026. No macro, syntax, notation, axiom, sorry.
-/
import Derived.Test.YtnngbniomonabaaDoorRows
import GoSem.ClaimSeven
namespace Go.Proofs.YtnngbniomonabaaDoor
namespace Rows

/-- THE TIED CARD OF 'nostoslaw19.SnapBack'. -/
def snapBackCard : Claim7 := { stood := { row := snapBackRow, standIns := [], harness := (true, "7daed3dbebae9d957bfc7ea341032e573c7e69bd699fbcab7d8174671abb573f"), looks := true }, kinds := [], alts := [], laidByText := true, laidKinds := [.data, .pinned], laidTests := true, laidLooks := .later }
def SnapBackCardSaid : Prop := Claim7.holds Tryd.pinned (.plain (OpenSpec.ofChange snapBackSpec)) snapBackCard

/-- THE TIED CARD OF 'nostoslaw19.SnapOne'. -/
def snapOneCard : Claim7 := { stood := { row := snapOneRow, standIns := [], harness := (true, "7daed3dbebae9d957bfc7ea341032e573c7e69bd699fbcab7d8174671abb573f"), looks := true }, kinds := [], alts := [], laidByText := true, laidKinds := [.data, .pinned], laidTests := true, laidLooks := .later }
def SnapOneCardSaid : Prop := Claim7.holds Tryd.pinned (.plain (OpenSpec.ofChange snapOneSpec)) snapOneCard

/-- THE SECOND FORM's CARD OF 'nostoslaw19.SnapBack'. -/
def snapBackUptoCard : Claim7 := { stood := { row := snapBackUptoRow, standIns := [], harness := (true, "7daed3dbebae9d957bfc7ea341032e573c7e69bd699fbcab7d8174671abb573f"), looks := true }, kinds := [], alts := [], laidByText := true, laidKinds := [.data, .pinned], laidTests := true, laidLooks := .later }
def SnapBackUptoCardSaid : Prop := Claim7.holds Tryd.pinned (.plain (OpenSpec.upto snapBackSpec)) snapBackUptoCard

/-- THE SECOND FORM's CARD OF 'nostoslaw19.SnapOne'. -/
def snapOneUptoCard : Claim7 := { stood := { row := snapOneUptoRow, standIns := [], harness := (true, "7daed3dbebae9d957bfc7ea341032e573c7e69bd699fbcab7d8174671abb573f"), looks := true }, kinds := [], alts := [], laidByText := true, laidKinds := [.data, .pinned], laidTests := true, laidLooks := .later }
def SnapOneUptoCardSaid : Prop := Claim7.holds Tryd.pinned (.plain (OpenSpec.upto snapOneSpec)) snapOneUptoCard
end Rows
end Go.Proofs.YtnngbniomonabaaDoor
