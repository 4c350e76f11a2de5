/-
  DERIVED. GIVEN WITH THE SEED: THE CARDS: each row of YtagdmfgnnhlakaaGreatDoorRows.lean that lists a variable, with what it lists TIED to the program's text (the seventh form; the later family's looks); each row that meets fmt, with fmt's text TOLD by the authors' own Lean function (tested against real Go, not proved from fmt's source: count such statements apart). THE CARD IS WHAT COUNTS. Prove the row's statement (the work); the ties are given (YtagdmfgnnhlakaaGreatDoorTie.lean); close each card by the builder's one call (the guide's Derived/Test/ToyasCard.lean, 'card_holds'). Laid BY PROGRAM, IN A SANDBOX (cutbox-door.mjs). By AI agents, Wed Nov 11 2026. No macro, syntax, notation, axiom, sorry.
-/
import Derived.Test.YtagdmfgnnhlakaaGreatDoorRows
import GoSem.ClaimSeven
namespace Go.Proofs.YtagdmfgnnhlakaaGreatDoor
namespace Rows

/-- THE TIED CARD OF 'nostoslaw09.AluDoes'. -/
def aluDoesCard : Claim7 := { stood := { row := aluDoesRow, standIns := [], harness := (true, "36913e44993d7eb5a489daeb5bcc268b91d4cbd1e00c779a74396030fdd72703"), looks := true }, kinds := [], alts := [], laidByText := true, laidKinds := [.listed, .data], laidTests := true, laidLooks := .later }
def AluDoesCardSaid : Prop := Claim7.holds Tryz.pinned (.plain (OpenSpec.ofChange aluDoesSpec)) aluDoesCard

/-- THE TIED CARD OF 'nostoslaw09.AluBelow'. -/
def aluBelowCard : Claim7 := { stood := { row := aluBelowRow, standIns := [], harness := (true, "36913e44993d7eb5a489daeb5bcc268b91d4cbd1e00c779a74396030fdd72703"), looks := true }, kinds := [], alts := [], laidByText := true, laidKinds := [.listed, .data], laidTests := true, laidLooks := .later }
def AluBelowCardSaid : Prop := Claim7.holds Tryz.pinned (.plain (OpenSpec.ofChange aluBelowSpec)) aluBelowCard

/-- THE TIED CARD OF 'nostoslaw09.AluMoves'. -/
def aluMovesCard : Claim7 := { stood := { row := aluMovesRow, standIns := [], harness := (true, "36913e44993d7eb5a489daeb5bcc268b91d4cbd1e00c779a74396030fdd72703"), looks := true }, kinds := [], alts := [], laidByText := true, laidKinds := [.listed, .data], laidTests := true, laidLooks := .later }
def AluMovesCardSaid : Prop := Claim7.holds Tryz.pinned (.plain (OpenSpec.ofChange aluMovesSpec)) aluMovesCard

/-- THE TIED CARD OF 'nostoslaw09.AluReckons'. -/
def aluReckonsCard : Claim7 := { stood := { row := aluReckonsRow, standIns := [], harness := (true, "36913e44993d7eb5a489daeb5bcc268b91d4cbd1e00c779a74396030fdd72703"), looks := true }, kinds := [], alts := [], laidByText := true, laidKinds := [.listed, .data], laidTests := true, laidLooks := .later }
def AluReckonsCardSaid : Prop := Claim7.holds Tryz.pinned (.plain (OpenSpec.ofChange aluReckonsSpec)) aluReckonsCard

/-- THE TIED CARD OF 'nostoslaw09.AluThrows'. -/
def aluThrowsCard : Claim7 := { stood := { row := aluThrowsRow, standIns := [], harness := (true, "36913e44993d7eb5a489daeb5bcc268b91d4cbd1e00c779a74396030fdd72703"), looks := true }, kinds := [], alts := [], laidByText := true, laidKinds := [.listed, .data], laidTests := true, laidLooks := .later }
def AluThrowsCardSaid : Prop := Claim7.holds Tryz.pinned (.plain (OpenSpec.ofChange aluThrowsSpec)) aluThrowsCard

/-- THE TIED CARD OF 'nostoslaw13.ExecBack'. -/
def execBackCard : Claim7 := { stood := { row := execBackRow, standIns := [], harness := (true, "36913e44993d7eb5a489daeb5bcc268b91d4cbd1e00c779a74396030fdd72703"), looks := true }, kinds := [], alts := [], laidByText := true, laidKinds := [.listed, .data], laidTests := true, laidLooks := .later }
def ExecBackCardSaid : Prop := Claim7.holds Tryz.pinned (.plain (OpenSpec.ofChange execBackSpec)) execBackCard

/-- THE TIED CARD OF 'nostoslaw13.ExecLoops'. -/
def execLoopsCard : Claim7 := { stood := { row := execLoopsRow, standIns := [], harness := (true, "36913e44993d7eb5a489daeb5bcc268b91d4cbd1e00c779a74396030fdd72703"), looks := true }, kinds := [], alts := [], laidByText := true, laidKinds := [.listed, .data], laidTests := true, laidLooks := .later }
def ExecLoopsCardSaid : Prop := Claim7.holds Tryz.pinned (.plain (OpenSpec.ofChange execLoopsSpec)) execLoopsCard

/-- THE TIED CARD OF 'nostoslaw13.ExecPasses'. -/
def execPassesCard : Claim7 := { stood := { row := execPassesRow, standIns := [], harness := (true, "36913e44993d7eb5a489daeb5bcc268b91d4cbd1e00c779a74396030fdd72703"), looks := true }, kinds := [], alts := [], laidByText := true, laidKinds := [.listed, .data], laidTests := true, laidLooks := .later }
def ExecPassesCardSaid : Prop := Claim7.holds Tryz.pinned (.plain (OpenSpec.ofChange execPassesSpec)) execPassesCard

/-- THE TIED CARD OF 'nostoslaw13.ExecStores'. -/
def execStoresCard : Claim7 := { stood := { row := execStoresRow, standIns := [], harness := (true, "36913e44993d7eb5a489daeb5bcc268b91d4cbd1e00c779a74396030fdd72703"), looks := true }, kinds := [], alts := [], laidByText := true, laidKinds := [.listed, .data], laidTests := true, laidLooks := .later }
def ExecStoresCardSaid : Prop := Claim7.holds Tryz.pinned (.plain (OpenSpec.ofChange execStoresSpec)) execStoresCard

/-- THE TIED CARD OF 'nostoslaw13.ExecCalls'. -/
def execCallsCard : Claim7 := { stood := { row := execCallsRow, standIns := [], harness := (true, "36913e44993d7eb5a489daeb5bcc268b91d4cbd1e00c779a74396030fdd72703"), looks := true }, kinds := [], alts := [], laidByText := true, laidKinds := [.listed, .data], laidTests := true, laidLooks := .later }
def ExecCallsCardSaid : Prop := Claim7.holds Tryz.pinned (.plain (OpenSpec.ofChange execCallsSpec)) execCallsCard

/-- THE SECOND FORM's CARD OF 'nostoslaw09.AluDoes'. -/
def aluDoesUptoCard : Claim7 := { stood := { row := aluDoesUptoRow, standIns := [], harness := (true, "36913e44993d7eb5a489daeb5bcc268b91d4cbd1e00c779a74396030fdd72703"), looks := true }, kinds := [], alts := [], laidByText := true, laidKinds := [.listed, .data], laidTests := true, laidLooks := .later }
def AluDoesUptoCardSaid : Prop := Claim7.holds Tryz.pinned (.plain (OpenSpec.upto aluDoesSpec)) aluDoesUptoCard

/-- THE SECOND FORM's CARD OF 'nostoslaw09.AluBelow'. -/
def aluBelowUptoCard : Claim7 := { stood := { row := aluBelowUptoRow, standIns := [], harness := (true, "36913e44993d7eb5a489daeb5bcc268b91d4cbd1e00c779a74396030fdd72703"), looks := true }, kinds := [], alts := [], laidByText := true, laidKinds := [.listed, .data], laidTests := true, laidLooks := .later }
def AluBelowUptoCardSaid : Prop := Claim7.holds Tryz.pinned (.plain (OpenSpec.upto aluBelowSpec)) aluBelowUptoCard

/-- THE SECOND FORM's CARD OF 'nostoslaw09.AluMoves'. -/
def aluMovesUptoCard : Claim7 := { stood := { row := aluMovesUptoRow, standIns := [], harness := (true, "36913e44993d7eb5a489daeb5bcc268b91d4cbd1e00c779a74396030fdd72703"), looks := true }, kinds := [], alts := [], laidByText := true, laidKinds := [.listed, .data], laidTests := true, laidLooks := .later }
def AluMovesUptoCardSaid : Prop := Claim7.holds Tryz.pinned (.plain (OpenSpec.upto aluMovesSpec)) aluMovesUptoCard

/-- THE SECOND FORM's CARD OF 'nostoslaw09.AluReckons'. -/
def aluReckonsUptoCard : Claim7 := { stood := { row := aluReckonsUptoRow, standIns := [], harness := (true, "36913e44993d7eb5a489daeb5bcc268b91d4cbd1e00c779a74396030fdd72703"), looks := true }, kinds := [], alts := [], laidByText := true, laidKinds := [.listed, .data], laidTests := true, laidLooks := .later }
def AluReckonsUptoCardSaid : Prop := Claim7.holds Tryz.pinned (.plain (OpenSpec.upto aluReckonsSpec)) aluReckonsUptoCard

/-- THE SECOND FORM's CARD OF 'nostoslaw09.AluThrows'. -/
def aluThrowsUptoCard : Claim7 := { stood := { row := aluThrowsUptoRow, standIns := [], harness := (true, "36913e44993d7eb5a489daeb5bcc268b91d4cbd1e00c779a74396030fdd72703"), looks := true }, kinds := [], alts := [], laidByText := true, laidKinds := [.listed, .data], laidTests := true, laidLooks := .later }
def AluThrowsUptoCardSaid : Prop := Claim7.holds Tryz.pinned (.plain (OpenSpec.upto aluThrowsSpec)) aluThrowsUptoCard

/-- THE SECOND FORM's CARD OF 'nostoslaw13.ExecBack'. -/
def execBackUptoCard : Claim7 := { stood := { row := execBackUptoRow, standIns := [], harness := (true, "36913e44993d7eb5a489daeb5bcc268b91d4cbd1e00c779a74396030fdd72703"), looks := true }, kinds := [], alts := [], laidByText := true, laidKinds := [.listed, .data], laidTests := true, laidLooks := .later }
def ExecBackUptoCardSaid : Prop := Claim7.holds Tryz.pinned (.plain (OpenSpec.upto execBackSpec)) execBackUptoCard

/-- THE SECOND FORM's CARD OF 'nostoslaw13.ExecLoops'. -/
def execLoopsUptoCard : Claim7 := { stood := { row := execLoopsUptoRow, standIns := [], harness := (true, "36913e44993d7eb5a489daeb5bcc268b91d4cbd1e00c779a74396030fdd72703"), looks := true }, kinds := [], alts := [], laidByText := true, laidKinds := [.listed, .data], laidTests := true, laidLooks := .later }
def ExecLoopsUptoCardSaid : Prop := Claim7.holds Tryz.pinned (.plain (OpenSpec.upto execLoopsSpec)) execLoopsUptoCard

/-- THE SECOND FORM's CARD OF 'nostoslaw13.ExecPasses'. -/
def execPassesUptoCard : Claim7 := { stood := { row := execPassesUptoRow, standIns := [], harness := (true, "36913e44993d7eb5a489daeb5bcc268b91d4cbd1e00c779a74396030fdd72703"), looks := true }, kinds := [], alts := [], laidByText := true, laidKinds := [.listed, .data], laidTests := true, laidLooks := .later }
def ExecPassesUptoCardSaid : Prop := Claim7.holds Tryz.pinned (.plain (OpenSpec.upto execPassesSpec)) execPassesUptoCard

/-- THE SECOND FORM's CARD OF 'nostoslaw13.ExecStores'. -/
def execStoresUptoCard : Claim7 := { stood := { row := execStoresUptoRow, standIns := [], harness := (true, "36913e44993d7eb5a489daeb5bcc268b91d4cbd1e00c779a74396030fdd72703"), looks := true }, kinds := [], alts := [], laidByText := true, laidKinds := [.listed, .data], laidTests := true, laidLooks := .later }
def ExecStoresUptoCardSaid : Prop := Claim7.holds Tryz.pinned (.plain (OpenSpec.upto execStoresSpec)) execStoresUptoCard

/-- THE SECOND FORM's CARD OF 'nostoslaw13.ExecCalls'. -/
def execCallsUptoCard : Claim7 := { stood := { row := execCallsUptoRow, standIns := [], harness := (true, "36913e44993d7eb5a489daeb5bcc268b91d4cbd1e00c779a74396030fdd72703"), looks := true }, kinds := [], alts := [], laidByText := true, laidKinds := [.listed, .data], laidTests := true, laidLooks := .later }
def ExecCallsUptoCardSaid : Prop := Claim7.holds Tryz.pinned (.plain (OpenSpec.upto execCallsSpec)) execCallsUptoCard
end Rows
end Go.Proofs.YtagdmfgnnhlakaaGreatDoor
