/-
  DERIVED. GIVEN WITH THE SEED: THE CARDS: each row of YtadilgibkjdheaaGreatDoorRows.lean that lists a variable, with what it lists TIED to the program's text (the seventh form; the later family's looks); each row that meets fmt, with fmt's text TOLD by the authors' own Lean function (tested against real Go, not proved from fmt's source: count such statements apart). THE CARD IS WHAT COUNTS. Prove the row's statement (the work); the ties are given (YtadilgibkjdheaaGreatDoorTie.lean); close each card by the builder's one call (the guide's Derived/Test/ToyasCard.lean, 'card_holds'). Laid BY PROGRAM, IN A SANDBOX (cutbox-door.mjs). By AI agents, Wed Nov 11 2026. No macro, syntax, notation, axiom, sorry.
-/
import Derived.Test.YtadilgibkjdheaaGreatDoorRows
import GoSem.ClaimSeven
namespace Go.Proofs.YtadilgibkjdheaaGreatDoor
namespace Rows

/-- THE TIED CARD OF 'nostoslaw14.StepThrows'. -/
def stepThrowsCard : Claim7 := { stood := { row := stepThrowsRow, standIns := [], harness := (true, "9dd026fe9acd6843f394a3086982b4c2e4de6d8699ae6575078404118792b04b"), looks := true }, kinds := [], alts := [], laidByText := true, laidKinds := [.listed, .data], laidTests := true, laidLooks := .later }
def StepThrowsCardSaid : Prop := Claim7.holds Tryz.pinned (.plain (OpenSpec.ofChange stepThrowsSpec)) stepThrowsCard

/-- THE TIED CARD OF 'nostoslaw15.BootMay'. -/
def bootMayCard : Claim7 := { stood := { row := bootMayRow, standIns := [], harness := (true, "9dd026fe9acd6843f394a3086982b4c2e4de6d8699ae6575078404118792b04b"), looks := true }, kinds := [], alts := [], laidByText := true, laidKinds := [.listed, .data], laidTests := true, laidLooks := .later }
def BootMayCardSaid : Prop := Claim7.holds Tryz.pinned (.plain (OpenSpec.ofChange bootMaySpec)) bootMayCard

/-- THE TIED CARD OF 'nostoslaw22.WatchPlaces'. -/
def watchPlacesCard : Claim7 := { stood := { row := watchPlacesRow, standIns := [], harness := (true, "9dd026fe9acd6843f394a3086982b4c2e4de6d8699ae6575078404118792b04b"), looks := true }, kinds := [], alts := [], laidByText := true, laidKinds := [.listed, .data], laidTests := true, laidLooks := .later }
def WatchPlacesCardSaid : Prop := Claim7.holds Tryz.pinned (.plain (OpenSpec.ofChange watchPlacesSpec)) watchPlacesCard

/-- THE TIED CARD OF 'nostoslaw22.WatchChanges'. -/
def watchChangesCard : Claim7 := { stood := { row := watchChangesRow, standIns := [], harness := (true, "9dd026fe9acd6843f394a3086982b4c2e4de6d8699ae6575078404118792b04b"), looks := true }, kinds := [], alts := [], laidByText := true, laidKinds := [.listed, .data], laidTests := true, laidLooks := .later }
def WatchChangesCardSaid : Prop := Claim7.holds Tryz.pinned (.plain (OpenSpec.ofChange watchChangesSpec)) watchChangesCard

/-- THE SECOND FORM's CARD OF 'nostoslaw14.StepThrows'. -/
def stepThrowsUptoCard : Claim7 := { stood := { row := stepThrowsUptoRow, standIns := [], harness := (true, "9dd026fe9acd6843f394a3086982b4c2e4de6d8699ae6575078404118792b04b"), looks := true }, kinds := [], alts := [], laidByText := true, laidKinds := [.listed, .data], laidTests := true, laidLooks := .later }
def StepThrowsUptoCardSaid : Prop := Claim7.holds Tryz.pinned (.plain (OpenSpec.upto stepThrowsSpec)) stepThrowsUptoCard

/-- THE SECOND FORM's CARD OF 'nostoslaw15.BootMay'. -/
def bootMayUptoCard : Claim7 := { stood := { row := bootMayUptoRow, standIns := [], harness := (true, "9dd026fe9acd6843f394a3086982b4c2e4de6d8699ae6575078404118792b04b"), looks := true }, kinds := [], alts := [], laidByText := true, laidKinds := [.listed, .data], laidTests := true, laidLooks := .later }
def BootMayUptoCardSaid : Prop := Claim7.holds Tryz.pinned (.plain (OpenSpec.upto bootMaySpec)) bootMayUptoCard

/-- THE SECOND FORM's CARD OF 'nostoslaw22.WatchPlaces'. -/
def watchPlacesUptoCard : Claim7 := { stood := { row := watchPlacesUptoRow, standIns := [], harness := (true, "9dd026fe9acd6843f394a3086982b4c2e4de6d8699ae6575078404118792b04b"), looks := true }, kinds := [], alts := [], laidByText := true, laidKinds := [.listed, .data], laidTests := true, laidLooks := .later }
def WatchPlacesUptoCardSaid : Prop := Claim7.holds Tryz.pinned (.plain (OpenSpec.upto watchPlacesSpec)) watchPlacesUptoCard

/-- THE SECOND FORM's CARD OF 'nostoslaw22.WatchChanges'. -/
def watchChangesUptoCard : Claim7 := { stood := { row := watchChangesUptoRow, standIns := [], harness := (true, "9dd026fe9acd6843f394a3086982b4c2e4de6d8699ae6575078404118792b04b"), looks := true }, kinds := [], alts := [], laidByText := true, laidKinds := [.listed, .data], laidTests := true, laidLooks := .later }
def WatchChangesUptoCardSaid : Prop := Claim7.holds Tryz.pinned (.plain (OpenSpec.upto watchChangesSpec)) watchChangesUptoCard
end Rows
end Go.Proofs.YtadilgibkjdheaaGreatDoor
