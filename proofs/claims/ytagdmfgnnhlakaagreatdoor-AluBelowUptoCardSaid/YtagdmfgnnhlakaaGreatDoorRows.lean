/-
  NARROWER THAN 'FOR EVERY INPUT', by the rows' own cells (each row's printed sentence says how): AluDoes: laid · AluBelow: laid · AluMoves: laid · AluReckons: laid · AluThrows: laid · ExecBack: laid · ExecLoops: laid · ExecPasses: laid · ExecStores: laid · ExecCalls: laid.
  DERIVED. THE GIVEN ROWS OF THIS SEAT. 10 by the template 'for every input the law returns true; each argument reads behind the call as it read before'; 0 by the template 'total and deterministic' (their statements: YtagdmfgnnhlakaaGreatDoorTotals.lean).
  GIVEN WITH THE SEED: the statements are not yours to turn. If you find one false, say at which input.
  Laid BY PROGRAM, IN A SANDBOX (cutbox-rows.mjs): the forced cells as the released guide's own fill.sh prints them over the translation 6f133b558dda62d8… (all of the seat's roots in one cut). By AI agents, Wed Nov 11 2026. No macro, syntax, notation, axiom, sorry.
-/
import Derived.Test.YtagdmfgnnhlakaaGreatDoorChecked
import GoSem.Claim
import GoSem.ClaimJoined
import GoSem.ClaimMapViews
import Derived.JoinedTies
import Derived.KernelRfl
namespace Go.Proofs.YtagdmfgnnhlakaaGreatDoor
/- THE CELL 'sum', in the pinned program and in every row, IS THE sha256 OF THE DUMP (.gsa) THAT YtagdmfgnnhlakaaGreatDoorProg.lean LOADS. Nothing in Lean hashes anything: it is a label: what it is worth is what the hold of that sum in a sandbox is worth. -/
noncomputable def Tryz.pinned : Pinned := { name := "ytagdmfgnnhlakaagreatdoor", sum := "6f133b558dda62d8e72459059ef472efa746ed18496e9a4fb6859872ac5b9cd4", checked := Tryz.checked }
namespace Rows
def none {H : Type} : Left H := { results := [], args := [] }

/- WHAT THE LISTED PACKAGE-LEVEL VARIABLES READ AS WHEN THE CALL BEGINS. Each datum BY PROGRAM (the guide's laid-datum.mjs) off the statement by which the dump's own 'gosem.cut.vars' lays the variable. In a bare row this is a premise. The card (YtagdmfgnnhlakaaGreatDoorCards.lean) ties it to the program's text. -/
def laid_unicode_White_Space {H : Type} : DataW H := .ptr (.agg [.slice [.agg [.lit (.int .u16 9), .lit (.int .u16 13), .lit (.int .u16 1)], .agg [.lit (.int .u16 32), .lit (.int .u16 133), .lit (.int .u16 101)], .agg [.lit (.int .u16 160), .lit (.int .u16 5760), .lit (.int .u16 5600)], .agg [.lit (.int .u16 8192), .lit (.int .u16 8202), .lit (.int .u16 1)], .agg [.lit (.int .u16 8232), .lit (.int .u16 8233), .lit (.int .u16 1)], .agg [.lit (.int .u16 8239), .lit (.int .u16 8287), .lit (.int .u16 48)], .agg [.lit (.int .u16 12288), .lit (.int .u16 12288), .lit (.int .u16 1)]] [], .nil, .lit (.int .i64 2)])
def laid_strings_asciiSpace {H : Type} : DataW H := .agg [.lit (.int .u8 0), .lit (.int .u8 0), .lit (.int .u8 0), .lit (.int .u8 0), .lit (.int .u8 0), .lit (.int .u8 0), .lit (.int .u8 0), .lit (.int .u8 0), .lit (.int .u8 0), .lit (.int .u8 1), .lit (.int .u8 1), .lit (.int .u8 1), .lit (.int .u8 1), .lit (.int .u8 1), .lit (.int .u8 0), .lit (.int .u8 0), .lit (.int .u8 0), .lit (.int .u8 0), .lit (.int .u8 0), .lit (.int .u8 0), .lit (.int .u8 0), .lit (.int .u8 0), .lit (.int .u8 0), .lit (.int .u8 0), .lit (.int .u8 0), .lit (.int .u8 0), .lit (.int .u8 0), .lit (.int .u8 0), .lit (.int .u8 0), .lit (.int .u8 0), .lit (.int .u8 0), .lit (.int .u8 0), .lit (.int .u8 1), .lit (.int .u8 0), .lit (.int .u8 0), .lit (.int .u8 0), .lit (.int .u8 0), .lit (.int .u8 0), .lit (.int .u8 0), .lit (.int .u8 0), .lit (.int .u8 0), .lit (.int .u8 0), .lit (.int .u8 0), .lit (.int .u8 0), .lit (.int .u8 0), .lit (.int .u8 0), .lit (.int .u8 0), .lit (.int .u8 0), .lit (.int .u8 0), .lit (.int .u8 0), .lit (.int .u8 0), .lit (.int .u8 0), .lit (.int .u8 0), .lit (.int .u8 0), .lit (.int .u8 0), .lit (.int .u8 0), .lit (.int .u8 0), .lit (.int .u8 0), .lit (.int .u8 0), .lit (.int .u8 0), .lit (.int .u8 0), .lit (.int .u8 0), .lit (.int .u8 0), .lit (.int .u8 0), .lit (.int .u8 0), .lit (.int .u8 0), .lit (.int .u8 0), .lit (.int .u8 0), .lit (.int .u8 0), .lit (.int .u8 0), .lit (.int .u8 0), .lit (.int .u8 0), .lit (.int .u8 0), .lit (.int .u8 0), .lit (.int .u8 0), .lit (.int .u8 0), .lit (.int .u8 0), .lit (.int .u8 0), .lit (.int .u8 0), .lit (.int .u8 0), .lit (.int .u8 0), .lit (.int .u8 0), .lit (.int .u8 0), .lit (.int .u8 0), .lit (.int .u8 0), .lit (.int .u8 0), .lit (.int .u8 0), .lit (.int .u8 0), .lit (.int .u8 0), .lit (.int .u8 0), .lit (.int .u8 0), .lit (.int .u8 0), .lit (.int .u8 0), .lit (.int .u8 0), .lit (.int .u8 0), .lit (.int .u8 0), .lit (.int .u8 0), .lit (.int .u8 0), .lit (.int .u8 0), .lit (.int .u8 0), .lit (.int .u8 0), .lit (.int .u8 0), .lit (.int .u8 0), .lit (.int .u8 0), .lit (.int .u8 0), .lit (.int .u8 0), .lit (.int .u8 0), .lit (.int .u8 0), .lit (.int .u8 0), .lit (.int .u8 0), .lit (.int .u8 0), .lit (.int .u8 0), .lit (.int .u8 0), .lit (.int .u8 0), .lit (.int .u8 0), .lit (.int .u8 0), .lit (.int .u8 0), .lit (.int .u8 0), .lit (.int .u8 0), .lit (.int .u8 0), .lit (.int .u8 0), .lit (.int .u8 0), .lit (.int .u8 0), .lit (.int .u8 0), .lit (.int .u8 0), .lit (.int .u8 0), .lit (.int .u8 0), .lit (.int .u8 0), .lit (.int .u8 0), .lit (.int .u8 0), .lit (.int .u8 0), .lit (.int .u8 0), .lit (.int .u8 0), .lit (.int .u8 0), .lit (.int .u8 0), .lit (.int .u8 0), .lit (.int .u8 0), .lit (.int .u8 0), .lit (.int .u8 0), .lit (.int .u8 0), .lit (.int .u8 0), .lit (.int .u8 0), .lit (.int .u8 0), .lit (.int .u8 0), .lit (.int .u8 0), .lit (.int .u8 0), .lit (.int .u8 0), .lit (.int .u8 0), .lit (.int .u8 0), .lit (.int .u8 0), .lit (.int .u8 0), .lit (.int .u8 0), .lit (.int .u8 0), .lit (.int .u8 0), .lit (.int .u8 0), .lit (.int .u8 0), .lit (.int .u8 0), .lit (.int .u8 0), .lit (.int .u8 0), .lit (.int .u8 0), .lit (.int .u8 0), .lit (.int .u8 0), .lit (.int .u8 0), .lit (.int .u8 0), .lit (.int .u8 0), .lit (.int .u8 0), .lit (.int .u8 0), .lit (.int .u8 0), .lit (.int .u8 0), .lit (.int .u8 0), .lit (.int .u8 0), .lit (.int .u8 0), .lit (.int .u8 0), .lit (.int .u8 0), .lit (.int .u8 0), .lit (.int .u8 0), .lit (.int .u8 0), .lit (.int .u8 0), .lit (.int .u8 0), .lit (.int .u8 0), .lit (.int .u8 0), .lit (.int .u8 0), .lit (.int .u8 0), .lit (.int .u8 0), .lit (.int .u8 0), .lit (.int .u8 0), .lit (.int .u8 0), .lit (.int .u8 0), .lit (.int .u8 0), .lit (.int .u8 0), .lit (.int .u8 0), .lit (.int .u8 0), .lit (.int .u8 0), .lit (.int .u8 0), .lit (.int .u8 0), .lit (.int .u8 0), .lit (.int .u8 0), .lit (.int .u8 0), .lit (.int .u8 0), .lit (.int .u8 0), .lit (.int .u8 0), .lit (.int .u8 0), .lit (.int .u8 0), .lit (.int .u8 0), .lit (.int .u8 0), .lit (.int .u8 0), .lit (.int .u8 0), .lit (.int .u8 0), .lit (.int .u8 0), .lit (.int .u8 0), .lit (.int .u8 0), .lit (.int .u8 0), .lit (.int .u8 0), .lit (.int .u8 0), .lit (.int .u8 0), .lit (.int .u8 0), .lit (.int .u8 0), .lit (.int .u8 0), .lit (.int .u8 0), .lit (.int .u8 0), .lit (.int .u8 0), .lit (.int .u8 0), .lit (.int .u8 0), .lit (.int .u8 0), .lit (.int .u8 0), .lit (.int .u8 0), .lit (.int .u8 0), .lit (.int .u8 0), .lit (.int .u8 0), .lit (.int .u8 0), .lit (.int .u8 0), .lit (.int .u8 0), .lit (.int .u8 0), .lit (.int .u8 0), .lit (.int .u8 0), .lit (.int .u8 0), .lit (.int .u8 0), .lit (.int .u8 0), .lit (.int .u8 0), .lit (.int .u8 0), .lit (.int .u8 0), .lit (.int .u8 0), .lit (.int .u8 0), .lit (.int .u8 0), .lit (.int .u8 0), .lit (.int .u8 0), .lit (.int .u8 0), .lit (.int .u8 0), .lit (.int .u8 0), .lit (.int .u8 0), .lit (.int .u8 0), .lit (.int .u8 0), .lit (.int .u8 0), .lit (.int .u8 0), .lit (.int .u8 0), .lit (.int .u8 0)]

/-- 'nostoslaw09.AluDoes': WHATEVER THE INPUT: true; the input reads as it did. -/
def aluDoesSpec : ChangeSpec := { name := "aluDoes", fn := fun _ => fun
  | [d1, d2, d3] => { results := [.lit (.bool true)], args := [d1, d2, d3] }
  | _ => none }
def aluDoesRow : OpenClaim := { program := "ytagdmfgnnhlakaagreatdoor", sum := "6f133b558dda62d8e72459059ef472efa746ed18496e9a4fb6859872ac5b9cd4", func := "nostos/nostoslaw09.AluDoes", spec := "aluDoes", inPlace := ["internal/abi.NoEscape", "math.Float64frombits", "math.Float64bits", "math.sqrt", "math.archFloor", "math.archTrunc"], unfollowed := true, recurses := true, named := ["strings.asciiSpace", "unicode.White_Space", "math/bits.divideError", "math/bits.overflowError"], apart := false, laid := [("unicode.White_Space", laid_unicode_White_Space), ("strings.asciiSpace", laid_strings_asciiSpace)] }
def AluDoesSaid : Prop := aluDoesRow.holds Tryz.pinned (OpenSpec.ofChange aluDoesSpec)

/-- ITS FALSE NEIGHBOUR: 'it returns false'. Refute it at one input. -/
def aluDoesWrong : ChangeSpec := { name := "aluDoes", fn := fun _ => fun
  | [d1, d2, d3] => { results := [.lit (.bool false)], args := [d1, d2, d3] }
  | _ => none }
def AluDoesWrongFalsely : Prop := aluDoesRow.holds Tryz.pinned (OpenSpec.ofChange aluDoesWrong)

/-- 'nostoslaw09.AluBelow': WHATEVER THE INPUT: true; the input reads as it did. -/
def aluBelowSpec : ChangeSpec := { name := "aluBelow", fn := fun _ => fun
  | [d1, d2, d3] => { results := [.lit (.bool true)], args := [d1, d2, d3] }
  | _ => none }
def aluBelowRow : OpenClaim := { program := "ytagdmfgnnhlakaagreatdoor", sum := "6f133b558dda62d8e72459059ef472efa746ed18496e9a4fb6859872ac5b9cd4", func := "nostos/nostoslaw09.AluBelow", spec := "aluBelow", inPlace := ["internal/abi.NoEscape", "math.Float64frombits", "math.Float64bits", "math.sqrt", "math.archFloor", "math.archTrunc"], unfollowed := true, recurses := true, named := ["strings.asciiSpace", "unicode.White_Space", "math/bits.divideError", "math/bits.overflowError"], apart := false, laid := [("unicode.White_Space", laid_unicode_White_Space), ("strings.asciiSpace", laid_strings_asciiSpace)] }
def AluBelowSaid : Prop := aluBelowRow.holds Tryz.pinned (OpenSpec.ofChange aluBelowSpec)

/-- ITS FALSE NEIGHBOUR: 'it returns false'. Refute it at one input. -/
def aluBelowWrong : ChangeSpec := { name := "aluBelow", fn := fun _ => fun
  | [d1, d2, d3] => { results := [.lit (.bool false)], args := [d1, d2, d3] }
  | _ => none }
def AluBelowWrongFalsely : Prop := aluBelowRow.holds Tryz.pinned (OpenSpec.ofChange aluBelowWrong)

/-- 'nostoslaw09.AluMoves': WHATEVER THE INPUT: true; the input reads as it did. -/
def aluMovesSpec : ChangeSpec := { name := "aluMoves", fn := fun _ => fun
  | [d] => { results := [.lit (.bool true)], args := [d] }
  | _ => none }
def aluMovesRow : OpenClaim := { program := "ytagdmfgnnhlakaagreatdoor", sum := "6f133b558dda62d8e72459059ef472efa746ed18496e9a4fb6859872ac5b9cd4", func := "nostos/nostoslaw09.AluMoves", spec := "aluMoves", inPlace := ["internal/abi.NoEscape", "math.Float64frombits", "math.Float64bits", "math.sqrt", "math.archFloor", "math.archTrunc"], unfollowed := true, recurses := true, named := ["strings.asciiSpace", "unicode.White_Space", "math/bits.divideError", "math/bits.overflowError"], apart := false, laid := [("unicode.White_Space", laid_unicode_White_Space), ("strings.asciiSpace", laid_strings_asciiSpace)] }
def AluMovesSaid : Prop := aluMovesRow.holds Tryz.pinned (OpenSpec.ofChange aluMovesSpec)

/-- ITS FALSE NEIGHBOUR: 'it returns false'. Refute it at one input. -/
def aluMovesWrong : ChangeSpec := { name := "aluMoves", fn := fun _ => fun
  | [d] => { results := [.lit (.bool false)], args := [d] }
  | _ => none }
def AluMovesWrongFalsely : Prop := aluMovesRow.holds Tryz.pinned (OpenSpec.ofChange aluMovesWrong)

/-- 'nostoslaw09.AluReckons': WHATEVER THE INPUT: true; the input reads as it did. -/
def aluReckonsSpec : ChangeSpec := { name := "aluReckons", fn := fun _ => fun
  | [d1, d2] => { results := [.lit (.bool true)], args := [d1, d2] }
  | _ => none }
def aluReckonsRow : OpenClaim := { program := "ytagdmfgnnhlakaagreatdoor", sum := "6f133b558dda62d8e72459059ef472efa746ed18496e9a4fb6859872ac5b9cd4", func := "nostos/nostoslaw09.AluReckons", spec := "aluReckons", inPlace := ["internal/abi.NoEscape", "math.Float64frombits", "math.Float64bits", "math.sqrt", "math.archFloor", "math.archTrunc"], unfollowed := true, recurses := true, named := ["strings.asciiSpace", "unicode.White_Space", "math/bits.divideError", "math/bits.overflowError"], apart := false, laid := [("unicode.White_Space", laid_unicode_White_Space), ("strings.asciiSpace", laid_strings_asciiSpace)] }
def AluReckonsSaid : Prop := aluReckonsRow.holds Tryz.pinned (OpenSpec.ofChange aluReckonsSpec)

/-- ITS FALSE NEIGHBOUR: 'it returns false'. Refute it at one input. -/
def aluReckonsWrong : ChangeSpec := { name := "aluReckons", fn := fun _ => fun
  | [d1, d2] => { results := [.lit (.bool false)], args := [d1, d2] }
  | _ => none }
def AluReckonsWrongFalsely : Prop := aluReckonsRow.holds Tryz.pinned (OpenSpec.ofChange aluReckonsWrong)

/-- 'nostoslaw09.AluThrows': WHATEVER THE INPUT: true; the input reads as it did. -/
def aluThrowsSpec : ChangeSpec := { name := "aluThrows", fn := fun _ => fun
  | [d1, d2] => { results := [.lit (.bool true)], args := [d1, d2] }
  | _ => none }
def aluThrowsRow : OpenClaim := { program := "ytagdmfgnnhlakaagreatdoor", sum := "6f133b558dda62d8e72459059ef472efa746ed18496e9a4fb6859872ac5b9cd4", func := "nostos/nostoslaw09.AluThrows", spec := "aluThrows", inPlace := ["internal/abi.NoEscape", "math.Float64frombits", "math.Float64bits", "math.sqrt", "math.archFloor", "math.archTrunc"], unfollowed := true, recurses := true, named := ["strings.asciiSpace", "unicode.White_Space", "math/bits.divideError", "math/bits.overflowError"], apart := false, laid := [("unicode.White_Space", laid_unicode_White_Space), ("strings.asciiSpace", laid_strings_asciiSpace)] }
def AluThrowsSaid : Prop := aluThrowsRow.holds Tryz.pinned (OpenSpec.ofChange aluThrowsSpec)

/-- ITS FALSE NEIGHBOUR: 'it returns false'. Refute it at one input. -/
def aluThrowsWrong : ChangeSpec := { name := "aluThrows", fn := fun _ => fun
  | [d1, d2] => { results := [.lit (.bool false)], args := [d1, d2] }
  | _ => none }
def AluThrowsWrongFalsely : Prop := aluThrowsRow.holds Tryz.pinned (OpenSpec.ofChange aluThrowsWrong)

/-- 'nostoslaw13.ExecBack': WHATEVER THE INPUT: true; the input reads as it did. -/
def execBackSpec : ChangeSpec := { name := "execBack", fn := fun _ => fun
  | [d1, d2, d3] => { results := [.lit (.bool true)], args := [d1, d2, d3] }
  | _ => none }
def execBackRow : OpenClaim := { program := "ytagdmfgnnhlakaagreatdoor", sum := "6f133b558dda62d8e72459059ef472efa746ed18496e9a4fb6859872ac5b9cd4", func := "nostos/nostoslaw13.ExecBack", spec := "execBack", inPlace := ["internal/abi.NoEscape", "math.Float64frombits", "math.Float64bits", "math.sqrt", "math.archFloor", "math.archTrunc", "internal/bytealg.IndexByteString"], unfollowed := true, recurses := true, named := ["strings.asciiSpace", "unicode.White_Space", "math/bits.divideError", "math/bits.overflowError"], apart := false, laid := [("unicode.White_Space", laid_unicode_White_Space), ("strings.asciiSpace", laid_strings_asciiSpace)] }
def ExecBackSaid : Prop := execBackRow.holds Tryz.pinned (OpenSpec.ofChange execBackSpec)

/-- ITS FALSE NEIGHBOUR: 'it returns false'. Refute it at one input. -/
def execBackWrong : ChangeSpec := { name := "execBack", fn := fun _ => fun
  | [d1, d2, d3] => { results := [.lit (.bool false)], args := [d1, d2, d3] }
  | _ => none }
def ExecBackWrongFalsely : Prop := execBackRow.holds Tryz.pinned (OpenSpec.ofChange execBackWrong)

/-- 'nostoslaw13.ExecLoops': WHATEVER THE INPUT: true; the input reads as it did. -/
def execLoopsSpec : ChangeSpec := { name := "execLoops", fn := fun _ => fun
  | [d1, d2, d3] => { results := [.lit (.bool true)], args := [d1, d2, d3] }
  | _ => none }
def execLoopsRow : OpenClaim := { program := "ytagdmfgnnhlakaagreatdoor", sum := "6f133b558dda62d8e72459059ef472efa746ed18496e9a4fb6859872ac5b9cd4", func := "nostos/nostoslaw13.ExecLoops", spec := "execLoops", inPlace := ["internal/abi.NoEscape", "math.Float64frombits", "math.Float64bits", "math.sqrt", "math.archFloor", "math.archTrunc", "internal/bytealg.IndexByteString"], unfollowed := true, recurses := true, named := ["strings.asciiSpace", "unicode.White_Space", "math/bits.divideError", "math/bits.overflowError"], apart := false, laid := [("unicode.White_Space", laid_unicode_White_Space), ("strings.asciiSpace", laid_strings_asciiSpace)] }
def ExecLoopsSaid : Prop := execLoopsRow.holds Tryz.pinned (OpenSpec.ofChange execLoopsSpec)

/-- ITS FALSE NEIGHBOUR: 'it returns false'. Refute it at one input. -/
def execLoopsWrong : ChangeSpec := { name := "execLoops", fn := fun _ => fun
  | [d1, d2, d3] => { results := [.lit (.bool false)], args := [d1, d2, d3] }
  | _ => none }
def ExecLoopsWrongFalsely : Prop := execLoopsRow.holds Tryz.pinned (OpenSpec.ofChange execLoopsWrong)

/-- 'nostoslaw13.ExecPasses': WHATEVER THE INPUT: true; the input reads as it did. -/
def execPassesSpec : ChangeSpec := { name := "execPasses", fn := fun _ => fun
  | [d1, d2, d3] => { results := [.lit (.bool true)], args := [d1, d2, d3] }
  | _ => none }
def execPassesRow : OpenClaim := { program := "ytagdmfgnnhlakaagreatdoor", sum := "6f133b558dda62d8e72459059ef472efa746ed18496e9a4fb6859872ac5b9cd4", func := "nostos/nostoslaw13.ExecPasses", spec := "execPasses", inPlace := ["internal/abi.NoEscape", "math.Float64frombits", "math.Float64bits", "math.sqrt", "math.archFloor", "math.archTrunc", "internal/bytealg.IndexByteString"], unfollowed := true, recurses := true, named := ["strings.asciiSpace", "unicode.White_Space", "math/bits.divideError", "math/bits.overflowError"], apart := false, laid := [("unicode.White_Space", laid_unicode_White_Space), ("strings.asciiSpace", laid_strings_asciiSpace)] }
def ExecPassesSaid : Prop := execPassesRow.holds Tryz.pinned (OpenSpec.ofChange execPassesSpec)

/-- ITS FALSE NEIGHBOUR: 'it returns false'. Refute it at one input. -/
def execPassesWrong : ChangeSpec := { name := "execPasses", fn := fun _ => fun
  | [d1, d2, d3] => { results := [.lit (.bool false)], args := [d1, d2, d3] }
  | _ => none }
def ExecPassesWrongFalsely : Prop := execPassesRow.holds Tryz.pinned (OpenSpec.ofChange execPassesWrong)

/-- 'nostoslaw13.ExecStores': WHATEVER THE INPUT: true; the input reads as it did. -/
def execStoresSpec : ChangeSpec := { name := "execStores", fn := fun _ => fun
  | [d1, d2, d3] => { results := [.lit (.bool true)], args := [d1, d2, d3] }
  | _ => none }
def execStoresRow : OpenClaim := { program := "ytagdmfgnnhlakaagreatdoor", sum := "6f133b558dda62d8e72459059ef472efa746ed18496e9a4fb6859872ac5b9cd4", func := "nostos/nostoslaw13.ExecStores", spec := "execStores", inPlace := ["internal/abi.NoEscape", "math.Float64frombits", "math.Float64bits", "math.sqrt", "math.archFloor", "math.archTrunc", "internal/bytealg.IndexByteString"], unfollowed := true, recurses := true, named := ["strings.asciiSpace", "unicode.White_Space", "math/bits.divideError", "math/bits.overflowError"], apart := false, laid := [("unicode.White_Space", laid_unicode_White_Space), ("strings.asciiSpace", laid_strings_asciiSpace)] }
def ExecStoresSaid : Prop := execStoresRow.holds Tryz.pinned (OpenSpec.ofChange execStoresSpec)

/-- ITS FALSE NEIGHBOUR: 'it returns false'. Refute it at one input. -/
def execStoresWrong : ChangeSpec := { name := "execStores", fn := fun _ => fun
  | [d1, d2, d3] => { results := [.lit (.bool false)], args := [d1, d2, d3] }
  | _ => none }
def ExecStoresWrongFalsely : Prop := execStoresRow.holds Tryz.pinned (OpenSpec.ofChange execStoresWrong)

/-- 'nostoslaw13.ExecCalls': WHATEVER THE INPUT: true; the input reads as it did. -/
def execCallsSpec : ChangeSpec := { name := "execCalls", fn := fun _ => fun
  | [d1, d2, d3] => { results := [.lit (.bool true)], args := [d1, d2, d3] }
  | _ => none }
def execCallsRow : OpenClaim := { program := "ytagdmfgnnhlakaagreatdoor", sum := "6f133b558dda62d8e72459059ef472efa746ed18496e9a4fb6859872ac5b9cd4", func := "nostos/nostoslaw13.ExecCalls", spec := "execCalls", inPlace := ["internal/abi.NoEscape", "math.Float64frombits", "math.Float64bits", "math.sqrt", "math.archFloor", "math.archTrunc", "internal/bytealg.IndexByteString"], unfollowed := true, recurses := true, named := ["strings.asciiSpace", "unicode.White_Space", "math/bits.divideError", "math/bits.overflowError"], apart := false, laid := [("unicode.White_Space", laid_unicode_White_Space), ("strings.asciiSpace", laid_strings_asciiSpace)] }
def ExecCallsSaid : Prop := execCallsRow.holds Tryz.pinned (OpenSpec.ofChange execCallsSpec)

/-- ITS FALSE NEIGHBOUR: 'it returns false'. Refute it at one input. -/
def execCallsWrong : ChangeSpec := { name := "execCalls", fn := fun _ => fun
  | [d1, d2, d3] => { results := [.lit (.bool false)], args := [d1, d2, d3] }
  | _ => none }
def ExecCallsWrongFalsely : Prop := execCallsRow.holds Tryz.pinned (OpenSpec.ofChange execCallsWrong)

/- THE SECOND FORM. 'bulk': how many values and letters a reading holds, each counted each time it is reached (what is shared counts as often as it is met; a slice's spare places count too). A statement '..UptoSaid' is the law's where the arguments, and the package variables that the reading takes, are together of bulk at most 1048576: NARROWER than '..Said'. Prove '..Said' where nothing that the law and all that it calls make is longer than what came in: it says more and counts as full. Else prove '..UptoSaid'. A law counts once. -/
mutual
def uptoBulk {H : Type} : DataW H → Nat
  | .lit (.string bytes) => bytes.length + 1
  | .lit _ => 1
  | .nil => 1
  | .ptr d => uptoBulk d + 1
  | .slice elems spare => uptoBulkAll elems + uptoBulkAll spare + 1
  | .agg parts => uptoBulkAll parts + 1
  | .iface _ d => uptoBulk d + 1
  | .map entries => uptoBulkEntries entries + 1
  | .held _ => 1
def uptoBulkAll {H : Type} : List (DataW H) → Nat
  | [] => 0
  | d :: r => uptoBulk d + uptoBulkAll r
def uptoBulkEntries {H : Type} : List (Lit × DataW H) → Nat
  | [] => 0
  | x :: r => uptoBulkEntry x + uptoBulkEntries r
def uptoBulkEntry {H : Type} : Lit × DataW H → Nat
  | (.string bytes, d) => bytes.length + uptoBulk d + 1
  | (_, d) => uptoBulk d + 1
 end
def uptoSmall : (H : Type) → List (DataW H) → Bool := fun _ ds => decide (uptoBulkAll ds ≤ 1048576)
def OpenSpec.upto (s : _root_.Go.ChangeSpec) : _root_.Go.OpenSpec := { _root_.Go.OpenSpec.ofChange s with cond := some uptoSmall }

/-- 'nostoslaw09.AluDoes', WHERE WHAT IT READS IS OF BULK AT MOST 1048576: true; the input reads as it did. -/
def aluDoesUptoRow : OpenClaim := { program := "ytagdmfgnnhlakaagreatdoor", sum := "6f133b558dda62d8e72459059ef472efa746ed18496e9a4fb6859872ac5b9cd4", func := "nostos/nostoslaw09.AluDoes", spec := "aluDoes", inPlace := ["internal/abi.NoEscape", "math.Float64frombits", "math.Float64bits", "math.sqrt", "math.archFloor", "math.archTrunc"], unfollowed := true, recurses := true, named := ["strings.asciiSpace", "unicode.White_Space", "math/bits.divideError", "math/bits.overflowError"], apart := false, laid := [("unicode.White_Space", laid_unicode_White_Space), ("strings.asciiSpace", laid_strings_asciiSpace)], narrowed := true }
def AluDoesUptoSaid : Prop := aluDoesUptoRow.holds Tryz.pinned (OpenSpec.upto aluDoesSpec)

/-- 'nostoslaw09.AluBelow', WHERE WHAT IT READS IS OF BULK AT MOST 1048576: true; the input reads as it did. -/
def aluBelowUptoRow : OpenClaim := { program := "ytagdmfgnnhlakaagreatdoor", sum := "6f133b558dda62d8e72459059ef472efa746ed18496e9a4fb6859872ac5b9cd4", func := "nostos/nostoslaw09.AluBelow", spec := "aluBelow", inPlace := ["internal/abi.NoEscape", "math.Float64frombits", "math.Float64bits", "math.sqrt", "math.archFloor", "math.archTrunc"], unfollowed := true, recurses := true, named := ["strings.asciiSpace", "unicode.White_Space", "math/bits.divideError", "math/bits.overflowError"], apart := false, laid := [("unicode.White_Space", laid_unicode_White_Space), ("strings.asciiSpace", laid_strings_asciiSpace)], narrowed := true }
def AluBelowUptoSaid : Prop := aluBelowUptoRow.holds Tryz.pinned (OpenSpec.upto aluBelowSpec)

/-- 'nostoslaw09.AluMoves', WHERE WHAT IT READS IS OF BULK AT MOST 1048576: true; the input reads as it did. -/
def aluMovesUptoRow : OpenClaim := { program := "ytagdmfgnnhlakaagreatdoor", sum := "6f133b558dda62d8e72459059ef472efa746ed18496e9a4fb6859872ac5b9cd4", func := "nostos/nostoslaw09.AluMoves", spec := "aluMoves", inPlace := ["internal/abi.NoEscape", "math.Float64frombits", "math.Float64bits", "math.sqrt", "math.archFloor", "math.archTrunc"], unfollowed := true, recurses := true, named := ["strings.asciiSpace", "unicode.White_Space", "math/bits.divideError", "math/bits.overflowError"], apart := false, laid := [("unicode.White_Space", laid_unicode_White_Space), ("strings.asciiSpace", laid_strings_asciiSpace)], narrowed := true }
def AluMovesUptoSaid : Prop := aluMovesUptoRow.holds Tryz.pinned (OpenSpec.upto aluMovesSpec)

/-- 'nostoslaw09.AluReckons', WHERE WHAT IT READS IS OF BULK AT MOST 1048576: true; the input reads as it did. -/
def aluReckonsUptoRow : OpenClaim := { program := "ytagdmfgnnhlakaagreatdoor", sum := "6f133b558dda62d8e72459059ef472efa746ed18496e9a4fb6859872ac5b9cd4", func := "nostos/nostoslaw09.AluReckons", spec := "aluReckons", inPlace := ["internal/abi.NoEscape", "math.Float64frombits", "math.Float64bits", "math.sqrt", "math.archFloor", "math.archTrunc"], unfollowed := true, recurses := true, named := ["strings.asciiSpace", "unicode.White_Space", "math/bits.divideError", "math/bits.overflowError"], apart := false, laid := [("unicode.White_Space", laid_unicode_White_Space), ("strings.asciiSpace", laid_strings_asciiSpace)], narrowed := true }
def AluReckonsUptoSaid : Prop := aluReckonsUptoRow.holds Tryz.pinned (OpenSpec.upto aluReckonsSpec)

/-- 'nostoslaw09.AluThrows', WHERE WHAT IT READS IS OF BULK AT MOST 1048576: true; the input reads as it did. -/
def aluThrowsUptoRow : OpenClaim := { program := "ytagdmfgnnhlakaagreatdoor", sum := "6f133b558dda62d8e72459059ef472efa746ed18496e9a4fb6859872ac5b9cd4", func := "nostos/nostoslaw09.AluThrows", spec := "aluThrows", inPlace := ["internal/abi.NoEscape", "math.Float64frombits", "math.Float64bits", "math.sqrt", "math.archFloor", "math.archTrunc"], unfollowed := true, recurses := true, named := ["strings.asciiSpace", "unicode.White_Space", "math/bits.divideError", "math/bits.overflowError"], apart := false, laid := [("unicode.White_Space", laid_unicode_White_Space), ("strings.asciiSpace", laid_strings_asciiSpace)], narrowed := true }
def AluThrowsUptoSaid : Prop := aluThrowsUptoRow.holds Tryz.pinned (OpenSpec.upto aluThrowsSpec)

/-- 'nostoslaw13.ExecBack', WHERE WHAT IT READS IS OF BULK AT MOST 1048576: true; the input reads as it did. -/
def execBackUptoRow : OpenClaim := { program := "ytagdmfgnnhlakaagreatdoor", sum := "6f133b558dda62d8e72459059ef472efa746ed18496e9a4fb6859872ac5b9cd4", func := "nostos/nostoslaw13.ExecBack", spec := "execBack", inPlace := ["internal/abi.NoEscape", "math.Float64frombits", "math.Float64bits", "math.sqrt", "math.archFloor", "math.archTrunc", "internal/bytealg.IndexByteString"], unfollowed := true, recurses := true, named := ["strings.asciiSpace", "unicode.White_Space", "math/bits.divideError", "math/bits.overflowError"], apart := false, laid := [("unicode.White_Space", laid_unicode_White_Space), ("strings.asciiSpace", laid_strings_asciiSpace)], narrowed := true }
def ExecBackUptoSaid : Prop := execBackUptoRow.holds Tryz.pinned (OpenSpec.upto execBackSpec)

/-- 'nostoslaw13.ExecLoops', WHERE WHAT IT READS IS OF BULK AT MOST 1048576: true; the input reads as it did. -/
def execLoopsUptoRow : OpenClaim := { program := "ytagdmfgnnhlakaagreatdoor", sum := "6f133b558dda62d8e72459059ef472efa746ed18496e9a4fb6859872ac5b9cd4", func := "nostos/nostoslaw13.ExecLoops", spec := "execLoops", inPlace := ["internal/abi.NoEscape", "math.Float64frombits", "math.Float64bits", "math.sqrt", "math.archFloor", "math.archTrunc", "internal/bytealg.IndexByteString"], unfollowed := true, recurses := true, named := ["strings.asciiSpace", "unicode.White_Space", "math/bits.divideError", "math/bits.overflowError"], apart := false, laid := [("unicode.White_Space", laid_unicode_White_Space), ("strings.asciiSpace", laid_strings_asciiSpace)], narrowed := true }
def ExecLoopsUptoSaid : Prop := execLoopsUptoRow.holds Tryz.pinned (OpenSpec.upto execLoopsSpec)

/-- 'nostoslaw13.ExecPasses', WHERE WHAT IT READS IS OF BULK AT MOST 1048576: true; the input reads as it did. -/
def execPassesUptoRow : OpenClaim := { program := "ytagdmfgnnhlakaagreatdoor", sum := "6f133b558dda62d8e72459059ef472efa746ed18496e9a4fb6859872ac5b9cd4", func := "nostos/nostoslaw13.ExecPasses", spec := "execPasses", inPlace := ["internal/abi.NoEscape", "math.Float64frombits", "math.Float64bits", "math.sqrt", "math.archFloor", "math.archTrunc", "internal/bytealg.IndexByteString"], unfollowed := true, recurses := true, named := ["strings.asciiSpace", "unicode.White_Space", "math/bits.divideError", "math/bits.overflowError"], apart := false, laid := [("unicode.White_Space", laid_unicode_White_Space), ("strings.asciiSpace", laid_strings_asciiSpace)], narrowed := true }
def ExecPassesUptoSaid : Prop := execPassesUptoRow.holds Tryz.pinned (OpenSpec.upto execPassesSpec)

/-- 'nostoslaw13.ExecStores', WHERE WHAT IT READS IS OF BULK AT MOST 1048576: true; the input reads as it did. -/
def execStoresUptoRow : OpenClaim := { program := "ytagdmfgnnhlakaagreatdoor", sum := "6f133b558dda62d8e72459059ef472efa746ed18496e9a4fb6859872ac5b9cd4", func := "nostos/nostoslaw13.ExecStores", spec := "execStores", inPlace := ["internal/abi.NoEscape", "math.Float64frombits", "math.Float64bits", "math.sqrt", "math.archFloor", "math.archTrunc", "internal/bytealg.IndexByteString"], unfollowed := true, recurses := true, named := ["strings.asciiSpace", "unicode.White_Space", "math/bits.divideError", "math/bits.overflowError"], apart := false, laid := [("unicode.White_Space", laid_unicode_White_Space), ("strings.asciiSpace", laid_strings_asciiSpace)], narrowed := true }
def ExecStoresUptoSaid : Prop := execStoresUptoRow.holds Tryz.pinned (OpenSpec.upto execStoresSpec)

/-- 'nostoslaw13.ExecCalls', WHERE WHAT IT READS IS OF BULK AT MOST 1048576: true; the input reads as it did. -/
def execCallsUptoRow : OpenClaim := { program := "ytagdmfgnnhlakaagreatdoor", sum := "6f133b558dda62d8e72459059ef472efa746ed18496e9a4fb6859872ac5b9cd4", func := "nostos/nostoslaw13.ExecCalls", spec := "execCalls", inPlace := ["internal/abi.NoEscape", "math.Float64frombits", "math.Float64bits", "math.sqrt", "math.archFloor", "math.archTrunc", "internal/bytealg.IndexByteString"], unfollowed := true, recurses := true, named := ["strings.asciiSpace", "unicode.White_Space", "math/bits.divideError", "math/bits.overflowError"], apart := false, laid := [("unicode.White_Space", laid_unicode_White_Space), ("strings.asciiSpace", laid_strings_asciiSpace)], narrowed := true }
def ExecCallsUptoSaid : Prop := execCallsUptoRow.holds Tryz.pinned (OpenSpec.upto execCallsSpec)

end Rows
end Go.Proofs.YtagdmfgnnhlakaaGreatDoor
