/- DeltaTakes: what any bytes are read as is what the document says, and a delta that is told has these bytes alone; where what is read is of bulk at most 1048576. -/
import Derived.Test.YtnngbniomonabaaFzLaw6M5
set_option linter.all false
set_option linter.unusedVariables false
set_option linter.unusedSimpArgs false
set_option linter.unnecessarySimpa false
set_option maxRecDepth 100000
namespace Fz.D
open Go Go.Proofs Go.Proofs.Ytnngbniomonabaa Go.ChangeShapes Go.WideShapes Go.ChangeAt Go.RowKit
theorem plain6 (vs : List V) (h : HasTs [.sl (.int .u8)] vs) : ∃ n H', acall p n 6 vs [] = some (.ret (.bool true), H') := by
  obtain ⟨v1, r1, rfl, h1, rfl⟩ := h
  obtain ⟨a1, rfl, g1⟩ := by_of h1
  exact done (law6 g1) rfl
theorem ts6 : mapOpt (tyOf Try.prog 8) Try.f6.params.toList = some [.sl (.int .u8)] := by kernel_rfl
end Fz.D
namespace Go.Proofs.Ytnngbniomonabaa
open Fz Fz.D Go.ChangeShapes Go.WideShapes Go.ChangeAt Go.RowKit
set_option maxRecDepth 100000 in
theorem lifted6 (os : Os) (started : os.Started) (H : Type) (enc : TypeId × Value → H) (F : Stop.Interp) :
    ReturnsInHanded {} Try.checked os 6 .any ((Rows.OpenSpec.upto Rows.deltaTakesSpec).pre6 enc Try.prog Try.f6 Rows.deltaTakesUptoRow.domain false) (((Rows.OpenSpec.upto Rows.deltaTakesSpec).at F).post enc Try.prog Try.f6 false true false false) := by
  refine returnsInHanded_of_cond (C := Try.checked) (s := Rows.OpenSpec.upto Rows.deltaTakesSpec) (k := Rows.uptoSmall) rfl own started (by kernel_rfl) Try.func6
    (OpenSpec.witness (enc := enc) (C := Try.checked) (s := Rows.OpenSpec.upto Rows.deltaTakesSpec) (k := Rows.uptoSmall) rfl false ⟨#[], #[.slice none 0 0], []⟩ 8 (by kernel_rfl) (by kernel_rfl) (by kernel_rfl)
      (x := ([.nil], [], [])) (by kernel_rfl) rfl (by kernel_rfl)) ?_
  intro W base args ds gs before hval hW _ hk _
  have hk : Rows.uptoBulkAll (ds ++ gs) ≤ 1048576 := of_decide_eq_true hk
  exact law_contract (enc := enc) (s := Rows.deltaTakesSpec) bulkOk apOk rfl rfl (tb := 4) (by kernel_rfl) Try.underlying4 ts6 laidOut (of_decide_eq_true (by kernel_rfl)) rfl
    (fun ds hd => by
      match ds, hd with
      | [d1], _ => rfl) (fun vs h _ => plain6 vs h) hval hW hk

theorem proved6 : Rows.DeltaTakesUptoSaid :=
  OpenClaim.holds_of_cond 6 Try.f6 rfl rfl rfl rfl rfl rfl rfl ⟨rfl, rfl, rfl, rfl, rfl⟩ rfl rfl rfl rfl rfl (by kernel_rfl) Try.func6 (by kernel_rfl)
    (of_decide_eq_true (by kernel_rfl)) (by unfold Func.isWrapper; first | (rw [if_pos (by decide +kernel)]; kernel_rfl) | (rw [if_neg (by decide +kernel)]; exact ⟨rfl, rfl⟩))
    (fun os started H enc _ F => lifted6 os started H enc F)
#print axioms proved6
end Go.Proofs.Ytnngbniomonabaa
