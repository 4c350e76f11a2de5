/- DeltaUndoes: of near states, what makes the one of the later one makes it, told as bytes and back, too; where what is read is of bulk at most 1048576. -/
import Derived.Test.YtnngbniomonabaaFzLaw5M5
set_option linter.all false
set_option linter.unusedVariables false
set_option linter.unusedSimpArgs false
set_option linter.unnecessarySimpa false
set_option maxRecDepth 100000
namespace Fz.D
open Go Go.Proofs Go.Proofs.Ytnngbniomonabaa Go.ChangeShapes Go.WideShapes Go.ChangeAt Go.RowKit
theorem plain5 (vs : List V) (h : HasTs [.agg [.sl (.int .u8), .sl (.int .i64), .sl (.agg [.int .i64, .bool]), .sl (.int .i64), .sl (.agg [.str, .int .i64, .bool, .bool]), .sl (.agg [.int .i64, .int .i64]), .sl (.int .u8), .int .i64, .int .i64, .int .i64, .int .i64, .int .i64, .int .i64, .bool, .bool], .agg [.sl (.int .u8), .sl (.int .i64), .sl (.agg [.int .i64, .bool]), .sl (.int .i64), .sl (.agg [.str, .int .i64, .bool, .bool]), .sl (.agg [.int .i64, .int .i64]), .sl (.int .u8), .int .i64, .int .i64, .int .i64, .int .i64, .int .i64, .int .i64, .bool, .bool]] vs) : ∃ n H', acall p n 5 vs [] = some (.ret (.bool true), H') := by
  obtain ⟨v1, r1, rfl, h1, v2, r2, rfl, h2, rfl⟩ := h
  obtain ⟨a1, rfl, g1⟩ := st_of h1
  obtain ⟨a2, rfl, g2⟩ := st_of h2
  exact done (law5 g1 g2) rfl
theorem ts5 : mapOpt (tyOf Try.prog 8) Try.f5.params.toList = some [.agg [.sl (.int .u8), .sl (.int .i64), .sl (.agg [.int .i64, .bool]), .sl (.int .i64), .sl (.agg [.str, .int .i64, .bool, .bool]), .sl (.agg [.int .i64, .int .i64]), .sl (.int .u8), .int .i64, .int .i64, .int .i64, .int .i64, .int .i64, .int .i64, .bool, .bool], .agg [.sl (.int .u8), .sl (.int .i64), .sl (.agg [.int .i64, .bool]), .sl (.int .i64), .sl (.agg [.str, .int .i64, .bool, .bool]), .sl (.agg [.int .i64, .int .i64]), .sl (.int .u8), .int .i64, .int .i64, .int .i64, .int .i64, .int .i64, .int .i64, .bool, .bool]] := by kernel_rfl
end Fz.D
namespace Go.Proofs.Ytnngbniomonabaa
open Fz Fz.D Go.ChangeShapes Go.WideShapes Go.ChangeAt Go.RowKit
set_option maxRecDepth 100000 in
theorem lifted5 (os : Os) (started : os.Started) (H : Type) (enc : TypeId × Value → H) (F : Stop.Interp) :
    ReturnsInHanded {} Try.checked os 5 .any ((Rows.OpenSpec.upto Rows.deltaUndoesSpec).pre6 enc Try.prog Try.f5 Rows.deltaUndoesUptoRow.domain false) (((Rows.OpenSpec.upto Rows.deltaUndoesSpec).at F).post enc Try.prog Try.f5 false true false false) := by
  refine returnsInHanded_of_cond (C := Try.checked) (s := Rows.OpenSpec.upto Rows.deltaUndoesSpec) (k := Rows.uptoSmall) rfl own started (by kernel_rfl) Try.func5
    (OpenSpec.witness (enc := enc) (C := Try.checked) (s := Rows.OpenSpec.upto Rows.deltaUndoesSpec) (k := Rows.uptoSmall) rfl false ⟨#[], #[.agg #[.slice none 0 0, .slice none 0 0, .slice none 0 0, .slice none 0 0, .slice none 0 0, .slice none 0 0, .slice none 0 0, .int .i64 0, .int .i64 0, .int .i64 0, .int .i64 0, .int .i64 0, .int .i64 0, .bool false, .bool false], .agg #[.slice none 0 0, .slice none 0 0, .slice none 0 0, .slice none 0 0, .slice none 0 0, .slice none 0 0, .slice none 0 0, .int .i64 0, .int .i64 0, .int .i64 0, .int .i64 0, .int .i64 0, .int .i64 0, .bool false, .bool false]], []⟩ 8 (by kernel_rfl) (by kernel_rfl) (by kernel_rfl)
      (x := ([.agg [.nil, .nil, .nil, .nil, .nil, .nil, .nil, .lit (.int .i64 0), .lit (.int .i64 0), .lit (.int .i64 0), .lit (.int .i64 0), .lit (.int .i64 0), .lit (.int .i64 0), .lit (.bool false), .lit (.bool false)], .agg [.nil, .nil, .nil, .nil, .nil, .nil, .nil, .lit (.int .i64 0), .lit (.int .i64 0), .lit (.int .i64 0), .lit (.int .i64 0), .lit (.int .i64 0), .lit (.int .i64 0), .lit (.bool false), .lit (.bool false)]], [], [])) (by kernel_rfl) rfl (by kernel_rfl)) ?_
  intro W base args ds gs before hval hW _ hk _
  have hk : Rows.uptoBulkAll (ds ++ gs) ≤ 1048576 := of_decide_eq_true hk
  exact law_contract (enc := enc) (s := Rows.deltaUndoesSpec) bulkOk apOk rfl rfl (tb := 4) (by kernel_rfl) Try.underlying4 ts5 laidOut (of_decide_eq_true (by kernel_rfl)) rfl
    (fun ds hd => by
      match ds, hd with
      | [d1, d2], _ => rfl) (fun vs h _ => plain5 vs h) hval hW hk

theorem proved5 : Rows.DeltaUndoesUptoSaid :=
  OpenClaim.holds_of_cond 5 Try.f5 rfl rfl rfl rfl rfl rfl rfl ⟨rfl, rfl, rfl, rfl, rfl⟩ rfl rfl rfl rfl rfl (by kernel_rfl) Try.func5 (by kernel_rfl)
    (of_decide_eq_true (by kernel_rfl)) (by unfold Func.isWrapper; first | (rw [if_pos (by decide +kernel)]; kernel_rfl) | (rw [if_neg (by decide +kernel)]; exact ⟨rfl, rfl⟩))
    (fun os started H enc _ F => lifted5 os started H enc F)
#print axioms proved5
end Go.Proofs.Ytnngbniomonabaa
