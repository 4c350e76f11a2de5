/- DeltaBytes: any delta is told there and back, and with a byte more it is refused; where what is read is of bulk at most 1048576. -/
import Derived.Test.YtnngbniomonabaaFzLaw7M5
set_option linter.all false
set_option linter.unusedVariables false
set_option linter.unusedSimpArgs false
set_option linter.unnecessarySimpa false
set_option maxRecDepth 100000
namespace Fz.D
open Go Go.Proofs Go.Proofs.Ytnngbniomonabaa Go.ChangeShapes Go.WideShapes Go.ChangeAt Go.RowKit
theorem plain7 (vs : List V) (h : HasTs [.agg [.sl (.agg [.int .i64, .sl (.int .u8)]), .agg [.int .i64, .sl (.int .i64)], .agg [.int .i64, .sl (.agg [.int .i64, .bool])], .agg [.int .i64, .sl (.int .i64)], .agg [.int .i64, .sl (.agg [.str, .int .i64, .bool, .bool])], .agg [.int .i64, .sl (.agg [.int .i64, .int .i64])], .int .i64, .agg [.int .i64, .int .i64, .int .i64, .int .i64, .int .i64, .int .i64], .bool, .bool], .int .u8] vs) : ∃ n H', acall p n 7 vs [] = some (.ret (.bool true), H') := by
  obtain ⟨v1, r1, rfl, h1, v2, r2, rfl, h2, rfl⟩ := h
  obtain ⟨a1, rfl, g1⟩ := de_of h1
  obtain ⟨a2, rfl, g2⟩ := u8_of h2
  exact done (law7 g1 g2) rfl
theorem ts7 : mapOpt (tyOf Try.prog 8) Try.f7.params.toList = some [.agg [.sl (.agg [.int .i64, .sl (.int .u8)]), .agg [.int .i64, .sl (.int .i64)], .agg [.int .i64, .sl (.agg [.int .i64, .bool])], .agg [.int .i64, .sl (.int .i64)], .agg [.int .i64, .sl (.agg [.str, .int .i64, .bool, .bool])], .agg [.int .i64, .sl (.agg [.int .i64, .int .i64])], .int .i64, .agg [.int .i64, .int .i64, .int .i64, .int .i64, .int .i64, .int .i64], .bool, .bool], .int .u8] := by kernel_rfl
end Fz.D
namespace Go.Proofs.Ytnngbniomonabaa
open Fz Fz.D Go.ChangeShapes Go.WideShapes Go.ChangeAt Go.RowKit
set_option maxRecDepth 100000 in
theorem lifted7 (os : Os) (started : os.Started) (H : Type) (enc : TypeId × Value → H) (F : Stop.Interp) :
    ReturnsInHanded {} Try.checked os 7 .any ((Rows.OpenSpec.upto Rows.deltaBytesSpec).pre6 enc Try.prog Try.f7 Rows.deltaBytesUptoRow.domain false) (((Rows.OpenSpec.upto Rows.deltaBytesSpec).at F).post enc Try.prog Try.f7 false true false false) := by
  refine returnsInHanded_of_cond (C := Try.checked) (s := Rows.OpenSpec.upto Rows.deltaBytesSpec) (k := Rows.uptoSmall) rfl own started (by kernel_rfl) Try.func7
    (OpenSpec.witness (enc := enc) (C := Try.checked) (s := Rows.OpenSpec.upto Rows.deltaBytesSpec) (k := Rows.uptoSmall) rfl false ⟨#[], #[.agg #[.slice none 0 0, .int .i64 0, .slice none 0 0, .int .i64 0, .slice none 0 0, .int .i64 0, .slice none 0 0, .int .i64 0, .slice none 0 0, .int .i64 0, .slice none 0 0, .int .i64 0, .int .i64 0, .int .i64 0, .int .i64 0, .int .i64 0, .int .i64 0, .int .i64 0, .bool false, .bool false], .int .u8 0], []⟩ 8 (by kernel_rfl) (by kernel_rfl) (by kernel_rfl)
      (x := ([.agg [.nil, .agg [.lit (.int .i64 0), .nil], .agg [.lit (.int .i64 0), .nil], .agg [.lit (.int .i64 0), .nil], .agg [.lit (.int .i64 0), .nil], .agg [.lit (.int .i64 0), .nil], .lit (.int .i64 0), .agg [.lit (.int .i64 0), .lit (.int .i64 0), .lit (.int .i64 0), .lit (.int .i64 0), .lit (.int .i64 0), .lit (.int .i64 0)], .lit (.bool false), .lit (.bool false)], .lit (.int .u8 0)], [], [])) (by kernel_rfl) rfl (by kernel_rfl)) ?_
  intro W base args ds gs before hval hW _ hk _
  have hk : Rows.uptoBulkAll (ds ++ gs) ≤ 1048576 := of_decide_eq_true hk
  exact law_contract (enc := enc) (s := Rows.deltaBytesSpec) bulkOk apOk rfl rfl (tb := 4) (by kernel_rfl) Try.underlying4 ts7 laidOut (of_decide_eq_true (by kernel_rfl)) rfl
    (fun ds hd => by
      match ds, hd with
      | [d1, d2], _ => rfl) (fun vs h _ => plain7 vs h) hval hW hk

theorem proved7 : Rows.DeltaBytesUptoSaid :=
  OpenClaim.holds_of_cond 7 Try.f7 rfl rfl rfl rfl rfl rfl rfl ⟨rfl, rfl, rfl, rfl, rfl⟩ rfl rfl rfl rfl rfl (by kernel_rfl) Try.func7 (by kernel_rfl)
    (of_decide_eq_true (by kernel_rfl)) (by unfold Func.isWrapper; first | (rw [if_pos (by decide +kernel)]; kernel_rfl) | (rw [if_neg (by decide +kernel)]; exact ⟨rfl, rfl⟩))
    (fun os started H enc _ F => lifted7 os started H enc F)
#print axioms proved7
end Go.Proofs.Ytnngbniomonabaa
