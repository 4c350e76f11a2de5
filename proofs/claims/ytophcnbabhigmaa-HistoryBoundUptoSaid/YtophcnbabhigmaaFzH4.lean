/- HistoryBound: no history ever has more bytes than its budget, the first step that is kept never gets less, and as many records are kept as lie between; where what is read is of bulk at most 1048576. -/
import Derived.Test.YtophcnbabhigmaaFzHV
import Derived.Test.YtophcnbabhigmaaFzHT
set_option maxRecDepth 100000
namespace Fz.H
open Go Go.Proofs Go.Proofs.Ytophcnbabhigmaa Go.ChangeShapes Go.WideShapes Go.ChangeAt Go.RowKit
theorem plain4 (vs : List V) (h : HasTs [.int .i64, .int .i64, .sl (.agg [.bool, .int .u8])] vs) : ∃ n H', acall p n 4 vs [] = some (.ret (.bool true), H') := by
  obtain ⟨v1, r1, rfl, ⟨bud, rfl, _⟩, v2, r2, rfl, ⟨per, rfl, _⟩, v3, r3, rfl, h3, rfl⟩ := h
  obtain ⟨l, c, rfl, h8⟩ := ops_of h3
  exact done (law4 bud per l c h8)
theorem ts4 : mapOpt (tyOf Try.prog 8) Try.f4.params.toList = some [.int .i64, .int .i64, .sl (.agg [.bool, .int .u8])] := by kernel_rfl
end Fz.H
namespace Go.Proofs.Ytophcnbabhigmaa
open Fz Fz.H Go.ChangeShapes Go.WideShapes Go.ChangeAt Go.RowKit
set_option maxRecDepth 100000 in
theorem lifted4 (os : Os) (started : os.Started) (H : Type) (enc : TypeId × Value → H) (F : Stop.Interp) :
    ReturnsInHanded {} Try.checked os 4 .any ((Rows.OpenSpec.upto Rows.historyBoundSpec).pre6 enc Try.prog Try.f4 Rows.historyBoundUptoRow.domain false) (((Rows.OpenSpec.upto Rows.historyBoundSpec).at F).post enc Try.prog Try.f4 false true false false) := by
  refine returnsInHanded_of_cond (C := Try.checked) (s := Rows.OpenSpec.upto Rows.historyBoundSpec) (k := Rows.uptoSmall) rfl own started (by kernel_rfl) Try.func4
    (OpenSpec.witness (enc := enc) (C := Try.checked) (s := Rows.OpenSpec.upto Rows.historyBoundSpec) (k := Rows.uptoSmall) rfl false ⟨#[], #[.int .i64 0, .int .i64 0, .slice none 0 0], []⟩ 8 (by kernel_rfl) (by kernel_rfl) (by kernel_rfl)
      (x := ([.lit (.int .i64 0), .lit (.int .i64 0), .nil], [], [])) (by kernel_rfl) rfl (by kernel_rfl)) ?_
  intro W base args ds gs before hval hW _ hk _
  have hk : Rows.uptoBulkAll (ds ++ gs) ≤ 1048576 := of_decide_eq_true hk
  exact law_contract (enc := enc) (s := Rows.historyBoundSpec) bulkOk apOk rfl rfl (tb := 4) (by kernel_rfl) Try.underlying4 ts4 laidOut (of_decide_eq_true (by kernel_rfl)) rfl
    (fun ds hd => by
      match ds, hd with
      | [d1, d2, d3], _ => rfl) (fun vs h _ => plain4 vs h) hval hW hk

theorem proved4 : Rows.HistoryBoundUptoSaid :=
  OpenClaim.holds_of_cond 4 Try.f4 rfl rfl rfl rfl rfl rfl rfl ⟨rfl, rfl, rfl, rfl, rfl⟩ rfl rfl rfl rfl rfl (by kernel_rfl) Try.func4 (by kernel_rfl)
    (of_decide_eq_true (by kernel_rfl)) (by unfold Func.isWrapper; first | (rw [if_pos (by decide +kernel)]; kernel_rfl) | (rw [if_neg (by decide +kernel)]; exact ⟨rfl, rfl⟩))
    (fun os started H enc _ F => lifted4 os started H enc F)
#print axioms proved4
end Go.Proofs.Ytophcnbabhigmaa
