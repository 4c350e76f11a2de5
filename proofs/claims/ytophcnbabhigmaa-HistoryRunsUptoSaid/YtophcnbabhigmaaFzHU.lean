/- HistoryRuns: whatever ops come to a history of any budget and any period, the program's history is the reference's, and so many bytes; where what is read is of bulk at most 1048576. -/
import Derived.Test.YtophcnbabhigmaaFzHS
import Derived.Test.YtophcnbabhigmaaFzHT
set_option maxRecDepth 100000
namespace Fz.H
open Go Go.Proofs Go.Proofs.Ytophcnbabhigmaa Go.ChangeShapes Go.WideShapes Go.ChangeAt Go.RowKit
theorem plain3 (vs : List V) (h : HasTs [.int .i64, .int .i64, .sl (.agg [.bool, .int .u8])] vs) : ∃ n H', acall p n 3 vs [] = some (.ret (.bool true), H') := by
  obtain ⟨v1, r1, rfl, ⟨bud, rfl, _⟩, v2, r2, rfl, ⟨per, rfl, _⟩, v3, r3, rfl, h3, rfl⟩ := h
  obtain ⟨l, c, rfl, h8⟩ := ops_of h3
  exact done (law3 bud per l c h8)
theorem ts3 : mapOpt (tyOf Try.prog 8) Try.f3.params.toList = some [.int .i64, .int .i64, .sl (.agg [.bool, .int .u8])] := by kernel_rfl

end Fz.H
namespace Go.Proofs.Ytophcnbabhigmaa
open Fz Fz.H Go.ChangeShapes Go.WideShapes Go.ChangeAt Go.RowKit
set_option maxRecDepth 100000 in
theorem lifted3 (os : Os) (started : os.Started) (H : Type) (enc : TypeId × Value → H) (F : Stop.Interp) :
    ReturnsInHanded {} Try.checked os 3 .any ((Rows.OpenSpec.upto Rows.historyRunsSpec).pre6 enc Try.prog Try.f3 Rows.historyRunsUptoRow.domain false) (((Rows.OpenSpec.upto Rows.historyRunsSpec).at F).post enc Try.prog Try.f3 false true false false) := by
  refine returnsInHanded_of_cond (C := Try.checked) (s := Rows.OpenSpec.upto Rows.historyRunsSpec) (k := Rows.uptoSmall) rfl own started (by kernel_rfl) Try.func3
    (OpenSpec.witness (enc := enc) (C := Try.checked) (s := Rows.OpenSpec.upto Rows.historyRunsSpec) (k := Rows.uptoSmall) rfl false ⟨#[], #[.int .i64 0, .int .i64 0, .slice none 0 0], []⟩ 8 (by kernel_rfl) (by kernel_rfl) (by kernel_rfl)
      (x := ([.lit (.int .i64 0), .lit (.int .i64 0), .nil], [], [])) (by kernel_rfl) rfl (by kernel_rfl)) ?_
  intro W base args ds gs before hval hW _ hk _
  have hk : Rows.uptoBulkAll (ds ++ gs) ≤ 1048576 := of_decide_eq_true hk
  exact law_contract (enc := enc) (s := Rows.historyRunsSpec) bulkOk apOk rfl rfl (tb := 4) (by kernel_rfl) Try.underlying4 ts3 laidOut (of_decide_eq_true (by kernel_rfl)) rfl
    (fun ds hd => by
      match ds, hd with
      | [d1, d2, d3], _ => rfl) (fun vs h _ => plain3 vs h) hval hW hk

theorem proved3 : Rows.HistoryRunsUptoSaid :=
  OpenClaim.holds_of_cond 3 Try.f3 rfl rfl rfl rfl rfl rfl rfl ⟨rfl, rfl, rfl, rfl, rfl⟩ rfl rfl rfl rfl rfl (by kernel_rfl) Try.func3 (by kernel_rfl)
    (of_decide_eq_true (by kernel_rfl)) (by unfold Func.isWrapper; first | (rw [if_pos (by decide +kernel)]; kernel_rfl) | (rw [if_neg (by decide +kernel)]; exact ⟨rfl, rfl⟩))
    (fun os started H enc _ F => lifted3 os started H enc F)
#print axioms proved3
end Go.Proofs.Ytophcnbabhigmaa
