/- HistoryRecs: what is kept of a step is what came, of one that is not kept there is nothing, and a state that is kept is the last one up to a step; where what is read is of bulk at most 1048576. -/
import Derived.Test.YtophcnbabhigmaaFzHY
import Derived.Test.YtophcnbabhigmaaFzHT
set_option maxRecDepth 100000
namespace Fz.H
open Go Go.Proofs Go.Proofs.Ytophcnbabhigmaa Go.ChangeShapes Go.WideShapes Go.ChangeAt Go.RowKit
theorem plain6 (vs : List V) (h : HasTs [.agg [.int .i64, .int .i64], .agg [.int .i64, .int .i64, .int .i64], .sl (.agg [.bool, .int .u8])] vs) : ∃ n H', acall p n 6 vs [] = some (.ret (.bool true), H') := by
  obtain ⟨v1, r1, rfl, ⟨la, rfl, w1, q1, rfl, ⟨bud, rfl, _⟩, w2, q2, rfl, ⟨per, rfl, _⟩, rfl⟩, v2, r2, rfl, ⟨lb, rfl, x1, y1, rfl, ⟨n0, rfl, _⟩, x2, y2, rfl, ⟨n1, rfl, _⟩, x3, y3, rfl, ⟨n2, rfl, _⟩, rfl⟩, v3, r3, rfl, h3, rfl⟩ := h
  obtain ⟨l, c, rfl, h8⟩ := ops_of h3
  exact done (law6 bud per n0 n1 n2 l c h8)
theorem ts6 : mapOpt (tyOf Try.prog 8) Try.f6.params.toList = some [.agg [.int .i64, .int .i64], .agg [.int .i64, .int .i64, .int .i64], .sl (.agg [.bool, .int .u8])] := by kernel_rfl
end Fz.H
namespace Go.Proofs.Ytophcnbabhigmaa
open Fz Fz.H Go.ChangeShapes Go.WideShapes Go.ChangeAt Go.RowKit
set_option maxRecDepth 100000 in
theorem lifted6 (os : Os) (started : os.Started) (H : Type) (enc : TypeId × Value → H) (F : Stop.Interp) :
    ReturnsInHanded {} Try.checked os 6 .any ((Rows.OpenSpec.upto Rows.historyRecsSpec).pre6 enc Try.prog Try.f6 Rows.historyRecsUptoRow.domain false) (((Rows.OpenSpec.upto Rows.historyRecsSpec).at F).post enc Try.prog Try.f6 false true false false) := by
  refine returnsInHanded_of_cond (C := Try.checked) (s := Rows.OpenSpec.upto Rows.historyRecsSpec) (k := Rows.uptoSmall) rfl own started (by kernel_rfl) Try.func6
    (OpenSpec.witness (enc := enc) (C := Try.checked) (s := Rows.OpenSpec.upto Rows.historyRecsSpec) (k := Rows.uptoSmall) rfl false ⟨#[], #[.agg #[.int .i64 0, .int .i64 0], .agg #[.int .i64 0, .int .i64 0, .int .i64 0], .slice none 0 0], []⟩ 8 (by kernel_rfl) (by kernel_rfl) (by kernel_rfl)
      (x := ([.agg [.lit (.int .i64 0), .lit (.int .i64 0)], .agg [.lit (.int .i64 0), .lit (.int .i64 0), .lit (.int .i64 0)], .nil], [], [])) (by kernel_rfl) rfl (by kernel_rfl)) ?_
  intro W base args ds gs before hval hW _ hk _
  have hk : Rows.uptoBulkAll (ds ++ gs) ≤ 1048576 := of_decide_eq_true hk
  exact law_contract (enc := enc) (s := Rows.historyRecsSpec) bulkOk apOk rfl rfl (tb := 4) (by kernel_rfl) Try.underlying4 ts6 laidOut (of_decide_eq_true (by kernel_rfl)) rfl
    (fun ds hd => by
      match ds, hd with
      | [d1, d2, d3], _ => rfl) (fun vs h _ => plain6 vs h) hval hW hk

theorem proved6 : Rows.HistoryRecsUptoSaid :=
  OpenClaim.holds_of_cond 6 Try.f6 rfl rfl rfl rfl rfl rfl rfl ⟨rfl, rfl, rfl, rfl, rfl⟩ rfl rfl rfl rfl rfl (by kernel_rfl) Try.func6 (by kernel_rfl)
    (of_decide_eq_true (by kernel_rfl)) (by unfold Func.isWrapper; first | (rw [if_pos (by decide +kernel)]; kernel_rfl) | (rw [if_neg (by decide +kernel)]; exact ⟨rfl, rfl⟩))
    (fun os started H enc _ F => lifted6 os started H enc F)
#print axioms proved6
end Go.Proofs.Ytophcnbabhigmaa
