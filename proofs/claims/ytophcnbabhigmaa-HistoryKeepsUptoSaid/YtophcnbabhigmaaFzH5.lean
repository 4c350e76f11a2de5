/- HistoryKeeps: with a budget for k records, and for as many states as the last k steps may have, the last k steps are kept; where what is read is of bulk at most 1048576. -/
import Derived.Test.YtophcnbabhigmaaFzHX
import Derived.Test.YtophcnbabhigmaaFzHT
set_option maxRecDepth 100000
namespace Fz.H
open Go Go.Proofs Go.Proofs.Ytophcnbabhigmaa Go.ChangeShapes Go.WideShapes Go.ChangeAt Go.RowKit
theorem plain5 (vs : List V) (h : HasTs [.int .i64, .agg [.int .u8, .int .u8], .sl (.agg [.bool, .int .u8])] vs) : ∃ n H', acall p n 5 vs [] = some (.ret (.bool true), H') := by
  obtain ⟨v1, r1, rfl, ⟨per, rfl, _⟩, v2, r2, rfl, ⟨la, rfl, w1, q1, rfl, ⟨a, rfl, ha⟩, w2, q2, rfl, ⟨b, rfl, hb⟩, rfl⟩, v3, r3, rfl, h3, rfl⟩ := h
  obtain ⟨l, c, rfl, h8⟩ := ops_of h3
  exact done (law5 per a b l c h8 ha hb)
theorem ts5 : mapOpt (tyOf Try.prog 8) Try.f5.params.toList = some [.int .i64, .agg [.int .u8, .int .u8], .sl (.agg [.bool, .int .u8])] := by kernel_rfl
end Fz.H
namespace Go.Proofs.Ytophcnbabhigmaa
open Fz Fz.H Go.ChangeShapes Go.WideShapes Go.ChangeAt Go.RowKit
set_option maxRecDepth 100000 in
theorem lifted5 (os : Os) (started : os.Started) (H : Type) (enc : TypeId × Value → H) (F : Stop.Interp) :
    ReturnsInHanded {} Try.checked os 5 .any ((Rows.OpenSpec.upto Rows.historyKeepsSpec).pre6 enc Try.prog Try.f5 Rows.historyKeepsUptoRow.domain false) (((Rows.OpenSpec.upto Rows.historyKeepsSpec).at F).post enc Try.prog Try.f5 false true false false) := by
  refine returnsInHanded_of_cond (C := Try.checked) (s := Rows.OpenSpec.upto Rows.historyKeepsSpec) (k := Rows.uptoSmall) rfl own started (by kernel_rfl) Try.func5
    (OpenSpec.witness (enc := enc) (C := Try.checked) (s := Rows.OpenSpec.upto Rows.historyKeepsSpec) (k := Rows.uptoSmall) rfl false ⟨#[], #[.int .i64 0, .agg #[.int .u8 0, .int .u8 0], .slice none 0 0], []⟩ 8 (by kernel_rfl) (by kernel_rfl) (by kernel_rfl)
      (x := ([.lit (.int .i64 0), .agg [.lit (.int .u8 0), .lit (.int .u8 0)], .nil], [], [])) (by kernel_rfl) rfl (by kernel_rfl)) ?_
  intro W base args ds gs before hval hW _ hk _
  have hk : Rows.uptoBulkAll (ds ++ gs) ≤ 1048576 := of_decide_eq_true hk
  exact law_contract (enc := enc) (s := Rows.historyKeepsSpec) bulkOk apOk rfl rfl (tb := 4) (by kernel_rfl) Try.underlying4 ts5 laidOut (of_decide_eq_true (by kernel_rfl)) rfl
    (fun ds hd => by
      match ds, hd with
      | [d1, d2, d3], _ => rfl) (fun vs h _ => plain5 vs h) hval hW hk

theorem proved5 : Rows.HistoryKeepsUptoSaid :=
  OpenClaim.holds_of_cond 5 Try.f5 rfl rfl rfl rfl rfl rfl rfl ⟨rfl, rfl, rfl, rfl, rfl⟩ rfl rfl rfl rfl rfl (by kernel_rfl) Try.func5 (by kernel_rfl)
    (of_decide_eq_true (by kernel_rfl)) (by unfold Func.isWrapper; first | (rw [if_pos (by decide +kernel)]; kernel_rfl) | (rw [if_neg (by decide +kernel)]; exact ⟨rfl, rfl⟩))
    (fun os started H enc _ F => lifted5 os started H enc F)
#print axioms proved5
end Go.Proofs.Ytophcnbabhigmaa
