/- FloTurns: exchanged, sums, products, the lesser one and the greater one are the same; a difference is a sum with the sign turned; turned twice a number is as it was; what is no number makes the NaN of all. -/
import Derived.Test.YtpojglkaohhbkaaFzFU
import Derived.Test.YtpojglkaohhbkaaFzFT
set_option maxRecDepth 100000
namespace Fz.F
open Go Go.Proofs Go.Proofs.Ytpojglkaohhbkaa Go.ChangeShapes Go.WideShapes Go.ChangeAt Go.RowKit
theorem plain6 (vs : List V) (h : HasTs [.int .i64, .int .i64] vs) : ∃ n H', acall p n 6 vs [] = some (.ret (.bool true), H') := by
  obtain ⟨v1, r1, rfl, ⟨a, rfl, ha1, ha2⟩, v2, r2, rfl, ⟨b, rfl, hb1, hb2⟩, rfl⟩ := h
  exact done (law_turns a b ⟨ha1, ha2⟩ ⟨hb1, hb2⟩)
theorem ts6 : mapOpt (tyOf Try.prog 8) Try.f6.params.toList = some [.int .i64, .int .i64] := by kernel_rfl
end Fz.F
namespace Go.Proofs.Ytpojglkaohhbkaa
open Fz Fz.F Go.ChangeShapes Go.WideShapes Go.ChangeAt Go.RowKit
set_option maxRecDepth 100000 in
theorem lifted6 (os : Os) (started : os.Started) (H : Type) (enc : TypeId × Value → H) (F : Stop.Interp) :
    ReturnsInHanded {} Try.checked os 6 .any ((Rows.OpenSpec.upto Rows.floTurnsSpec).pre6 enc Try.prog Try.f6 Rows.floTurnsUptoRow.domain false) (((Rows.OpenSpec.upto Rows.floTurnsSpec).at F).post enc Try.prog Try.f6 false true false false) := by
  refine returnsInHanded_of_cond (C := Try.checked) (s := Rows.OpenSpec.upto Rows.floTurnsSpec) (k := Rows.uptoSmall) rfl own started (by kernel_rfl) Try.func6
    (OpenSpec.witness (enc := enc) (C := Try.checked) (s := Rows.OpenSpec.upto Rows.floTurnsSpec) (k := Rows.uptoSmall) rfl false ⟨#[], #[.int .i64 0, .int .i64 0], []⟩ 8 (by kernel_rfl) (by kernel_rfl) (by kernel_rfl)
      (x := ([.lit (.int .i64 0), .lit (.int .i64 0)], [], [])) (by kernel_rfl) rfl (by kernel_rfl)) ?_
  intro W base args ds gs before hval hW _ hk _
  have hk : Rows.uptoBulkAll (ds ++ gs) ≤ 1048576 := of_decide_eq_true hk
  exact law_contract (enc := enc) (s := Rows.floTurnsSpec) bulkOk apOk rfl rfl (tb := 4) (by kernel_rfl) Try.underlying4 ts6 laidOut (of_decide_eq_true (by kernel_rfl)) rfl
    (fun ds hd => by
      match ds, hd with
      | [d1, d2], _ => rfl) (fun vs h _ => plain6 vs h) hval hW hk

theorem proved6 : Rows.FloTurnsUptoSaid :=
  OpenClaim.holds_of_cond 6 Try.f6 rfl rfl rfl rfl rfl rfl rfl ⟨rfl, rfl, rfl, rfl, rfl⟩ rfl rfl rfl rfl rfl (by kernel_rfl) Try.func6 (by kernel_rfl)
    (of_decide_eq_true (by kernel_rfl)) (by unfold Func.isWrapper; first | (rw [if_pos (by decide +kernel)]; kernel_rfl) | (rw [if_neg (by decide +kernel)]; exact ⟨rfl, rfl⟩))
    (fun os started H enc _ F => lifted6 os started H enc F)
#print axioms proved6
end Go.Proofs.Ytpojglkaohhbkaa
