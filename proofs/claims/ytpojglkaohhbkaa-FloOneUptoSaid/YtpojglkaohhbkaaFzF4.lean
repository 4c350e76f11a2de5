/- FloOne: what comes of any float, by any operation, is what the document says; whole numbers stay as they are when rounded down, and what is rounded down is not above, and less than 1 below. -/
import Derived.Test.YtpojglkaohhbkaaFzFW
import Derived.Test.YtpojglkaohhbkaaFzFT
set_option maxRecDepth 100000
namespace Fz.F
open Go Go.Proofs Go.Proofs.Ytpojglkaohhbkaa Go.ChangeShapes Go.WideShapes Go.ChangeAt Go.RowKit
theorem plain4 (vs : List V) (h : HasTs [.int .u8, .int .i64] vs) : ∃ n H', acall p n 4 vs [] = some (.ret (.bool true), H') := by
  obtain ⟨v0, r0, rfl, ⟨op, rfl, _⟩, v1, r1, rfl, ⟨a, rfl, ha1, ha2⟩, rfl⟩ := h
  exact done (law_one op a ⟨ha1, ha2⟩)
theorem ts4 : mapOpt (tyOf Try.prog 8) Try.f4.params.toList = some [.int .u8, .int .i64] := by kernel_rfl
end Fz.F
namespace Go.Proofs.Ytpojglkaohhbkaa
open Fz Fz.F Go.ChangeShapes Go.WideShapes Go.ChangeAt Go.RowKit
set_option maxRecDepth 100000 in
theorem lifted4 (os : Os) (started : os.Started) (H : Type) (enc : TypeId × Value → H) (F : Stop.Interp) :
    ReturnsInHanded {} Try.checked os 4 .any ((Rows.OpenSpec.upto Rows.floOneSpec).pre6 enc Try.prog Try.f4 Rows.floOneUptoRow.domain false) (((Rows.OpenSpec.upto Rows.floOneSpec).at F).post enc Try.prog Try.f4 false true false false) := by
  refine returnsInHanded_of_cond (C := Try.checked) (s := Rows.OpenSpec.upto Rows.floOneSpec) (k := Rows.uptoSmall) rfl own started (by kernel_rfl) Try.func4
    (OpenSpec.witness (enc := enc) (C := Try.checked) (s := Rows.OpenSpec.upto Rows.floOneSpec) (k := Rows.uptoSmall) rfl false ⟨#[], #[.int .u8 0, .int .i64 0], []⟩ 8 (by kernel_rfl) (by kernel_rfl) (by kernel_rfl)
      (x := ([.lit (.int .u8 0), .lit (.int .i64 0)], [], [])) (by kernel_rfl) rfl (by kernel_rfl)) ?_
  intro W base args ds gs before hval hW _ hk _
  have hk : Rows.uptoBulkAll (ds ++ gs) ≤ 1048576 := of_decide_eq_true hk
  exact law_contract (enc := enc) (s := Rows.floOneSpec) bulkOk apOk rfl rfl (tb := 4) (by kernel_rfl) Try.underlying4 ts4 laidOut (of_decide_eq_true (by kernel_rfl)) rfl
    (fun ds hd => by
      match ds, hd with
      | [d1, d2], _ => rfl) (fun vs h _ => plain4 vs h) hval hW hk

theorem proved4 : Rows.FloOneUptoSaid :=
  OpenClaim.holds_of_cond 4 Try.f4 rfl rfl rfl rfl rfl rfl rfl ⟨rfl, rfl, rfl, rfl, rfl⟩ rfl rfl rfl rfl rfl (by kernel_rfl) Try.func4 (by kernel_rfl)
    (of_decide_eq_true (by kernel_rfl)) (by unfold Func.isWrapper; first | (rw [if_pos (by decide +kernel)]; kernel_rfl) | (rw [if_neg (by decide +kernel)]; exact ⟨rfl, rfl⟩))
    (fun os started H enc _ F => lifted4 os started H enc F)
#print axioms proved4
end Go.Proofs.Ytpojglkaohhbkaa
