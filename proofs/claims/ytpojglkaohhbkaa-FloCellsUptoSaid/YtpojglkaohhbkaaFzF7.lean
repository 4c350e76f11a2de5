/- FloCells: any cell as a float, any float as a cell; a cell of 2^53 or less, either sign, is told there and back. -/
import Derived.Test.YtpojglkaohhbkaaFzFX
import Derived.Test.YtpojglkaohhbkaaFzFT
set_option maxRecDepth 100000
namespace Fz.F
open Go Go.Proofs Go.Proofs.Ytpojglkaohhbkaa Go.ChangeShapes Go.WideShapes Go.ChangeAt Go.RowKit
theorem plain7 (vs : List V) (h : HasTs [.int .i64, .int .i64] vs) : ∃ n H', acall p n 7 vs [] = some (.ret (.bool true), H') := by
  obtain ⟨v1, r1, rfl, ⟨a, rfl, ha1, ha2⟩, v2, r2, rfl, ⟨b, rfl, hb1, hb2⟩, rfl⟩ := h
  exact done (law_cells a b ⟨ha1, ha2⟩ ⟨hb1, hb2⟩)
theorem ts7 : mapOpt (tyOf Try.prog 8) Try.f7.params.toList = some [.int .i64, .int .i64] := by kernel_rfl
end Fz.F
namespace Go.Proofs.Ytpojglkaohhbkaa
open Fz Fz.F Go.ChangeShapes Go.WideShapes Go.ChangeAt Go.RowKit
set_option maxRecDepth 100000 in
theorem lifted7 (os : Os) (started : os.Started) (H : Type) (enc : TypeId × Value → H) (F : Stop.Interp) :
    ReturnsInHanded {} Try.checked os 7 .any ((Rows.OpenSpec.upto Rows.floCellsSpec).pre6 enc Try.prog Try.f7 Rows.floCellsUptoRow.domain false) (((Rows.OpenSpec.upto Rows.floCellsSpec).at F).post enc Try.prog Try.f7 false true false false) := by
  refine returnsInHanded_of_cond (C := Try.checked) (s := Rows.OpenSpec.upto Rows.floCellsSpec) (k := Rows.uptoSmall) rfl own started (by kernel_rfl) Try.func7
    (OpenSpec.witness (enc := enc) (C := Try.checked) (s := Rows.OpenSpec.upto Rows.floCellsSpec) (k := Rows.uptoSmall) rfl false ⟨#[], #[.int .i64 0, .int .i64 0], []⟩ 8 (by kernel_rfl) (by kernel_rfl) (by kernel_rfl)
      (x := ([.lit (.int .i64 0), .lit (.int .i64 0)], [], [])) (by kernel_rfl) rfl (by kernel_rfl)) ?_
  intro W base args ds gs before hval hW _ hk _
  have hk : Rows.uptoBulkAll (ds ++ gs) ≤ 1048576 := of_decide_eq_true hk
  exact law_contract (enc := enc) (s := Rows.floCellsSpec) bulkOk apOk rfl rfl (tb := 4) (by kernel_rfl) Try.underlying4 ts7 laidOut (of_decide_eq_true (by kernel_rfl)) rfl
    (fun ds hd => by
      match ds, hd with
      | [d1, d2], _ => rfl) (fun vs h _ => plain7 vs h) hval hW hk

theorem proved7 : Rows.FloCellsUptoSaid :=
  OpenClaim.holds_of_cond 7 Try.f7 rfl rfl rfl rfl rfl rfl rfl ⟨rfl, rfl, rfl, rfl, rfl⟩ rfl rfl rfl rfl rfl (by kernel_rfl) Try.func7 (by kernel_rfl)
    (of_decide_eq_true (by kernel_rfl)) (by unfold Func.isWrapper; first | (rw [if_pos (by decide +kernel)]; kernel_rfl) | (rw [if_neg (by decide +kernel)]; exact ⟨rfl, rfl⟩))
    (fun os started H enc _ F => lifted7 os started H enc F)
#print axioms proved7
end Go.Proofs.Ytpojglkaohhbkaa
