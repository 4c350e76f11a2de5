/- SnapOne: bytes (300 at most) that are a state are its only form, by any base (200 bytes at most); where what is read is of bulk at most 1048576. -/
import Derived.Test.YtnngbniomonabaaDoorFzSn6M6
set_option linter.all false
set_option linter.unusedVariables false
set_option linter.unusedSimpArgs false
set_option linter.unnecessarySimpa false
set_option maxRecDepth 100000
namespace Fz.D
open Go Go.Proofs Go.Proofs.YtnngbniomonabaaDoor Go.ChangeShapes Go.WideShapes Go.ChangeAt Go.RowKit
theorem plain (vs : List V) (h : HasTs [.sl (.int .u8), .sl (.int .u8)] vs) : ∃ n H', acall p n 4 vs [] = some (.ret (.bool true), H') := by
  obtain ⟨v1, r1, rfl, h1, v2, r2, rfl, h2, rfl⟩ := h
  obtain ⟨a1, rfl, g1⟩ := by_of h1
  obtain ⟨a2, rfl, g2⟩ := by_of h2
  exact done (lawOne g1 g2) rfl
theorem tsOk : mapOpt (tyOf Tryd.prog 8) Tryd.f4.params.toList = some [.sl (.int .u8), .sl (.int .u8)] := by kernel_rfl
end Fz.D
namespace Go.Proofs.YtnngbniomonabaaDoor
open Fz Fz.D Go.ChangeShapes Go.WideShapes Go.ChangeAt Go.RowKit
theorem reads (os : Os) {H : Type} (enc : TypeId × Value → H) : ∃ places, DataW.whole enc Tryd.prog ((World.laidAll Tryd.prog os seatLaid).forCall (fun _ _ => 0) ⟨#[], #[.slice none 0 0, .slice none 0 0], []⟩).memory Tryd.f4.params.toList Rows.snapOneSpec.vars false (#[.slice none 0 0, .slice none 0 0] : Array Value).toList 8 = some ([.nil, .nil], [], places) :=
  ⟨[], by kernel_rfl⟩
theorem lifted (os : Os) (started : os.Started) (H : Type) (enc : TypeId × Value → H) (F : Stop.Interp) :
    ReturnsInHanded {} Tryd.checked os 4 .any ((Rows.OpenSpec.upto Rows.snapOneSpec).preRow enc Tryd.prog Tryd.f4 Rows.snapOneUptoRow.domain false Rows.snapOneUptoRow.laid) (((Rows.OpenSpec.upto Rows.snapOneSpec).at F).post enc Tryd.prog Tryd.f4 false true false false) := by
  obtain ⟨places, hx⟩ := reads os enc
  refine returnsInHanded_of_row (C := Tryd.checked) (s := Rows.OpenSpec.upto Rows.snapOneSpec) own started (by kernel_rfl) Tryd.func4
    (witness_row_atRef (enc := enc) (C := Tryd.checked) false (World.laidAll Tryd.prog os seatLaid) #[.slice none 0 0, .slice none 0 0] (World.laidAll_os _ _ _) (by kernel_rfl) (by kernel_rfl) (by kernel_rfl)
      (OpenSpec.preRow_of_cond 8 hx (by kernel_rfl) (fun k hk => by cases hk; kernel_rfl) (by kernel_rfl) (door_met os _))) ?_
  intro W base args ds gs before hval hW _ hcond _ hL _ _
  have hk : Rows.uptoBulkAll (ds ++ gs) ≤ 1048576 := of_decide_eq_true (hcond _ rfl)
  exact law_contract (enc := enc) (s := Rows.snapOneSpec) bulkOk apOk rfl rfl (tb := 4) (by kernel_rfl) Tryd.underlying4 tsOk laidOut (of_decide_eq_true (by kernel_rfl)) rfl
    (fun ds hd => by
      match ds, hd with
      | [d1, d2], _ => rfl) (fun vs h _ => plain vs h) hval hW hk (by decide) (glob_seat hL)
set_option maxHeartbeats 8000000 in
theorem closed : joinedFacts Tryd.pinned.checked.prog 4 Tryd.f4 (Rows.OpenSpec.upto Rows.snapOneSpec).bare Rows.snapOneUptoRow = true := by
  unfold joinedFacts
  simp only [Bool.and_eq_true]
  repeat' apply And.intro
  all_goals as_aux_lemma => kernel_rfl
theorem saidUpto : Rows.SnapOneUptoSaid :=
  OpenClaim.holds_of_cond 4 Tryd.f4 rfl rfl rfl rfl rfl rfl rfl ⟨rfl, rfl, rfl, rfl, rfl⟩ rfl rfl rfl rfl rfl (by kernel_rfl) Tryd.func4 closed
    (of_decide_eq_true (by kernel_rfl)) (by unfold Func.isWrapper; first | (rw [if_pos (by decide +kernel)]; kernel_rfl) | (rw [if_neg (by decide +kernel)]; exact ⟨rfl, rfl⟩))
    (fun os started H enc _ F => by rw [OpenClaim.pre_eq_preRow]; exact lifted os started H enc F)
theorem noStand : Tryd.f4.params.toList.all (fun t => !Tryd.prog.wantsStandIn t) = true := by kernel_rfl
theorem plainCard (f : FuncId) (fn : Func) (hf : Tryd.pinned.checked.prog.funcNamed "nostos/nostoslaw19.SnapOne" = some f) (hfn : Tryd.pinned.checked.prog.funcs[f]? = some fn) :
    true = Tryd.pinned.checked.prog.looks [] ∧ ∀ (j : Nat) t, fn.params[j]? = some t → Tryd.pinned.checked.prog.wantsStandIn t = false := by
  obtain rfl : f = 4 := Option.some.inj ((show Tryd.prog.funcNamed "nostos/nostoslaw19.SnapOne" = some 4 by kernel_rfl).symm.trans hf) |>.symm
  obtain rfl : fn = Tryd.f4 := (Option.some.inj (Tryd.func4.symm.trans hfn)).symm
  refine ⟨by kernel_rfl, fun j t ht => ?_⟩
  have h := List.all_eq_true.1 noStand t (by
    have := Array.mem_of_getElem? ht
    exact Array.mem_toList_iff.2 this)
  exact (by simpa using h : Tryd.prog.wantsStandIn t = false)
theorem proved : Rows.SnapOneUptoCardSaid :=
  Claim7.holds_tied_plain_at .later [] _ _ _ _ saidUpto (fun _ h => by cases h) (by kernel_rfl) (fun _ h => by cases h) snapOneUpto_row_tie rfl ⟨rfl, rfl⟩ (by kernel_rfl) rfl plainCard (by kernel_rfl)
#print axioms proved
end Go.Proofs.YtnngbniomonabaaDoor
