/- AluBelow: the values below those that a word takes make no difference, and stay; but to PICK, ROLL and DEPTH; where what is read is of bulk at most 1048576. -/
import Derived.Test.YtagdmfgnnhlakaaGreatDoorFzRaBM5
set_option linter.all false
set_option linter.unusedVariables false
set_option linter.unusedSimpArgs false
set_option linter.unnecessarySimpa false
set_option maxRecDepth 100000
namespace Fz.D
open Go Go.Proofs Go.Proofs.YtagdmfgnnhlakaaGreatDoor Go.ChangeShapes Go.WideShapes Go.ChangeAt Go.RowKit
theorem plain (vs : List V) (h : HasTs [.int .u8, .sl (.int .i64), .sl (.int .i64)] vs) : ∃ n H', acall p n 4 vs [] = some (.ret (.bool true), H') := by
  obtain ⟨v1, r1, rfl, h1, v2, r2, rfl, h2, v3, r3, rfl, h3, rfl⟩ := h
  obtain ⟨a1, rfl, g1⟩ := u8_of h1
  obtain ⟨a2, rfl, g2⟩ := in_of h2
  obtain ⟨a3, rfl, g3⟩ := in_of h3
  exact done (lawBelow g1 g2 g3) rfl
theorem tsOk : mapOpt (tyOf Tryz.prog 8) Tryz.f4.params.toList = some [.int .u8, .sl (.int .i64), .sl (.int .i64)] := by kernel_rfl
end Fz.D
namespace Go.Proofs.YtagdmfgnnhlakaaGreatDoor
open Fz Fz.D Go.ChangeShapes Go.WideShapes Go.ChangeAt Go.RowKit
theorem reads (os : Os) {H : Type} (enc : TypeId × Value → H) : ∃ places, DataW.whole enc Tryz.prog ((World.doorLaid Tryz.prog 400 os).forCall (fun _ _ => 0) ⟨#[], #[.int .u8 0, .slice none 0 0, .slice none 0 0], []⟩).memory Tryz.f4.params.toList Rows.aluBelowSpec.vars false (#[.int .u8 0, .slice none 0 0, .slice none 0 0] : Array Value).toList 8 = some ([.lit (.int .u8 0), .nil, .nil], [], places) :=
  ⟨[], by kernel_rfl⟩
theorem lifted (os : Os) (started : os.Started) (H : Type) (enc : TypeId × Value → H) (F : Stop.Interp) :
    ReturnsInHanded {} Tryz.checked os 4 .any ((Rows.OpenSpec.upto Rows.aluBelowSpec).preRow enc Tryz.prog Tryz.f4 Rows.aluBelowUptoRow.domain false Rows.aluBelowUptoRow.laid) (((Rows.OpenSpec.upto Rows.aluBelowSpec).at F).post enc Tryz.prog Tryz.f4 false true false false) := by
  obtain ⟨places, hx⟩ := reads os enc
  refine returnsInHanded_of_row (C := Tryz.checked) (s := Rows.OpenSpec.upto Rows.aluBelowSpec) own started (by kernel_rfl) Tryz.func4
    (witness_row_atRef (enc := enc) (C := Tryz.checked) false (World.doorLaid Tryz.prog 400 os) #[.int .u8 0, .slice none 0 0, .slice none 0 0] rfl (by kernel_rfl) (by kernel_rfl) (by kernel_rfl)
      (OpenSpec.preRow_of_cond 8 hx (by kernel_rfl) (fun k hk => by cases hk; kernel_rfl) (by kernel_rfl) (door_met os _))) ?_
  intro W base args ds gs before hval hW _ hcond _ hL _ _
  have hk : Rows.uptoBulkAll (ds ++ gs) ≤ 1048576 := of_decide_eq_true (hcond _ rfl)
  exact law_contract (enc := enc) (s := Rows.aluBelowSpec) bulkOk apOk rfl rfl (tb := 4) (by kernel_rfl) Tryz.underlying4 tsOk laidOut (of_decide_eq_true (by kernel_rfl)) rfl
    (fun ds hd => by
      match ds, hd with
      | [d1, d2, d3], _ => rfl) (fun vs h _ => plain vs h) hval hW hk (by decide) (glob_seat hL)
set_option maxHeartbeats 8000000 in
theorem closed : joinedFacts Tryz.pinned.checked.prog 4 Tryz.f4 (Rows.OpenSpec.upto Rows.aluBelowSpec).bare Rows.aluBelowUptoRow = true := by
  unfold joinedFacts
  simp only [Bool.and_eq_true]
  repeat' apply And.intro
  all_goals as_aux_lemma => kernel_rfl
theorem saidUpto : Rows.AluBelowUptoSaid :=
  OpenClaim.holds_of_cond 4 Tryz.f4 rfl rfl rfl rfl rfl rfl rfl ⟨rfl, rfl, rfl, rfl, rfl⟩ rfl rfl rfl rfl rfl (by kernel_rfl) Tryz.func4 closed
    (of_decide_eq_true (by kernel_rfl)) (by unfold Func.isWrapper; first | (rw [if_pos (by decide +kernel)]; kernel_rfl) | (rw [if_neg (by decide +kernel)]; exact ⟨rfl, rfl⟩))
    (fun os started H enc _ F => by rw [OpenClaim.pre_eq_preRow]; exact lifted os started H enc F)
theorem noStand : Tryz.f4.params.toList.all (fun t => !Tryz.prog.wantsStandIn t) = true := by kernel_rfl
theorem plainCard (f : FuncId) (fn : Func) (hf : Tryz.pinned.checked.prog.funcNamed "nostos/nostoslaw09.AluBelow" = some f) (hfn : Tryz.pinned.checked.prog.funcs[f]? = some fn) :
    true = Tryz.pinned.checked.prog.looks [] ∧ ∀ (j : Nat) t, fn.params[j]? = some t → Tryz.pinned.checked.prog.wantsStandIn t = false := by
  obtain rfl : f = 4 := Option.some.inj ((show Tryz.prog.funcNamed "nostos/nostoslaw09.AluBelow" = some 4 by kernel_rfl).symm.trans hf) |>.symm
  obtain rfl : fn = Tryz.f4 := (Option.some.inj (Tryz.func4.symm.trans hfn)).symm
  refine ⟨by kernel_rfl, fun j t ht => ?_⟩
  have h := List.all_eq_true.1 noStand t (by
    have := Array.mem_of_getElem? ht
    exact Array.mem_toList_iff.2 this)
  exact (by simpa using h : Tryz.prog.wantsStandIn t = false)
theorem proved : Rows.AluBelowUptoCardSaid :=
  Claim7.holds_tied_plain_at .later [] _ _ _ _ saidUpto (fun _ h => by cases h) (by as_aux_lemma => kernel_rfl) (fun _ h => by cases h) aluBelowUpto_row_tie rfl ⟨rfl, rfl⟩ (by as_aux_lemma => kernel_rfl) rfl plainCard (by as_aux_lemma => kernel_rfl)
#print axioms proved
end Go.Proofs.YtagdmfgnnhlakaaGreatDoor
