import Derived.Test.YtpojglkaohhbkaaFzFR
import Derived.Test.YtpojglkaohhbkaaFzAG
import Derived.Test.YtpojglkaohhbkaaRows
set_option maxRecDepth 100000
namespace Fz.F
open Go Go.Proofs Go.Proofs.Ytpojglkaohhbkaa Go.ChangeShapes Go.WideShapes Go.ChangeAt Go.RowKit
theorem prims_ok (f : FuncId) (pr : Prim) (h : prims f = some pr) : ∃ fn, Try.prog.funcs[f]? = some fn ∧ (fn.name == "runtime.NumGoroutine") = false ∧ fn.body = none ∧ Extern.findNext fn = none ∧ ∀ a, (Extern.find fn).map (fun e => e a) = some (primSem pr a) := by
  unfold prims at h
  split at h <;> cases h
  · exact ⟨_, Try.func27, by kernel_rfl, by kernel_rfl, by kernel_rfl, fun a => by kernel_rfl⟩
  · exact ⟨_, Try.func43, by kernel_rfl, by kernel_rfl, by kernel_rfl, fun a => by kernel_rfl⟩
  · exact ⟨_, Try.func45, by kernel_rfl, by kernel_rfl, by kernel_rfl, fun a => by kernel_rfl⟩
  · exact ⟨_, Try.func46, by kernel_rfl, by kernel_rfl, by kernel_rfl, fun a => by kernel_rfl⟩
  · exact ⟨_, Try.func48, by kernel_rfl, by kernel_rfl, by kernel_rfl, fun a => by kernel_rfl⟩
theorem apOk : APOk Try.prog p where
  mixed := by kernel_rfl
  fn f af h := tab_ok _ (lk_mem _ _ _ h)
  prim f g h := by
    obtain ⟨pr, hp, rfl⟩ := Option.map_eq_some_iff.1 (show (prims f).map primV = some g from h)
    obtain ⟨fn, h1, h2, h3, h4, h5⟩ := prims_ok f pr hp
    exact prim_ok h1 h2 h3 h4 h5
theorem bulkOk : Bulk (fun {_} => Rows.uptoBulk) (fun {_} => Rows.uptoBulkAll) where
  lit b := by simp [Rows.uptoBulk]
  pos d := by
    cases d with
    | lit l => cases l <;> simp [Rows.uptoBulk]
    | _ => simp [Rows.uptoBulk]
  agg l := by simp [Rows.uptoBulk]
  slice l m := by simp [Rows.uptoBulk]
  nil := by simp [Rows.uptoBulkAll]
  cons d l := by simp [Rows.uptoBulkAll]
theorem own : ownKnob Try.prog.godebug = none := by kernel_rfl
theorem laidOut : laidOutB Try.prog = true := by kernel_rfl
theorem done {f : FuncId} {args : List V} (h : WFun p f args [] yes) : ∃ n H', acall p n f args [] = some (.ret (.bool true), H') := by
  obtain ⟨n, r, H', h1, rfl⟩ := h
  exact ⟨n, H', h1⟩
end Fz.F
