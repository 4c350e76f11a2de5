import Derived.Test.YtophcnbabhigmaaFzHR
import Derived.Test.YtophcnbabhigmaaFzAG
import Derived.Test.YtophcnbabhigmaaRows
set_option maxRecDepth 100000
namespace Fz.H
open Go Go.Proofs Go.Proofs.Ytophcnbabhigmaa Go.ChangeShapes Go.WideShapes Go.ChangeAt Go.RowKit

theorem lk_mem : ∀ (t : List (Nat × AFun)) (f : FuncId) (a : AFun), lk t f = some a → (f, a) ∈ t
  | [], _, _, h => by cases h
  | (i, b) :: r, f, a, h => by
    unfold lk at h
    split at h
    · rename_i e; cases h; subst e; exact List.mem_cons_self ..
    · exact List.mem_cons_of_mem _ (lk_mem r f a h)
theorem apOk : APOk Try.prog p where
  mixed := by kernel_rfl
  fn f af h := tab_ok _ (lk_mem _ _ _ h)
  prim f g h := by cases h
theorem bulkOk : Bulk (fun {_} => Rows.uptoBulk) (fun {_} => Rows.uptoBulkAll) where
  lit b := by simp [Rows.uptoBulk]
  pos d := by
    cases d with
    | lit l => cases l <;> simp [Rows.uptoBulk]
    | _ => simp [Rows.uptoBulk]
  agg l := by simp [Rows.uptoBulk]
  slice l m := by simp [Rows.uptoBulk]
  nil := by simp [Rows.uptoBulkAll]
  cons d l := by simp [Rows.uptoBulkAll]
theorem own : ownKnob Try.prog.godebug = none := by kernel_rfl
theorem laidOut : laidOutB Try.prog = true := by kernel_rfl

theorem ops_of {v : V} (h : HasT (.sl (.agg [.bool, .int .u8])) v) : ∃ l c, v = .list (l.map opV) c ∧ ops8 l := by
  obtain ⟨vs, c, rfl, h⟩ := h
  have : ∃ l : List Op, vs = l.map opV ∧ ops8 l := by
    induction vs with
    | nil => exact ⟨[], rfl, fun o h => by cases h⟩
    | cons v vs ih =>
      obtain ⟨l, rfl, hl⟩ := ih fun x hx => h x (List.mem_cons_of_mem _ hx)
      obtain ⟨w, rfl, v1, r1, rfl, ⟨b, rfl⟩, v2, r2, rfl, ⟨n, rfl, h1, h2⟩, rfl⟩ := h v (List.mem_cons_self ..)
      have h1 : 0 ≤ n := h1
      have h2 : n ≤ 255 := h2
      refine ⟨⟨b, n⟩ :: l, rfl, fun o ho => ?_⟩
      rcases List.mem_cons.1 ho with rfl | ho
      · exact ⟨h1, h2⟩
      · exact hl o ho
  obtain ⟨l, rfl, hl⟩ := this
  exact ⟨l, c, rfl, hl⟩

theorem done {f : FuncId} {args : List V} (h : WFun p f args [] yes) : ∃ n H', acall p n f args [] = some (.ret (.bool true), H') := by
  obtain ⟨n, r, H', h1, rfl⟩ := h
  exact ⟨n, H', h1⟩

end Fz.H
