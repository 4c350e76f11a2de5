import Derived.Test.YtophcnbabhigmaaFzHW
set_option maxRecDepth 100000
namespace Fz.H
open Go
theorem law5 (per a b : Int) (l : List Op) (c : Bool) (h8 : ops8 l) (ha : 0 ≤ a ∧ a ≤ 255) (hb : 0 ≤ b ∧ b ≤ 255) : WFun p 5 [.int .i64 per, .agg [.int .u8 a, .int .u8 b], .list (l.map opV) c] [] yes := by
  refine WFun_of w5 rfl rfl k5 ?_
  have hm := lmay 0 per l
  have qm : ∀ H (K : V → Prop), xQuiet p 8 [.int .i64 0, .int .i64 per, .list (l.map opV) c] H K = K _ := fun H K => quiet_nrm rfl (by simp) (by simp; rfl) hm
  have cm : ∀ H (Q : CR → List Ob → Prop), xCall p 8 [.int .i64 0, .int .i64 per, .list (l.map opV) c] H Q = Q (.ret _) H := fun H K => call_nrm rfl (by simp) (by simp; rfl) hm
  by_cases hc : 1 ≤ per ∧ per ≤ 1024 ∧ l.length ≤ 40
  · have hwa : IntKind.i64.wrap a = a := w64 (by omega) (by omega)
    have hwb : IntKind.i64.wrap b = b := w64 (by omega) (by omega)
    have hst : a.tmod 20 = a % 20 := Int.tmod_eq_emod_of_nonneg ha.1
    have hst0 : 0 ≤ a % 20 ∧ a % 20 ≤ 19 := by omega
    simp -dsimp [w5, call_by lawake, quiet_by lawake, qm, cm, hc, hwa, hst]
    generalize a % 20 = steps at hst0 ⊢
    refine xL_by (by kernel_rfl) (fun k e H => ∃ i : Nat, i ≤ l.length ∧ k = l.length - i ∧ e 0 = .int .i64 per ∧ e 2 = .list (l.map opV) c ∧ e 4 = .ptr 0 0 ∧ e 7 = .bool true ∧ e 8 = .int .i64 steps ∧
      e 9 = .int .i64 (recM (l.take i)) ∧ e 10 = .int .i64 (stM (l.take i)) ∧ e 11 = .int .i64 i ∧ H = [.live [.int .u8 a, .int .u8 b]]) l.length ?_ ?_
    · exact ⟨0, by simp [recM, stM]⟩
    · rintro k e H ⟨i, hi, hk, e0, e2, e4, e7, e8, e9, e10, e11, rfl⟩
      obtain ⟨⟨m1, m2, m3, m4⟩, _⟩ := maxs l h8 i hi
      by_cases hlt : i < l.length
      · have hr := recM_succ l i hlt
        have hs := stM_succ l i hlt
        have h8i := h8 _ (List.getElem_mem hlt)
        have hwm : IntKind.i64.wrap l[i].many = l[i].many := w64 (by omega) (by omega)
        have hwi : IntKind.i64.wrap ((i : Int) + 1) = (i : Int) + 1 := w64 (by omega) (by omega)
        cases hsn : l[i].snap with
        | true =>
          rw [hsn] at hr hs
          simp at hr hs
          simp -dsimp [e0, e2, e4, e7, e8, e9, e10, e11, hlt, hsn, hwm, hwi]
          refine ⟨l.length - (i + 1), by omega, i + 1, by omega, rfl, ?_⟩
          simp -dsimp [e0, e2, e4, e7, e8, e9, hr, hs]
          split <;> omega
        | false =>
          rw [hsn] at hr hs
          simp at hr hs
          simp -dsimp [e0, e2, e4, e7, e8, e9, e10, e11, hlt, hsn, hwm, hwi]
          refine ⟨l.length - (i + 1), by omega, i + 1, by omega, rfl, ?_⟩
          simp -dsimp [e0, e2, e4, e7, e8, e10, hr, hs]
          split <;> omega
      · have : i = l.length := by omega
        subst this
        rw [List.take_length] at e9 e10 m1 m2 m3 m4
        have hp0 : per ≠ 0 := by omega
        have hq : steps.tdiv per = steps / per := Int.tdiv_eq_ediv_of_nonneg hst0.1
        have q0 : 0 ≤ steps / per := Int.ediv_nonneg hst0.1 (by omega)
        have q1 : steps / per ≤ 19 := Int.le_trans (Int.ediv_le_self _ hst0.1) hst0.2
        have p0 : 0 ≤ steps * recM l := Int.mul_nonneg hst0.1 m1
        have p1 : steps * recM l ≤ 19 * 255 := Int.mul_le_mul hst0.2 m2 m1 (by omega)
        have p2 : 0 ≤ (steps / per + 1) * stM l := Int.mul_nonneg (by omega) m3
        have p3 : (steps / per + 1) * stM l ≤ 20 * 255 := Int.mul_le_mul (by omega) m4 m3 (by omega)
        have w1 : IntKind.i64.wrap (steps * recM l) = steps * recM l := w64 (by omega) (by omega)
        have w2 : IntKind.i64.wrap (steps / per) = steps / per := w64 (by omega) (by omega)
        have w3 : IntKind.i64.wrap (steps / per + 1) = steps / per + 1 := w64 (by omega) (by omega)
        have w4 : IntKind.i64.wrap ((steps / per + 1) * stM l) = (steps / per + 1) * stM l := w64 (by omega) (by omega)
        have w5 : IntKind.i64.wrap (steps * recM l + (steps / per + 1) * stM l) = steps * recM l + (steps / per + 1) * stM l := w64 (by omega) (by omega)
        have w6 : IntKind.i64.wrap (steps * recM l + (steps / per + 1) * stM l + b) = steps * recM l + (steps / per + 1) * stM l + b := w64 (by omega) (by omega)
        have hk := run_keeps (steps * recM l + (steps / per + 1) * stM l + b) per steps l h8 (by omega) hc.1 hst0.1 (by omega)
        have hrun := lrun (steps * recM l + (steps / per + 1) * stM l + b) per l (by omega) ⟨hc.1, hc.2.1⟩ hc.2.2 h8
        have g := run_good (steps * recM l + (steps / per + 1) * stM l + b) per (by omega) l h8 l.length (Nat.le_refl _)
        rw [List.take_length] at g
        have w6' := w6
        generalize hbud : steps * recM l + (steps / per + 1) * stM l + b = bud at hk hrun g w6'
        have w6 : IntKind.i64.wrap (steps * recM l + (steps / per + 1) * stM l + b) = bud := by rw [hbud]; exact w6'
        generalize runR bud per l = h at *
        have c1 : ∀ H (Q : CR → List Ob → Prop), xCall p 9 [.int .i64 bud, .int .i64 per, .list (l.map opV) c] H Q = Q (.ret (hiV h)) H := fun H K => call_nrm rfl (by simp) (by simp; rfl) hrun
        simp only [hiV] at c1
        have g1 := g.lo
        have g2 := g.top
        have g3 := g.lr
        have w7 : IntKind.i64.wrap (h.top - steps) = h.top - steps := w64 (by omega) (by omega)
        simp -dsimp [e0, e2, e4, e7, e8, e9, e10, e11, hp0, hq, w1, w2, w3, w4, w5, w6, hwb, c1, w7]
        omega
  · have hc' : ¬ (0 ≤ (0 : Int) ∧ 1 ≤ per ∧ per ≤ 1024 ∧ l.length ≤ 40) := by omega
    simp -dsimp [w5, call_by lawake, quiet_by lawake, qm, cm, hc]
end Fz.H
