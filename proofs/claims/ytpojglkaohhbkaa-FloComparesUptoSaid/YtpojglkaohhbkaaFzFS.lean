import Derived.Test.YtpojglkaohhbkaaFzFR
set_option maxRecDepth 100000
namespace Fz.F
open Go
theorem law_compares (a b : Int) (ha : i64 a) (hb : i64 b) : WFun p 5 [.int .i64 a, .int .i64 b] [] yes := by
  refine WFun_of w5 rfl rfl k5 ?_
  have w1 : IntKind.i64.wrap 1 = 1 := w64 (by omega) (by omega)
  by_cases hn : num (wd a) = true ∧ num (wd b) = true
  · obtain ⟨hx, hy⟩ := hn
    rcases Int.lt_trichotomy (sv (wd a)) (sv (wd b)) with h | h | h
    · have e1 : less a b = true := by simp [less, ord_num hx hy, Int.compare_eq_lt.2 h]
      have e2 : less b a = false := by simp [less, ord_num hy hx, Int.compare_eq_gt.2 h]
      have e3 : same a b = false := by simp [same, ord_num hx hy, Int.compare_eq_lt.2 h]
      simp -dsimp [w5, call_by lawake, call_by (c_less _ _), call_by (c_same _ _), call_by (r_less _ _), call_by (r_same _ _), call_by (r_num _), e1, e2, e3, hx, hy, w1]
    · have e1 : less a b = false := by simp [less, ord_num hx hy, Int.compare_eq_eq.2 h]
      have e2 : less b a = false := by simp [less, ord_num hy hx, Int.compare_eq_eq.2 h.symm]
      have e3 : same a b = true := by simp [same, ord_num hx hy, Int.compare_eq_eq.2 h]
      simp -dsimp [w5, call_by lawake, call_by (c_less _ _), call_by (c_same _ _), call_by (r_less _ _), call_by (r_same _ _), call_by (r_num _), e1, e2, e3, hx, hy, w1]
    · have e1 : less a b = false := by simp [less, ord_num hx hy, Int.compare_eq_gt.2 h]
      have e2 : less b a = true := by simp [less, ord_num hy hx, Int.compare_eq_lt.2 h]
      have e3 : same a b = false := by simp [same, ord_num hx hy, Int.compare_eq_gt.2 h]
      simp -dsimp [w5, call_by lawake, call_by (c_less _ _), call_by (c_same _ _), call_by (r_less _ _), call_by (r_same _ _), call_by (r_num _), e1, e2, e3, hx, hy, w1]
  · have e0 : D.order (wd a) (wd b) = none ∧ D.order (wd b) (wd a) = none := by
      rw [num_rg, num_rg, decide_eq_true_eq, decide_eq_true_eq] at hn
      exact ⟨order_nan (by omega), order_nan (by omega)⟩
    have e1 : less a b = false := by simp [less, e0.1]
    have e2 : less b a = false := by simp [less, e0.2]
    have e3 : same a b = false := by simp [same, e0.1]
    cases hx : num (wd a)
    · simp -dsimp [w5, call_by lawake, call_by (c_less _ _), call_by (c_same _ _), call_by (r_less _ _), call_by (r_same _ _), call_by (r_num _), e1, e2, e3, hx, w1]
    · have hy : num (wd b) = false := by cases h : num (wd b) <;> simp_all
      simp -dsimp [w5, call_by lawake, call_by (c_less _ _), call_by (c_same _ _), call_by (r_less _ _), call_by (r_same _ _), call_by (r_num _), e1, e2, e3, hx, hy, w1]
end Fz.F
