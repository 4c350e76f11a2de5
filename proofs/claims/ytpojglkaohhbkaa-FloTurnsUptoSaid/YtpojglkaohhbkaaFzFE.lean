import Derived.Test.YtpojglkaohhbkaaFzFD
set_option maxRecDepth 100000
namespace Fz.F
open Go
def lstC (a b : Int) : Int := if D.order (wd a) (wd b) = some .lt then a else if D.order (wd a) (wd b) = some .gt then b else if a < 0 then a else b
theorem r_least (a b : Int) : Comes p 29 [.int .i64 a, .int .i64 b] (.int .i64 (lstC a b)) := by
  refine Comes_of w29 rfl rfl k29 ?_ ?_ ?_ ?_
  · simp
  · simp
  · simp
  · have e : FloatKind.f64.format.order (IntKind.u64.wrap a).toNat (IntKind.u64.wrap b).toNat = D.order (wd a) (wd b) := rfl
    unfold lstC
    generalize D.order (wd a) (wd b) = o at e
    by_cases h : a < 0 <;> rcases o with _ | o <;> (try cases o) <;> simp -dsimp [w29, wFix_by, call_by (p_from _), e, h, call_by (r_minus _)]
def grtC (a b : Int) : Int := if lstC a b = a then b else a
theorem r_greatest (a b : Int) : Comes p 30 [.int .i64 a, .int .i64 b] (.int .i64 (grtC a b)) := by
  refine Comes_of w30 rfl rfl k30 ?_ ?_ ?_ ?_
  · simp
  · simp
  · simp
  · unfold grtC
    by_cases h : lstC a b = a <;> simp -dsimp [w30, wFix_by, call_by (r_least _ _), h]
def rtwoF (op a b : Int) : Int := if op = 43 then ce (D.add (wd a) (wd b)) else if op = 45 then ce (D.sub (wd a) (wd b)) else if op = 42 then ce (D.mul (wd a) (wd b)) else if op = 47 then ce (D.div (wd a) (wd b)) else if op = 109 then lstC a b else grtC a b
def rtwo (op a b : Int) : Int × Bool := if isTwo op = false then (0, false) else if num (wd a) = false ∨ num (wd b) = false then (nan, true) else (rtwoF op a b, true)
theorem r_two (op a b : Int) : Comes p 10 [.int .u8 op, .int .i64 a, .int .i64 b] (.tuple [.int .i64 (rtwo op a b).1, .bool (rtwo op a b).2]) := by
  refine Comes_of w10 rfl rfl k10 ?_ ?_ ?_ ?_
  · simp
  · simp
  · simp
  · have ew : ∀ a, (IntKind.u64.wrap a).toNat = wd a := fun _ => rfl
    by_cases hn : num (wd a) = false ∨ num (wd b) = false
    · have hx : num (wd a) = false ∨ (num (wd a) = true ∧ num (wd b) = false) := by cases h : num (wd a) <;> simp_all
      by_cases h1 : op = 43 ∨ op = 45 ∨ op = 42 ∨ op = 47 ∨ op = 109 ∨ op = 77
      · rcases hx with hx | ⟨hx, hy⟩ <;> rcases h1 with rfl | rfl | rfl | rfl | rfl | rfl <;> simp -dsimp [w10, wFix_by, call_by (r_num _), rtwo, isTwo, nan, *]
      · simp only [not_or] at h1
        obtain ⟨h1, h2, h3, h4, h5, h6⟩ := h1
        simp -dsimp [w10, wFix_by, rtwo, isTwo, *]
    · have hx : num (wd a) = true := by cases h : num (wd a) <;> simp_all
      have hy : num (wd b) = true := by cases h : num (wd b) <;> simp_all
      by_cases h1 : op = 43
      · have e : FloatKind.f64.format.add (wd a) (wd b) = D.add (wd a) (wd b) := rfl
        cases h : D.add (wd a) (wd b) <;> simp -dsimp [w10, wFix_by, call_by (r_num _), call_by (p_from _), ew, rtwo, isTwo, rtwoF, hx, hy, h1, e, h, call_by (c_cell _), call_by c_cellN, ce]
      by_cases h2 : op = 45
      · have e : FloatKind.f64.format.sub (wd a) (wd b) = D.sub (wd a) (wd b) := rfl
        cases h : D.sub (wd a) (wd b) <;> simp -dsimp [w10, wFix_by, call_by (r_num _), call_by (p_from _), ew, rtwo, isTwo, rtwoF, hx, hy, h2, e, h, call_by (c_cell _), call_by c_cellN, ce]
      by_cases h3 : op = 42
      · have e : FloatKind.f64.format.mul (wd a) (wd b) = D.mul (wd a) (wd b) := rfl
        cases h : D.mul (wd a) (wd b) <;> simp -dsimp [w10, wFix_by, call_by (r_num _), call_by (p_from _), ew, rtwo, isTwo, rtwoF, hx, hy, h3, e, h, call_by (c_cell _), call_by c_cellN, ce]
      by_cases h4 : op = 47
      · have e : FloatKind.f64.format.div (wd a) (wd b) = D.div (wd a) (wd b) := rfl
        cases h : D.div (wd a) (wd b) <;> simp -dsimp [w10, wFix_by, call_by (r_num _), call_by (p_from _), ew, rtwo, isTwo, rtwoF, hx, hy, h4, e, h, call_by (c_cell _), call_by c_cellN, ce]
      by_cases h5 : op = 109
      · simp -dsimp [w10, wFix_by, call_by (r_num _), call_by (p_from _), ew, rtwo, isTwo, rtwoF, hx, hy, h5, call_by (r_least _ _)]
      by_cases h6 : op = 77
      · simp -dsimp [w10, wFix_by, call_by (r_num _), call_by (p_from _), ew, rtwo, isTwo, rtwoF, hx, hy, h6, call_by (r_greatest _ _)]
      simp -dsimp [w10, wFix_by, rtwo, isTwo, *]
def rneg (a : Int) : Int := IntKind.i64.wrap (IntKind.u64.wrap (BitVec.ofInt 64 (IntKind.u64.wrap a) ^^^ BitVec.ofInt 64 9223372036854775808).toNat)
def rabs (a : Int) : Int := IntKind.i64.wrap (IntKind.u64.wrap (BitVec.ofInt 64 (IntKind.u64.wrap a) &&& BitVec.ofInt 64 9223372036854775807).toNat)
def rone (op a : Int) : Int × Bool := if isOne op = false then (0, false) else if num (wd a) = false then (nan, true) else
  (if op = 110 then rneg a else if op = 97 then rabs a else if op = 115 then ce (D.sqrt (wd a)) else ce (some (flr (wd a))), true)
theorem r_one (op a : Int) : Comes p 12 [.int .u8 op, .int .i64 a] (.tuple [.int .i64 (rone op a).1, .bool (rone op a).2]) := by
  refine Comes_of w12 rfl rfl k12 ?_ ?_ ?_ ?_
  · simp
  · simp
  · simp
  · have ew : ∀ a, (IntKind.u64.wrap a).toNat = wd a := fun _ => rfl
    by_cases h1 : op = 110 ∨ op = 97 ∨ op = 115 ∨ op = 102
    · cases hn : num (wd a)
      · rcases h1 with rfl | rfl | rfl | rfl <;> simp -dsimp [w12, wFix_by, call_by (r_num _), rone, isOne, nan, hn]
      · rcases h1 with rfl | rfl | rfl | rfl
        · simp -dsimp [w12, wFix_by, call_by (r_num _), call_by (p_from _), ew, rone, isOne, hn]
          rfl
        · simp -dsimp [w12, wFix_by, call_by (r_num _), call_by (p_from _), ew, rone, isOne, hn]
          rfl
        · cases h : D.sqrt (wd a) <;> simp -dsimp [w12, wFix_by, call_by (r_num _), call_by (p_from _), ew, rone, isOne, hn, h, call_by (c_sqrt _), call_by (c_cell _), call_by c_cellN, ce, floatV]
        · simp -dsimp [w12, wFix_by, call_by (r_num _), call_by (p_from _), ew, rone, isOne, hn, call_by (c_floor _ hn), call_by (c_cell _)]
    · simp only [not_or] at h1
      obtain ⟨h1, h2, h3, h4⟩ := h1
      simp -dsimp [w12, wFix_by, rone, isOne, *]

theorem l_two (op a b : Int) : Comes p 16 [.int .u8 op, .int .i64 a, .int .i64 b] (.int .i64 (two op a b).1) := by
  refine Comes_of w16 rfl rfl k16 ?_ ?_ ?_ ?_
  · simp
  · simp
  · simp
  · simp -dsimp [w16, wFix_by, call_by (c_two _ _ _)]
theorem l_one (op a : Int) : Comes p 13 [.int .u8 op, .int .i64 a] (.int .i64 (one op a).1) := by
  refine Comes_of w13 rfl rfl k13 ?_ ?_ ?_ ?_
  · simp
  · simp
  · simp
  · simp -dsimp [w13, wFix_by, call_by (c_one _ _)]
theorem lawake : Comes p 8 [] (.bool true) := by
  have h : (acall p 60 8 [] []).map (fun x => x.1) = some (.ret (.bool true)) := by kernel_rfl
  cases hc : acall p 60 8 [] [] with
  | none => rw [hc] at h; cases h
  | some x =>
    rw [hc] at h
    obtain ⟨r, H⟩ := x
    simp at h
    subst h
    exact ⟨rfl, by simp, by simp, 60, _, H, hc, .inr ⟨rfl, .bool true, H, freeze_gr _ _ _ rfl rfl, by simp⟩⟩
end Fz.F
