import Derived.Test.YtpojglkaohhbkaaFzFC
set_option maxRecDepth 100000
namespace Fz.F
open Go
/-- What comes of two. -/
def twoF (op : Int) (x y : Nat) : Option Nat := if op = 43 then D.add x y else if op = 45 then D.sub x y else if op = 42 then D.mul x y else if op = 47 then D.div x y else if op = 109 then some (lst x y) else some (ng (lst (ng x) (ng y)))
def isTwo (op : Int) : Bool := op == 43 || op == 45 || op == 42 || op == 47 || op == 109 || op == 77
def two (op a b : Int) : Int × Bool := if isTwo op = false then (0, false) else if num (wd a) = false ∨ num (wd b) = false then (nan, true) else (ce (twoF op (wd a) (wd b)), true)
theorem num_eq (b : Nat) : (FloatKind.f64.format.order b b != some .eq) = !num b := rfl
theorem num_eq' (b : Nat) : (FloatKind.f64.format.order b b == some .eq) = num b := rfl
theorem c_two (op a b : Int) : Comes p 9 [.int .u8 op, .int .i64 a, .int .i64 b] (.tuple [.int .i64 (two op a b).1, .bool (two op a b).2]) := by
  refine Comes_of w9 rfl rfl k9 ?_ ?_ ?_ ?_
  · simp
  · simp
  · simp
  · by_cases hn : num (wd a) = false ∨ num (wd b) = false
    · have hx : (!num (wd a)) = true ∨ ((!num (wd a)) = false ∧ (!num (wd b)) = true) := by cases h : num (wd a) <;> simp_all
      by_cases h1 : op = 43
      · rcases hx with hx | ⟨hx, hy⟩ <;> simp -dsimp [w9, wFix_by, call_by c_twos, twosV, call_by (c_float _), num_eq, h1, two, isTwo, hn, nan, *]
      by_cases h2 : op = 45
      · rcases hx with hx | ⟨hx, hy⟩ <;> simp -dsimp [w9, wFix_by, call_by c_twos, twosV, call_by (c_float _), num_eq, h1, two, isTwo, hn, nan, *]
      by_cases h3 : op = 42
      · rcases hx with hx | ⟨hx, hy⟩ <;> simp -dsimp [w9, wFix_by, call_by c_twos, twosV, call_by (c_float _), num_eq, h1, two, isTwo, hn, nan, *]
      by_cases h4 : op = 47
      · rcases hx with hx | ⟨hx, hy⟩ <;> simp -dsimp [w9, wFix_by, call_by c_twos, twosV, call_by (c_float _), num_eq, h1, two, isTwo, hn, nan, *]
      by_cases h5 : op = 109
      · rcases hx with hx | ⟨hx, hy⟩ <;> simp -dsimp [w9, wFix_by, call_by c_twos, twosV, call_by (c_float _), num_eq, h1, two, isTwo, hn, nan, *]
      by_cases h6 : op = 77
      · rcases hx with hx | ⟨hx, hy⟩ <;> simp -dsimp [w9, wFix_by, call_by c_twos, twosV, call_by (c_float _), num_eq, h1, two, isTwo, hn, nan, *]
      simp -dsimp [w9, wFix_by, call_by c_twos, twosV, call_by (c_float _), num_eq, h1, h2, h3, h4, h5, h6, two, isTwo]
    · have hx : num (wd a) = true := by cases h : num (wd a) <;> simp_all
      have hy : num (wd b) = true := by cases h : num (wd b) <;> simp_all
      by_cases h1 : op = 43
      · simp -dsimp [w9, wFix_by, call_by c_twos, twosV, call_by (c_float _), num_eq, h1, two, isTwo, hx, hy, twoF, call_by (c_add _ _), call_by (c_bitsV _)]
      by_cases h2 : op = 45
      · simp -dsimp [w9, wFix_by, call_by c_twos, twosV, call_by (c_float _), num_eq, h2, two, isTwo, hx, hy, twoF, call_by (c_sub _ _), call_by (c_bitsV _)]
      by_cases h3 : op = 42
      · simp -dsimp [w9, wFix_by, call_by c_twos, twosV, call_by (c_float _), num_eq, h3, two, isTwo, hx, hy, twoF, call_by (c_mul _ _), call_by (c_bitsV _)]
      by_cases h4 : op = 47
      · simp -dsimp [w9, wFix_by, call_by c_twos, twosV, call_by (c_float _), num_eq, h4, two, isTwo, hx, hy, twoF, call_by (c_div _ _), call_by (c_bitsV _)]
      by_cases h5 : op = 109
      · simp -dsimp [w9, wFix_by, call_by c_twos, twosV, call_by (c_float _), num_eq, h5, two, isTwo, hx, hy, twoF, call_by (c_least _ _), call_by (c_bits _)]
      by_cases h6 : op = 77
      · simp -dsimp [w9, wFix_by, call_by c_twos, twosV, call_by (c_float _), num_eq, h6, two, isTwo, hx, hy, twoF, call_by (c_most _ _), call_by (c_bits _)]
      simp -dsimp [w9, wFix_by, call_by c_twos, twosV, call_by (c_float _), num_eq, h1, h2, h3, h4, h5, h6, two, isTwo]

def oneF (op : Int) (x : Nat) : Option Nat := if op = 110 then some (ng x) else if op = 97 then some (ab x) else if op = 115 then D.sqrt x else some (flr x)
def isOne (op : Int) : Bool := op == 110 || op == 97 || op == 115 || op == 102
def one (op a : Int) : Int × Bool := if isOne op = false then (0, false) else if num (wd a) = false then (nan, true) else (ce (oneF op (wd a)), true)
theorem c_one (op a : Int) : Comes p 11 [.int .u8 op, .int .i64 a] (.tuple [.int .i64 (one op a).1, .bool (one op a).2]) := by
  refine Comes_of w11 rfl rfl k11 ?_ ?_ ?_ ?_
  · simp
  · simp
  · simp
  · cases hn : num (wd a)
    · by_cases h1 : op = 110
      · simp -dsimp [w11, wFix_by, call_by (c_float _), num_eq, h1, one, isOne, hn, nan]
      by_cases h2 : op = 97
      · simp -dsimp [w11, wFix_by, call_by (c_float _), num_eq, h2, one, isOne, hn, nan]
      by_cases h3 : op = 115
      · simp -dsimp [w11, wFix_by, call_by (c_float _), num_eq, h3, one, isOne, hn, nan]
      by_cases h4 : op = 102
      · simp -dsimp [w11, wFix_by, call_by (c_float _), num_eq, h4, one, isOne, hn, nan]
      simp -dsimp [w11, wFix_by, call_by (c_float _), num_eq, h1, h2, h3, h4, one, isOne]
    · by_cases h1 : op = 110
      · simp -dsimp [w11, wFix_by, call_by (c_float _), num_eq, h1, one, isOne, hn, oneF, call_by (c_neg _), call_by (c_bits _)]
      by_cases h2 : op = 97
      · simp -dsimp [w11, wFix_by, call_by (c_float _), num_eq, h2, one, isOne, hn, oneF, call_by (c_abs _), call_by (c_bits _)]
      by_cases h3 : op = 115
      · simp -dsimp [w11, wFix_by, call_by (c_float _), num_eq, h3, one, isOne, hn, oneF, call_by (c_sqrt _), call_by (c_bitsV _)]
      by_cases h4 : op = 102
      · simp -dsimp [w11, wFix_by, call_by (c_float _), num_eq, h4, one, isOne, hn, oneF, call_by (c_floor _ hn), call_by (c_bits _)]
      simp -dsimp [w11, wFix_by, call_by (c_float _), num_eq, h1, h2, h3, h4, one, isOne]

def less (a b : Int) : Bool := D.order (wd a) (wd b) == some .lt
def same (a b : Int) : Bool := D.order (wd a) (wd b) == some .eq
theorem c_less (a b : Int) : Comes p 15 [.int .i64 a, .int .i64 b] (.bool (less a b)) := by
  refine Comes_of w15 rfl rfl k15 ?_ ?_ ?_ ?_
  · simp
  · simp
  · simp
  · simp -dsimp [w15, wFix_by, call_by (c_float _)]
    rfl
theorem c_same (a b : Int) : Comes p 17 [.int .i64 a, .int .i64 b] (.bool (same a b)) := by
  refine Comes_of w17 rfl rfl k17 ?_ ?_ ?_ ?_
  · simp
  · simp
  · simp
  · simp -dsimp [w17, wFix_by, call_by (c_float _)]
    rfl
theorem r_less (a b : Int) : Comes p 18 [.int .i64 a, .int .i64 b] (.bool (less a b)) := by
  refine Comes_of w18 rfl rfl k18 ?_ ?_ ?_ ?_
  · simp
  · simp
  · simp
  · simp -dsimp [w18, wFix_by, call_by (p_from _)]
    rfl
theorem r_same (a b : Int) : Comes p 19 [.int .i64 a, .int .i64 b] (.bool (same a b)) := by
  refine Comes_of w19 rfl rfl k19 ?_ ?_ ?_ ?_
  · simp
  · simp
  · simp
  · simp -dsimp [w19, wFix_by, call_by (p_from _)]
    rfl
theorem r_num (a : Int) : Comes p 14 [.int .i64 a] (.bool (num (wd a))) := by
  refine Comes_of w14 rfl rfl k14 ?_ ?_ ?_ ?_
  · simp
  · simp
  · simp
  · simp -dsimp [w14, wFix_by, call_by (p_from _)]
    rfl
theorem r_minus (a : Int) : Comes p 44 [.int .i64 a] (.bool (decide (a < 0))) := by
  refine Comes_of w44 rfl rfl k44 ?_ ?_ ?_ ?_
  · simp
  · simp
  · simp
  · simp -dsimp [w44, wFix_by]
def put (n : Int) : Int := ce (some (FloatKind.f64.nearest n))
theorem c_put (n : Int) : Comes p 22 [.int .i64 n] (.int .i64 (put n)) := by
  refine Comes_of w22 rfl rfl k22 ?_ ?_ ?_ ?_
  · simp
  · simp
  · simp
  · simp -dsimp [w22, wFix_by, call_by (c_bits _), put]
theorem r_put (n : Int) : Comes p 23 [.int .i64 n] (.int .i64 (put n)) := by
  refine Comes_of w23 rfl rfl k23 ?_ ?_ ?_ ?_
  · simp
  · simp
  · simp
  · simp -dsimp [w23, wFix_by, call_by (c_cell _), put]
end Fz.F
