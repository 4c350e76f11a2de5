import Derived.Test.YtpojglkaohhbkaaFzFB
set_option maxRecDepth 100000
namespace Fz.F
open Go
def lst (x y : Nat) : Nat := if D.order x y = some .lt ∨ (D.order x y = some .eq ∧ cl x < 0) then x else y
def ng (x : Nat) : Nat := Op.negFloat .f64 x
theorem c_least (x y : Nat) : Comes p 40 [fl x, fl y] (fl (lst x y)) := by
  refine Comes_of w40 rfl rfl k40 ?_ ?_ ?_ ?_
  · simp
  · simp
  · simp
  · have e : FloatKind.f64.format.order x y = D.order x y := rfl
    by_cases h1 : D.order x y = some .lt
    · simp -dsimp [w40, wFix_by, e, h1, lst]
    · by_cases h2 : D.order x y = some .eq
      · by_cases h3 : cl x < 0
        · simp -dsimp [w40, wFix_by, e, h2, h3, lst, call_by (c_signbit _)]
        · simp -dsimp [w40, wFix_by, e, h2, h3, lst, call_by (c_signbit _)]
      · have h1' : (D.order x y == some .lt) = false := by simpa using h1
        have h2' : (D.order x y == some .eq) = false := by simpa using h2
        simp -dsimp [w40, wFix_by, e, h1', h2', h1, h2, lst]
theorem c_most (x y : Nat) : Comes p 41 [fl x, fl y] (fl (ng (lst (ng x) (ng y)))) := by
  refine Comes_of w41 rfl rfl k41 ?_ ?_ ?_ ?_
  · simp
  · simp
  · simp
  · simp -dsimp [w41, wFix_by, call_by (c_least _ _)]
    rfl
theorem c_add (x y : Nat) : Comes p 36 [fl x, fl y] (floatV .f64 (D.add x y)) := by
  refine Comes_of w36 rfl rfl k36 ?_ ?_ ?_ ?_
  · simp
  · simp
  · simp
  · have e : FloatKind.f64.format.add x y = D.add x y := rfl
    cases h : D.add x y <;> simp -dsimp [w36, wFix_by, e, h, floatV]
theorem c_sub (x y : Nat) : Comes p 37 [fl x, fl y] (floatV .f64 (D.sub x y)) := by
  refine Comes_of w37 rfl rfl k37 ?_ ?_ ?_ ?_
  · simp
  · simp
  · simp
  · have e : FloatKind.f64.format.sub x y = D.sub x y := rfl
    cases h : D.sub x y <;> simp -dsimp [w37, wFix_by, e, h, floatV]
theorem c_mul (x y : Nat) : Comes p 38 [fl x, fl y] (floatV .f64 (D.mul x y)) := by
  refine Comes_of w38 rfl rfl k38 ?_ ?_ ?_ ?_
  · simp
  · simp
  · simp
  · have e : FloatKind.f64.format.mul x y = D.mul x y := rfl
    cases h : D.mul x y <;> simp -dsimp [w38, wFix_by, e, h, floatV]
theorem c_div (x y : Nat) : Comes p 39 [fl x, fl y] (floatV .f64 (D.div x y)) := by
  refine Comes_of w39 rfl rfl k39 ?_ ?_ ?_ ?_
  · simp
  · simp
  · simp
  · have e : FloatKind.f64.format.div x y = D.div x y := rfl
    cases h : D.div x y <;> simp -dsimp [w39, wFix_by, e, h, floatV]
theorem c_neg (x : Nat) : Comes p 31 [fl x] (fl (ng x)) := by
  refine Comes_of w31 rfl rfl k31 ?_ ?_ ?_ ?_
  · simp
  · simp
  · simp
  · simp -dsimp [w31, wFix_by]
    rfl
/-- Without its sign. -/
def ab (x : Nat) : Nat := (IntKind.u64.wrap (BitVec.ofInt 64 x &&& ~~~BitVec.ofInt 64 9223372036854775808).toNat).toNat
theorem c_abs (x : Nat) : Comes p 32 [fl x] (fl (ab x)) := by
  refine Comes_of w32 rfl rfl k32 ?_ ?_ ?_ ?_
  · simp
  · simp
  · simp
  · simp -dsimp [w32, wFix_by, call_by (p_bits _), call_by (p_from _)]
    rfl
theorem c_sqrt (x : Nat) : Comes p 33 [fl x] (floatV .f64 (D.sqrt x)) := by
  refine Comes_of w33 rfl rfl k33 ?_ ?_ ?_ ?_
  · simp
  · simp
  · simp
  · simp -dsimp [w33, wFix_by, call_by (p_sqrt _)]
def flr (x : Nat) : Nat := D.write ((D.read x).integral .down)
def trn (x : Nat) : Nat := D.write ((D.read x).integral .zero)
theorem c_floor (x : Nat) (h : num x = true) : Comes p 34 [fl x] (fl (flr x)) := by
  refine Comes_of w34 rfl rfl k34 ?_ ?_ ?_ ?_
  · simp
  · simp
  · simp
  · simp -dsimp [w34, wFix_by, call_by (p_floor _ h), flr]
theorem c_trunc (x : Nat) (h : num x = true) : Comes p 35 [fl x] (fl (trn x)) := by
  refine Comes_of w35 rfl rfl k35 ?_ ?_ ?_ ?_
  · simp
  · simp
  · simp
  · simp -dsimp [w35, wFix_by, call_by (p_trunc _ h), trn]
def twosV : V := .map [.int .u8 43, .int .u8 45, .int .u8 42, .int .u8 47, .int .u8 109, .int .u8 77]
  [.fn (.func 36) [] [], .fn (.func 37) [] [], .fn (.func 38) [] [], .fn (.func 39) [] [], .fn (.func 40) [] [], .fn (.func 41) [] []]
theorem c_twos : Comes p 24 [] twosV := by
  refine ⟨rfl, by decide, rfl, 9, .mref 0, [.mlive [.int .u8 43, .int .u8 45, .int .u8 42, .int .u8 47, .int .u8 109, .int .u8 77]
    [.fn (.func 36) [] [], .fn (.func 37) [] [], .fn (.func 38) [] [], .fn (.func 39) [] [], .fn (.func 40) [] [], .fn (.func 41) [] []]], by kernel_rfl, .inr ⟨rfl, twosV, [.dead], by kernel_rfl, by kernel_rfl⟩⟩
end Fz.F
