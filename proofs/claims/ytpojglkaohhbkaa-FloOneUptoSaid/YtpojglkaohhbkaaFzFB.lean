import Derived.Test.YtpojglkaohhbkaaFzFA
import Derived.Test.YtpojglkaohhbkaaFzAJ
import Derived.Test.YtpojglkaohhbkaaFzFP
set_option maxRecDepth 100000
namespace Fz.F
open Go
def prims : FuncId → Option Prim
  | 27 => some .ffrom
  | 43 => some .fbits
  | 45 => some .sqrt
  | 46 => some (.integral .down)
  | 48 => some (.integral .zero)
  | _ => none
def p : AP := { fn := lk tab, prim := fun f => (prims f).map primV, inl := fun _ => false }
@[simp] theorem inl_eq (f : FuncId) : p.inl f = false := (rfl)
abbrev fl (b : Nat) : V := .float .f64 b

/-- A cell as a word; a word as a cell. -/
def wd (a : Int) : Nat := (IntKind.u64.wrap a).toNat
def cl (b : Nat) : Int := IntKind.i64.wrap b
def nan : Int := 9221120237041090560
def num (b : Nat) : Bool := D.order b b == some .eq
/-- A float as a cell. -/
def ce (o : Option Nat) : Int := match o with | some b => if num b then cl b else nan | none => nan
@[simp] theorem gk_floatV (o : Option Nat) (k : Nat) : gk (k + 1) (floatV .f64 o) = true := by cases o <;> simp [floatV]
@[simp] theorem nrm_floatV (o : Option Nat) : nrm (floatV .f64 o) = floatV .f64 o := by cases o <;> simp [floatV]
@[simp] theorem nm_floatV (o : Option Nat) : nm (floatV .f64 o) = true := by cases o <;> simp [floatV]
theorem u64_pos (a : Int) : 0 ≤ IntKind.u64.wrap a ∧ IntKind.u64.wrap a < 18446744073709551616 := by
  show 0 ≤ a % 18446744073709551616 ∧ a % 18446744073709551616 < 18446744073709551616
  omega

theorem p_from (n : Int) : Comes p 27 [.int .u64 n] (fl n.toNat) := Comes_prim (g := primV .ffrom) rfl rfl rfl (by simp) (by simp) (by simp) (by simp)
theorem p_bits (b : Nat) : Comes p 43 [fl b] (.int .u64 b) := Comes_prim (g := primV .fbits) rfl rfl rfl (by simp) (by simp) (by simp) (by simp)
theorem p_sqrt (b : Nat) : Comes p 45 [fl b] (floatV .f64 (D.sqrt b)) := Comes_prim (g := primV .sqrt) rfl rfl rfl (by simp) (by simp) (by simp) (by simp)
theorem p_floor (b : Nat) (h : num b = true) : Comes p 46 [fl b] (fl (D.write ((D.read b).integral .down))) := by
  refine Comes_prim (g := primV (.integral .down)) rfl ?_ rfl (by simp) (by simp) (by simp) (by simp)
  unfold num Ieee.Format.order at h
  simp only [primV]
  cases hd : Ieee.double.read b with
  | nan s t => rw [show D.read b = _ from hd] at h; simp [Ieee.Datum.order] at h
  | _ => simp [hd]
theorem p_trunc (b : Nat) (h : num b = true) : Comes p 48 [fl b] (fl (D.write ((D.read b).integral .zero))) := by
  refine Comes_prim (g := primV (.integral .zero)) rfl ?_ rfl (by simp) (by simp) (by simp) (by simp)
  unfold num Ieee.Format.order at h
  simp only [primV]
  cases hd : Ieee.double.read b with
  | nan s t => rw [show D.read b = _ from hd] at h; simp [Ieee.Datum.order] at h
  | _ => simp [hd]

theorem c_float (a : Int) : Comes p 25 [.int .i64 a] (fl (wd a)) := by
  refine Comes_of w25 rfl rfl k25 ?_ ?_ ?_ ?_
  · simp
  · simp
  · simp
  · simp -dsimp [w25, wFix_by, call_by (p_from _)]
    rfl
theorem c_isnan (b : Nat) : Comes p 42 [fl b] (.bool (!num b)) := by
  refine Comes_of w42 rfl rfl k42 ?_ ?_ ?_ ?_
  · simp
  · simp
  · simp
  · simp -dsimp [w42, wFix_by, num, FloatKind.format]
    rfl
theorem c_isnanN : Comes p 42 [.fnan .f64] (.bool true) := by
  refine Comes_of w42 rfl rfl k42 ?_ ?_ ?_ ?_
  · simp
  · simp
  · simp
  · simp -dsimp [w42, wFix_by]
theorem c_bits (b : Nat) : Comes p 26 [fl b] (.int .i64 (ce (some b))) := by
  refine Comes_of w26 rfl rfl k26 ?_ ?_ ?_ ?_
  · simp
  · simp
  · simp
  · cases h : num b <;> simp -dsimp [w26, wFix_by, call_by (c_isnan _), call_by (p_bits _), h, ce, nan]
    rfl
theorem c_bitsN : Comes p 26 [.fnan .f64] (.int .i64 nan) := by
  refine Comes_of w26 rfl rfl k26 ?_ ?_ ?_ ?_
  · simp
  · simp
  · simp
  · simp -dsimp [w26, wFix_by, call_by c_isnanN, nan]
theorem c_bitsV (o : Option Nat) : Comes p 26 [floatV .f64 o] (.int .i64 (ce o)) := by
  cases o
  · exact c_bitsN
  · exact c_bits _
theorem c_cell (b : Nat) : Comes p 28 [fl b] (.int .i64 (ce (some b))) := by
  refine Comes_of w28 rfl rfl k28 ?_ ?_ ?_ ?_
  · simp
  · simp
  · simp
  · by_cases h : D.order b b = some .eq
    · have h2 : (FloatKind.f64.format.order b b != some .eq) = false := by rw [show FloatKind.f64.format.order b b = _ from h]; rfl
      simp -dsimp [w28, wFix_by, call_by (p_bits _), h2, ce, num, h]
      rfl
    · have h2 : (FloatKind.f64.format.order b b != some .eq) = true := by rw [show FloatKind.f64.format.order b b = D.order b b from rfl]; simpa using h
      have h3 : num b = false := by simpa [num] using h
      simp -dsimp [w28, wFix_by, h2, ce, h3, nan]
theorem c_cellN : Comes p 28 [.fnan .f64] (.int .i64 nan) := by
  refine Comes_of w28 rfl rfl k28 ?_ ?_ ?_ ?_
  · simp
  · simp
  · simp
  · simp -dsimp [w28, wFix_by, nan]
theorem c_cellV (o : Option Nat) : Comes p 28 [floatV .f64 o] (.int .i64 (ce o)) := by
  cases o
  · exact c_cellN
  · exact c_cell _
theorem c_signbit (b : Nat) : Comes p 50 [fl b] (.bool (decide (cl b < 0))) := by
  refine Comes_of w50 rfl rfl k50 ?_ ?_ ?_ ?_
  · simp
  · simp
  · simp
  · simp -dsimp [w50, wFix_by, call_by (p_bits _)]
    rfl
end Fz.F
