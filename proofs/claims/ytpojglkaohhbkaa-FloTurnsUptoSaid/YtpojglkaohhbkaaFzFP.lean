/- Floats of 64 bits as whole numbers: plain laws. -/
import Ieee.Arith
namespace Fz.F
abbrev D : Ieee.Format := Ieee.double
theorem ex_E : ∃ e : Nat, e = 1074 := ⟨_, rfl⟩
/-- 1074, not to be reckoned with. -/
noncomputable def E : Nat := Classical.choose ex_E
theorem hE : E = 1074 := Classical.choose_spec ex_E
theorem D_binade : D.binade = 4503599627370496 := by decide
theorem D_sign : D.signWeight = 9223372036854775808 := by decide
theorem D_inf : D.infRung = 9218868437227405312 := by decide
theorem D_least : D.leastPlace = -1074 := by decide
/-- A rung's size, in units of 2^-1074. -/
def val (r : Nat) : Nat := if r < 4503599627370496 then r else (4503599627370496 + r % 4503599627370496) * 2 ^ (r / 4503599627370496 - 1)

theorem val_q {q k : Nat} (h : (4503599627370496 ≤ k ∨ q = 0) ∧ k ≤ 2 * 4503599627370496) : val (q * 4503599627370496 + k) = k * 2 ^ q := by
  obtain ⟨h1, h2⟩ := h
  unfold val
  by_cases hk : k < 4503599627370496
  · have : q = 0 := by omega
    subst this
    rw [if_pos (by omega)]; simp
  · rw [if_neg (by omega)]
    by_cases he : k = 2 * 4503599627370496
    · subst he
      have e1 : (q * 4503599627370496 + 2 * 4503599627370496) % 4503599627370496 = 0 := by omega
      have e2 : (q * 4503599627370496 + 2 * 4503599627370496) / 4503599627370496 - 1 = q + 1 := by omega
      rw [e1, e2, Nat.pow_succ]
      rw [Nat.add_zero, Nat.mul_comm (2 ^ q) 2, ← Nat.mul_assoc, Nat.mul_comm 4503599627370496 2]
    · have e1 : (q * 4503599627370496 + k) % 4503599627370496 = k - 4503599627370496 := by omega
      have e2 : (q * 4503599627370496 + k) / 4503599627370496 - 1 = q := by omega
      rw [e1, e2, show 4503599627370496 + (k - 4503599627370496) = k from by omega]

theorem val_split (r : Nat) : ∃ q k, r = q * 4503599627370496 + k ∧ (4503599627370496 ≤ k ∨ q = 0) ∧ k < 2 * 4503599627370496 := by
  by_cases h : r < 4503599627370496
  · exact ⟨0, r, by omega, .inr rfl, by omega⟩
  · refine ⟨r / 4503599627370496 - 1, 4503599627370496 + r % 4503599627370496, ?_, .inl (by omega), by omega⟩
    have := Nat.div_add_mod r 4503599627370496
    have h1 : 1 ≤ r / 4503599627370496 := by omega
    have : (r / 4503599627370496 - 1) * 4503599627370496 = r / 4503599627370496 * 4503599627370496 - 4503599627370496 := by rw [Nat.sub_mul, Nat.one_mul]
    omega

theorem val_lt_succ (r : Nat) : val r < val (r + 1) := by
  obtain ⟨q, k, rfl, h1, h2⟩ := val_split r
  rw [val_q ⟨h1, by omega⟩, show q * 4503599627370496 + k + 1 = q * 4503599627370496 + (k + 1) from by omega, val_q ⟨by omega, by omega⟩]
  exact (Nat.mul_lt_mul_right (Nat.two_pow_pos q)).2 (by omega)
theorem val_mono {a b : Nat} (h : a < b) : val a < val b := by
  induction b with
  | zero => omega
  | succ b ih =>
    by_cases e : a = b
    · subst e; exact val_lt_succ a
    · exact Nat.lt_trans (ih (by omega)) (val_lt_succ b)
theorem val_le {a b : Nat} : val a ≤ val b ↔ a ≤ b := by
  constructor
  · intro h
    by_cases e : b < a
    · have := val_mono e; omega
    · omega
  · intro h
    by_cases e : a = b
    · subst e; exact Nat.le_refl _
    · exact Nat.le_of_lt (val_mono (by omega))
theorem val_inj {a b : Nat} (h : val a = val b) : a = b := by
  have h1 := val_le.1 (Nat.le_of_eq h)
  have h2 := val_le.1 (Nat.le_of_eq h.symm)
  omega

/-! ### Words -/
def sg (x : Nat) : Bool := x / 9223372036854775808 % 2 == 1
def rg (x : Nat) : Nat := x % 9223372036854775808
def sv (x : Nat) : Int := if sg x then -(val (rg x) : Int) else val (rg x)
theorem sgn_shift (s : Bool) (m u : Nat) : Ieee.signed s m u = if s then -((m * 2 ^ u : Nat) : Int) else ((m * 2 ^ u : Nat) : Int) := by
  unfold Ieee.signed
  rw [Nat.shiftLeft_eq]

/-- What a word stands for. -/
inductive Rd (x : Nat) : Ieee.Datum → Prop
  | num (m u : Nat) (h : rg x < 9218868437227405312) (hv : val (rg x) = m * 2 ^ u) (hm : m < 2 * 4503599627370496) (hu : u ≤ 2045) (hn : m < 4503599627370496 → u = 0) (hr : rg x = u * 4503599627370496 + m) : Rd x (.number (sg x) m (u - 1074))
  | inf (h : rg x = 9218868437227405312) : Rd x (.infinity (sg x))
  | nan (h : 9218868437227405312 < rg x) : Rd x (.nan (sg x) (rg x - 9218868437227405312))
theorem rd (x : Nat) : Rd x (D.read x) := by
  unfold Ieee.Format.read
  rw [D_sign, D_binade, D_inf, D_least]
  show Rd x (if rg x < 4503599627370496 then Ieee.Datum.number (sg x) (rg x) (-1074) else if rg x < 9218868437227405312 then .number (sg x) (4503599627370496 + rg x % 4503599627370496) (-1074 + ((rg x / 4503599627370496 - 1 : Nat) : Int)) else if rg x = 9218868437227405312 then .infinity (sg x) else .nan (sg x) (rg x - 9218868437227405312))
  split
  · rename_i h
    have := Rd.num (x := x) (rg x) 0 (by omega) (by unfold val; rw [if_pos h]; simp) (by omega) (by omega) (fun _ => rfl) (by omega)
    simpa using this
  · rename_i h
    split
    · rename_i h2
      have := Rd.num (x := x) (4503599627370496 + rg x % 4503599627370496) (rg x / 4503599627370496 - 1) h2 (by unfold val; rw [if_neg h]) (by omega) (by omega) (fun h => by omega) (by
        have := Nat.div_add_mod (rg x) 4503599627370496
        have h1 : 1 ≤ rg x / 4503599627370496 := by omega
        have : (rg x / 4503599627370496 - 1) * 4503599627370496 = rg x / 4503599627370496 * 4503599627370496 - 4503599627370496 := by rw [Nat.sub_mul, Nat.one_mul]
        omega)
      rw [show (-1074 + ((rg x / 4503599627370496 - 1 : Nat) : Int)) = ((rg x / 4503599627370496 - 1 : Nat) : Int) - 1074 from by omega]
      exact this
    · rename_i h2
      split
      · rename_i h3; exact .inf h3
      · rename_i h3; exact .nan (by omega)

theorem val_pos {r : Nat} (h : 0 < r) : 0 < val r := Nat.lt_of_le_of_lt (Nat.zero_le _) (val_mono h)
theorem compare_scale (a b : Int) (k : Nat) : compare (a * (2 ^ k : Nat)) (b * (2 ^ k : Nat)) = compare a b := by
  have hp : (0 : Int) < (2 ^ k : Nat) := by exact_mod_cast Nat.two_pow_pos k
  rcases Int.lt_trichotomy a b with h | h | h
  · rw [Int.compare_eq_lt.2 h, Int.compare_eq_lt.2 (Int.mul_lt_mul_of_pos_right h hp)]
  · subst h; simp [Int.compare_eq_eq]
  · rw [Int.compare_eq_gt.2 h, Int.compare_eq_gt.2 (Int.mul_lt_mul_of_pos_right h hp)]

theorem sv_num {x m u : Nat} (hv : val (rg x) = m * 2 ^ u) : sv x = Ieee.signed (sg x) m u := by
  rw [sgn_shift]; unfold sv; rw [hv]

theorem signed_scale (s : Bool) (m a k : Nat) : Ieee.signed s m a * (2 ^ k : Nat) = Ieee.signed s m (a + k) := by
  rw [sgn_shift, sgn_shift, Nat.pow_add, ← Nat.mul_assoc]
  cases s
  · simp
  · simp [Int.neg_mul]

/-- Words that are numbers compare as what they stand for. -/
theorem order_sv {x y : Nat} (hx : rg x ≤ 9218868437227405312) (hy : rg y ≤ 9218868437227405312) : D.order x y = some (compare (sv x) (sv y)) := by
  unfold Ieee.Format.order
  have big : ∀ z, rg z < 9218868437227405312 → val (rg z) < val 9218868437227405312 := fun z h => val_mono h
  have hpos : 0 < val 9218868437227405312 := val_pos (by decide)
  have rx := rd x
  have ry := rd y
  generalize D.read x = dx at rx
  generalize D.read y = dy at ry
  cases rx with
  | nan h => omega
  | inf h =>
    have ex : sv x = if sg x then -(val 9218868437227405312 : Int) else val 9218868437227405312 := by unfold sv; rw [h]
    cases ry with
    | nan h => omega
    | inf h' =>
      have ey : sv y = if sg y then -(val 9218868437227405312 : Int) else val 9218868437227405312 := by unfold sv; rw [h']
      simp only [Ieee.Datum.order, ex, ey]
      generalize val 9218868437227405312 = vi at hpos
      cases sg x <;> cases sg y
      · simp
      · exact congrArg some (Int.compare_eq_gt.2 (by simp only [Bool.false_eq_true, if_true, if_false]; omega)).symm
      · exact congrArg some (Int.compare_eq_lt.2 (by simp only [Bool.false_eq_true, if_true, if_false]; omega)).symm
      · simp
    | num m u h' hv =>
      have b := big y h'
      have ey : -(val 9218868437227405312 : Int) < sv y ∧ sv y < val 9218868437227405312 := by unfold sv; split <;> omega
      simp only [Ieee.Datum.order, ex]
      cases sg x <;> simp
      · exact (Int.compare_eq_gt.2 (by omega)).symm
      · exact (Int.compare_eq_lt.2 (by omega)).symm
  | num m u h hv =>
    have b := big x h
    have ex : -(val 9218868437227405312 : Int) < sv x ∧ sv x < val 9218868437227405312 := by unfold sv; split <;> omega
    cases ry with
    | nan h => omega
    | inf h' =>
      have ey : sv y = if sg y then -(val 9218868437227405312 : Int) else val 9218868437227405312 := by unfold sv; rw [h']
      simp only [Ieee.Datum.order, ey]
      cases sg y <;> simp
      · exact (Int.compare_eq_lt.2 (by omega)).symm
      · exact (Int.compare_eq_gt.2 (by omega)).symm
    | num n v h' hw =>
      simp only [Ieee.Datum.order, sv_num hv, sv_num hw]
      refine congrArg some ?_
      have e1 : ((u : Int) - 1074 - min ((u : Int) - 1074) ((v : Int) - 1074)).toNat = u - min u v := by omega
      have e2 : ((v : Int) - 1074 - min ((u : Int) - 1074) ((v : Int) - 1074)).toNat = v - min u v := by omega
      rw [e1, e2, ← compare_scale _ _ (min u v), signed_scale, signed_scale, Nat.sub_add_cancel (Nat.min_le_left ..), Nat.sub_add_cancel (Nat.min_le_right ..)]
theorem order_nan {x y : Nat} (h : 9218868437227405312 < rg x ∨ 9218868437227405312 < rg y) : D.order x y = none := by
  unfold Ieee.Format.order
  have rx := rd x
  have ry := rd y
  generalize D.read x = dx at rx
  generalize D.read y = dy at ry
  cases rx <;> cases ry <;> first | rfl | (exfalso; omega)
end Fz.F
