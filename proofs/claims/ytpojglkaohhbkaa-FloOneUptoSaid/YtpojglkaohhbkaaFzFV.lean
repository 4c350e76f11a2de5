import Derived.Test.YtpojglkaohhbkaaFzFU
set_option maxRecDepth 100000
namespace Fz.F
open Go
theorem cut_z (s : Bool) (m d : Nat) : Ieee.Toward.zero.cut s m d = m / 2 ^ d := by
  by_cases h : d ≤ m.log2 + 2
  · rw [cut_gap s m d h]; rfl
  · unfold Ieee.Toward.cut
    have e : (1 <<< min d (m.log2 + 2) : Nat) = 2 ^ (m.log2 + 2) := by rw [Nat.min_eq_right (by omega), Nat.shiftLeft_eq, Nat.one_mul]
    simp only [e]
    have l2 : m < 2 ^ (m.log2 + 1) := by
      by_cases h0 : m = 0
      · subst h0; decide
      · exact Nat.lt_log2_self
    have h1 : 2 ^ (m.log2 + 1) ≤ 2 ^ (m.log2 + 2) := Nat.pow_le_pow_right (by decide) (by omega)
    have h2 : 2 ^ (m.log2 + 1) ≤ 2 ^ d := Nat.pow_le_pow_right (by decide) (by omega)
    rw [Nat.div_eq_of_lt (by omega), Nat.div_eq_of_lt (by omega)]
    rfl
/-- A number's whole part. -/
noncomputable def whole (x : Nat) : Nat := val (rg x) / 2 ^ E
theorem integral_z {x m u : Nat} (hv : val (rg x) = m * 2 ^ u) : (Ieee.Datum.number (sg x) m ((u : Int) - 1074)).integral .zero = .number (sg x) (whole x) 0 := by
  unfold Ieee.Datum.integral whole
  rw [hv]
  dsimp only
  have hE := hE
  by_cases h : u ≤ E
  · rw [show ((u : Int) - 1074).toNat = 0 from by omega, show (-((u : Int) - 1074)).toNat = E - u from by omega, Nat.shiftLeft_zero, cut_z]
    have e : (2 ^ E : Nat) = 2 ^ (E - u) * 2 ^ u := by rw [← Nat.pow_add, Nat.sub_add_cancel h]
    rw [e, Nat.mul_div_mul_right _ _ (Nat.two_pow_pos u)]
  · rw [show ((u : Int) - 1074).toNat = u - E from by omega, show (-((u : Int) - 1074)).toNat = 0 from by omega, cut_zero, Nat.shiftLeft_eq]
    have e : m * 2 ^ u = m * 2 ^ (u - E) * 2 ^ E := by rw [Nat.mul_assoc, ← Nat.pow_add, Nat.sub_add_cancel (by omega)]
    rw [e, Nat.mul_div_cancel _ (Nat.two_pow_pos E)]
theorem toInt_eq {x : Nat} (h : rg x < 9218868437227405312) : (D.read x).toInt .zero = some (if sg x then -(whole x : Int) else whole x) := by
  have r := rd x
  generalize D.read x = d at r
  cases r with
  | inf h => omega
  | nan h => omega
  | num m u h hv =>
    unfold Ieee.Datum.toInt
    rw [integral_z hv]
    simp only [Ieee.signed, Nat.shiftLeft_zero]
theorem write_whole {x : Nat} (s : Bool) (h : rg x < 9218868437227405312) : ∃ r, r < 9218868437227405312 ∧ D.nearest s (whole x) 0 = D.word s r ∧ val r = whole x * 2 ^ E := by
  by_cases h0 : whole x = 0
  · exact ⟨0, by decide, by rw [h0]; exact nearest_zero s 0, by rw [h0, Nat.zero_mul]; rfl⟩
  · have ex : ∀ r, r < 9218868437227405312 → val r = whole x * 2 ^ E → D.nearest s (whole x) 0 = D.word s r := by
      intro r hr hv
      have := nearest_exact s (whole x) E r h0 (by omega) hv.symm
      rwa [show ((E : Nat) : Int) - 1074 = 0 from by have := hE; omega] at this
    have r := rd x
    generalize D.read x = d at r
    cases r with
    | inf h => omega
    | nan h => omega
    | num m u h hv hm =>
      by_cases hu : u ≤ E
      · have hw : whole x = m / 2 ^ (E - u) := by
          unfold whole
          have e : (2 ^ E : Nat) = 2 ^ (E - u) * 2 ^ u := by rw [← Nat.pow_add, Nat.sub_add_cancel hu]
          rw [hv, e, Nat.mul_div_mul_right _ _ (Nat.two_pow_pos u)]
        have : whole x ≤ m := by rw [hw]; exact Nat.div_le_self _ _
        obtain ⟨r, h1, h2⟩ := val_int (whole x) h0 (by omega)
        exact ⟨r, h1, ex r h1 h2, h2⟩
      · have hw : val (rg x) = whole x * 2 ^ E := by
          unfold whole
          have e : val (rg x) = (m * 2 ^ (u - E)) * 2 ^ E := by rw [hv, Nat.mul_assoc, ← Nat.pow_add, Nat.sub_add_cancel (by omega)]
          rw [e, Nat.mul_div_cancel _ (Nat.two_pow_pos E)]
        exact ⟨rg x, h, ex _ h hw, hw⟩
theorem trn_eq {x : Nat} (h : rg x < 9218868437227405312) : ∃ r, r < 9218868437227405312 ∧ trn x = D.word (sg x) r ∧ val r = whole x * 2 ^ E := by
  obtain ⟨r, h1, h2, h3⟩ := write_whole (sg x) h
  refine ⟨r, h1, ?_, h3⟩
  unfold trn
  have q := rd x
  generalize D.read x = d at q
  cases q with
  | inf h => omega
  | nan h => omega
  | num m u h hv =>
    rw [integral_z hv]
    exact h2
theorem whole_word (s : Bool) {r k : Nat} (h : r < 9218868437227405312) (hv : val r = k * 2 ^ E) : whole (D.word s r) = k := by
  unfold whole
  rw [(rg_word s r (by omega)).1, hv, Nat.mul_div_cancel _ (Nat.two_pow_pos E)]
theorem trn_toInt {x : Nat} (h : rg x < 9218868437227405312) : (D.read (trn x)).toInt .zero = (D.read x).toInt .zero := by
  obtain ⟨r, h1, h2, h3⟩ := trn_eq h
  have hr := rg_word (sg x) r (by omega)
  rw [toInt_eq h, h2, toInt_eq (by rw [hr.1]; exact h1), hr.2, whole_word (sg x) h1 h3]

/-! ### Cells of floats -/
abbrev c1 : Nat := 14114281232179134464
abbrev c2 : Nat := 4890909195324358656
theorem val_c2 : val c2 = 9223372036854775808 * 2 ^ E := by
  rw [show c2 = (11 + E) * 4503599627370496 + 4503599627370496 from by rw [hE], val_q ⟨.inl (Nat.le_refl _), by omega⟩, Nat.pow_add, ← Nat.mul_assoc]
theorem sv_c2 : sv c2 = 9223372036854775808 * (2 ^ E : Nat) := by
  unfold sv
  rw [show sg c2 = false from by decide, show rg c2 = c2 from by decide, if_neg (by decide), val_c2, Int.natCast_mul]
  rfl
theorem sv_c1 : sv c1 = -(9223372036854775808 * (2 ^ E : Nat) : Int) := by
  unfold sv
  rw [show sg c1 = true from by decide, show rg c1 = c2 from by decide, if_pos rfl, val_c2, Int.natCast_mul]
  rfl
theorem num_c1 : num c1 = true := by rw [num_rg]; decide
theorem num_c2 : num c2 = true := by rw [num_rg]; decide
noncomputable def inR (x : Nat) : Bool := num x && decide (-(9223372036854775808 * (2 ^ E : Nat) : Int) ≤ sv x) && decide (sv x < 9223372036854775808 * (2 ^ E : Nat))
def tI (x : Nat) : Int := ((D.read x).toInt .zero).getD 0
theorem inR_ok {x : Nat} (h : inR x = true) : num x = true ∧ rg x < 9218868437227405312 ∧ (D.read x).toInt .zero = some (tI x) ∧ -9223372036854775808 ≤ tI x ∧ tI x ≤ 9223372036854775807 := by
  unfold inR at h
  simp only [Bool.and_eq_true, decide_eq_true_eq] at h
  obtain ⟨⟨h0, h1⟩, h2⟩ := h
  have hp : 0 < 2 ^ E := Nat.two_pow_pos E
  have hle : rg x ≤ 9218868437227405312 := by rw [num_rg] at h0; exact of_decide_eq_true h0
  have hlt : rg x < 9218868437227405312 := by
    by_cases e : rg x = 9218868437227405312
    · exfalso
      have : val c2 < val 9218868437227405312 := val_mono (by decide)
      rw [val_c2] at this
      unfold sv at h1 h2
      rw [e] at h1 h2
      generalize val 9218868437227405312 = v at *
      generalize 2 ^ E = T at *
      cases hs : sg x
      · rw [hs] at h2; simp only [Bool.false_eq_true, if_false] at h2; omega
      · rw [hs] at h1; simp only [if_true] at h1; omega
    · omega
  have ht := toInt_eq hlt
  have e : tI x = if sg x then -(whole x : Int) else whole x := by unfold tI; rw [ht]; rfl
  refine ⟨h0, hlt, by rw [ht, e], ?_⟩
  rw [e]
  unfold whole
  unfold sv at h1 h2
  have hd := Nat.div_add_mod (val (rg x)) (2 ^ E)
  have hm := Nat.mod_lt (val (rg x)) hp
  have w1 : sg x = false → val (rg x) / 2 ^ E < 9223372036854775808 := by
    intro hs
    rw [hs] at h2; simp only [Bool.false_eq_true, if_false] at h2
    rw [Nat.div_lt_iff_lt_mul hp]
    generalize val (rg x) = v at *
    generalize 2 ^ E = T at *
    omega
  have w2 : sg x = true → val (rg x) / 2 ^ E ≤ 9223372036854775808 := by
    intro hs
    rw [hs] at h1; simp only [if_true] at h1
    rw [← Nat.lt_succ_iff, Nat.div_lt_iff_lt_mul hp]
    generalize val (rg x) = v at *
    generalize 2 ^ E = T at *
    omega
  clear hd hm h1 h2
  generalize val (rg x) / 2 ^ E = g at *
  cases hs : sg x
  · have := w1 hs; simp only [Bool.false_eq_true, if_false]; omega
  · have := w2 hs; simp only [if_true]; omega
theorem geq_c1 (x : Nat) : (D.order x c1 == some .gt || D.order x c1 == some .eq) = (num x && decide (sv c1 ≤ sv x)) := by
  cases hx : num x
  · rw [num_rg] at hx
    rw [order_nan (.inl (by simpa using hx))]; rfl
  · rw [ord_num hx num_c1]
    rcases Int.lt_trichotomy (sv x) (sv c1) with h | h | h
    · rw [Int.compare_eq_lt.2 h]; simp; omega
    · rw [Int.compare_eq_eq.2 h]; simp; omega
    · rw [Int.compare_eq_gt.2 h]; simp; omega
theorem lss_c2 (x : Nat) : (D.order x c2 == some .lt) = (num x && decide (sv x < sv c2)) := by
  cases hx : num x
  · rw [num_rg] at hx
    rw [order_nan (.inl (by simpa using hx))]; rfl
  · rw [ord_num hx num_c2]
    rcases Int.lt_trichotomy (sv x) (sv c2) with h | h | h
    · rw [Int.compare_eq_lt.2 h]; simp [h]
    · rw [Int.compare_eq_eq.2 h]; simp; omega
    · rw [Int.compare_eq_gt.2 h]; simp; omega
theorem lss_c1 (x : Nat) : (D.order x c1 == some .lt) = (num x && decide (sv x < sv c1)) := by
  cases hx : num x
  · rw [num_rg] at hx
    rw [order_nan (.inl (by simpa using hx))]; rfl
  · rw [ord_num hx num_c1]
    rcases Int.lt_trichotomy (sv x) (sv c1) with h | h | h
    · rw [Int.compare_eq_lt.2 h]; simp [h]
    · rw [Int.compare_eq_eq.2 h]; simp; omega
    · rw [Int.compare_eq_gt.2 h]; simp; omega
theorem geq_c2 (x : Nat) : (D.order x c2 == some .gt || D.order x c2 == some .eq) = (num x && decide (sv c2 ≤ sv x)) := by
  cases hx : num x
  · rw [num_rg] at hx
    rw [order_nan (.inl (by simpa using hx))]; rfl
  · rw [ord_num hx num_c2]
    rcases Int.lt_trichotomy (sv x) (sv c2) with h | h | h
    · rw [Int.compare_eq_lt.2 h]; simp; omega
    · rw [Int.compare_eq_eq.2 h]; simp; omega
    · rw [Int.compare_eq_gt.2 h]; simp; omega
noncomputable def take (a : Int) : Int × Bool := if inR (wd a) then (tI (wd a), true) else (0, false)
theorem c_take (a : Int) : Comes p 20 [.int .i64 a] (.tuple [.int .i64 (take a).1, .bool (take a).2]) := by
  refine Comes_of w20 rfl rfl k20 ?_ ?_ ?_ ?_
  · simp
  · simp
  · simp
  · have e1 : (FloatKind.f64.format.order (wd a) 14114281232179134464 == some .gt || FloatKind.f64.format.order (wd a) 14114281232179134464 == some .eq) = (num (wd a) && decide (sv c1 ≤ sv (wd a))) := geq_c1 _
    have e2 : (FloatKind.f64.format.order (wd a) 4890909195324358656 == some .lt) = (num (wd a) && decide (sv (wd a) < sv c2)) := lss_c2 _
    unfold take
    cases h : inR (wd a)
    · unfold inR at h
      rw [← sv_c1, ← sv_c2] at h
      cases h0 : num (wd a)
      · rw [h0] at e1 e2
        simp only [Bool.false_and] at e1 e2
        simp -dsimp [w20, wFix_by, call_by (c_float _), e1, e2]
      · rw [h0] at e1 e2 h
        simp only [Bool.true_and] at e1 e2 h
        cases h1 : decide (sv c1 ≤ sv (wd a))
        · rw [h1] at e1
          simp -dsimp [w20, wFix_by, call_by (c_float _), e1, e2]
        · rw [h1] at e1 h
          simp only [Bool.true_and] at h
          rw [h] at e2
          simp -dsimp [w20, wFix_by, call_by (c_float _), e1, e2]
    · obtain ⟨g1, g2, g3, g4, g5⟩ := inR_ok h
      unfold inR at h
      rw [← sv_c1, ← sv_c2] at h
      simp only [Bool.and_eq_true] at h
      rw [h.1.1, h.1.2] at e1
      rw [h.1.1, h.2] at e2
      simp only [Bool.and_self] at e1 e2
      have g3' : (FloatKind.f64.decode (wd a)).toInt .zero = some (tI (wd a)) := g3
      simp -dsimp [w20, wFix_by, call_by (c_float _), e1, e2, g3']
      exact ⟨g4, g5⟩
theorem r_take (a : Int) : Comes p 21 [.int .i64 a] (.tuple [.int .i64 (take a).1, .bool (take a).2]) := by
  refine Comes_of w21 rfl rfl k21 ?_ ?_ ?_ ?_
  · simp
  · simp
  · simp
  · have ew : ∀ a, (IntKind.u64.wrap a).toNat = wd a := fun _ => rfl
    have e1 : (FloatKind.f64.format.order (wd a) 14114281232179134464 == some .lt) = (num (wd a) && decide (sv (wd a) < sv c1)) := lss_c1 _
    have e2 : (FloatKind.f64.format.order (wd a) 4890909195324358656 == some .gt || FloatKind.f64.format.order (wd a) 4890909195324358656 == some .eq) = (num (wd a) && decide (sv c2 ≤ sv (wd a))) := geq_c2 _
    unfold take
    cases h : inR (wd a)
    · unfold inR at h
      rw [← sv_c1, ← sv_c2] at h
      cases h0 : num (wd a)
      · simp -dsimp [w21, wFix_by, call_by (p_from _), ew, num_eq, h0]
      · rw [h0] at e1 e2 h
        simp only [Bool.true_and] at e1 e2 h
        by_cases h1 : sv c1 ≤ sv (wd a)
        · rw [decide_eq_false (show ¬ sv (wd a) < sv c1 by omega)] at e1
          simp only [decide_eq_true h1, Bool.true_and, decide_eq_false_iff_not] at h
          rw [decide_eq_true (show sv c2 ≤ sv (wd a) by omega)] at e2
          simp -dsimp [w21, wFix_by, call_by (p_from _), ew, num_eq, h0, e1, e2]
        · rw [decide_eq_true (show sv (wd a) < sv c1 by omega)] at e1
          simp -dsimp [w21, wFix_by, call_by (p_from _), ew, num_eq, h0, e1]
    · obtain ⟨g1, g2, g3, g4, g5⟩ := inR_ok h
      unfold inR at h
      rw [← sv_c1, ← sv_c2] at h
      simp only [Bool.and_eq_true, decide_eq_true_eq] at h
      rw [h.1.1, decide_eq_false (show ¬ sv (wd a) < sv c1 by omega)] at e1
      rw [h.1.1, decide_eq_false (show ¬ sv c2 ≤ sv (wd a) by omega)] at e2
      simp only [Bool.and_false] at e1 e2
      have g3' : (FloatKind.f64.decode (trn (wd a))).toInt .zero = some (tI (wd a)) := (trn_toInt g2).trans g3
      simp -dsimp [w21, wFix_by, call_by (p_from _), call_by (c_trunc _ g1), ew, num_eq, g1, e1, e2, g3']
      exact ⟨g4, g5⟩
end Fz.F
