/- Floats of 64 bits as whole numbers: what is written. -/
import Derived.Test.YtpojglkaohhbkaaFzFP
namespace Fz.F
open Ieee
theorem cut_zero (way : Toward) (s : Bool) (n : Nat) : way.cut s n 0 = n := by
  unfold Toward.cut
  have e : (1 <<< min 0 (n.log2 + 2) : Nat) = 1 := by rw [Nat.zero_min]; rfl
  simp only [e, Nat.div_one, Nat.mod_one]
  cases way <;> simp
theorem cut_gap (s : Bool) (n d : Nat) (h : d ≤ n.log2 + 2) (way : Toward) :
    way.cut s n d = n / 2 ^ d + (match way with | .even => 2 ^ d < 2 * (n % 2 ^ d) || (2 ^ d == 2 * (n % 2 ^ d) && n / 2 ^ d % 2 == 1) | .down => s && n % 2 ^ d != 0 | .up => !s && n % 2 ^ d != 0 | .zero => false : Bool).toNat := by
  unfold Toward.cut
  have e : (1 <<< min d (n.log2 + 2) : Nat) = 2 ^ d := by rw [Nat.min_eq_left h, Nat.shiftLeft_eq, Nat.one_mul]
  simp only [e]
  cases way <;> rfl
theorem cut_even (s : Bool) (n d : Nat) (h : d ≤ n.log2 + 2) : Toward.even.cut s n d = n / 2 ^ d ∨ (Toward.even.cut s n d = n / 2 ^ d + 1 ∧ 0 < n % 2 ^ d) := by
  rw [cut_gap s n d h]
  dsimp only
  have hp := Nat.two_pow_pos d
  cases hb : (decide (2 ^ d < 2 * (n % 2 ^ d)) || (2 ^ d == 2 * (n % 2 ^ d) && n / 2 ^ d % 2 == 1)) with
  | false => exact .inl rfl
  | true =>
    refine .inr ⟨rfl, ?_⟩
    simp only [Bool.or_eq_true, decide_eq_true_eq, Bool.and_eq_true, beq_iff_eq] at hb
    omega

/-- What is written of a number: the greatest word not above it, or the next one. -/
theorem nearest_fl (s : Bool) (mag u : Nat) (hm : mag ≠ 0) : ∃ F r, D.nearest s mag ((u : Int) - 1074) = D.word s (min r 9218868437227405312) ∧ val F ≤ mag * 2 ^ u ∧ mag * 2 ^ u < val (F + 1) ∧ (r = F ∨ (r = F + 1 ∧ val F < mag * 2 ^ u)) := by
  have l1 := Nat.log2_self_le hm
  have l2 := Nat.lt_log2_self (n := mag)
  unfold Format.nearest
  rw [if_neg hm, D_least, D_inf, D_binade, show (D.fractionBits : Int) = 52 from rfl]
  dsimp only
  generalize hL : mag.log2 = L at l1 l2
  -- the last digit's place, in units
  obtain ⟨q, hq⟩ : ∃ q : Nat, max ((u : Int) - 1074 + (L : Int) - 52) (-1074) = (q : Int) - 1074 := ⟨(max ((u : Int) - 1074 + L - 52) (-1074) + 1074).toNat, by omega⟩
  have hq' : (q : Int) = max ((u : Int) + L - 52) 0 := by omega
  rw [hq]
  have e0 : ((q : Int) - 1074 - -1074).toNat = q := by omega
  have e1 : ((u : Int) - 1074 - ((q : Int) - 1074)).toNat = u - q := by omega
  have e2 : ((q : Int) - 1074 - ((u : Int) - 1074)).toNat = q - u := by omega
  rw [e0, e1, e2]
  by_cases hc : q ≤ u
  · -- exact
    rw [show q - u = 0 from by omega, cut_zero, Nat.shiftLeft_eq]
    have hk : mag * 2 ^ (u - q) < 2 * 4503599627370496 := by
      have : mag * 2 ^ (u - q) < 2 ^ (L + 1) * 2 ^ (u - q) := (Nat.mul_lt_mul_right (Nat.two_pow_pos _)).2 l2
      rw [← Nat.pow_add] at this
      refine Nat.lt_of_lt_of_le this ?_
      exact Nat.pow_le_pow_right (by decide) (show L + 1 + (u - q) ≤ 53 by omega)
    have hk2 : 4503599627370496 ≤ mag * 2 ^ (u - q) ∨ q = 0 := by
      by_cases h0 : q = 0
      · exact .inr h0
      · left
        have h3 : L + (u - q) = 52 := by omega
        have : 2 ^ L * 2 ^ (u - q) ≤ mag * 2 ^ (u - q) := Nat.mul_le_mul_right _ l1
        rw [← Nat.pow_add, h3] at this
        exact this
    have hv : val (q * 4503599627370496 + mag * 2 ^ (u - q)) = mag * 2 ^ u := by
      rw [val_q ⟨hk2, by omega⟩, Nat.mul_assoc, ← Nat.pow_add, Nat.sub_add_cancel hc]
    exact ⟨_, _, rfl, Nat.le_of_eq hv, by rw [← hv]; exact val_lt_succ _, .inl rfl⟩
  · -- digits go
    rw [show u - q = 0 from by omega, Nat.shiftLeft_zero]
    have h3 : q = u + L - 52 := by omega
    have h4 : 53 ≤ L := by omega
    have hd : q - u = L - 52 := by omega
    have hqu : q = u + (L - 52) := by omega
    rw [hd]
    have hlow : 4503599627370496 ≤ mag / 2 ^ (L - 52) := by
      rw [Nat.le_div_iff_mul_le (Nat.two_pow_pos _), show 4503599627370496 = 2 ^ 52 from rfl, ← Nat.pow_add, show 52 + (L - 52) = L from by omega]
      exact l1
    have hlow2 : mag / 2 ^ (L - 52) < 2 * 4503599627370496 := by
      rw [Nat.div_lt_iff_lt_mul (Nat.two_pow_pos _), show 2 * 4503599627370496 = 2 ^ 53 from rfl, ← Nat.pow_add, show 53 + (L - 52) = L + 1 from by omega]
      exact l2
    have hdm := Nat.div_add_mod mag (2 ^ (L - 52))
    have hml := Nat.mod_lt mag (Nat.two_pow_pos (L - 52))
    have hF : val (q * 4503599627370496 + mag / 2 ^ (L - 52)) = mag / 2 ^ (L - 52) * 2 ^ q := val_q ⟨.inl hlow, by omega⟩
    have hF1 : val (q * 4503599627370496 + mag / 2 ^ (L - 52) + 1) = (mag / 2 ^ (L - 52) + 1) * 2 ^ q := by rw [Nat.add_assoc]; exact val_q ⟨.inl (by omega), by omega⟩
    have hv : mag * 2 ^ u = (mag / 2 ^ (L - 52) * 2 ^ (L - 52) + mag % 2 ^ (L - 52)) * 2 ^ u := by rw [Nat.mul_comm (mag / 2 ^ (L - 52))]; rw [hdm]
    have hp := Nat.two_pow_pos u
    have hpq : 2 ^ q = 2 ^ (L - 52) * 2 ^ u := by rw [hqu, Nat.add_comm, Nat.pow_add]
    have c1 : mag / 2 ^ (L - 52) * 2 ^ q ≤ mag * 2 ^ u := by
      rw [hv, hpq, ← Nat.mul_assoc]
      exact Nat.mul_le_mul_right _ (Nat.le_add_right _ _)
    have c2 : mag * 2 ^ u < (mag / 2 ^ (L - 52) + 1) * 2 ^ q := by
      rw [hv, hpq, ← Nat.mul_assoc]
      refine (Nat.mul_lt_mul_right hp).2 ?_
      rw [Nat.add_mul, Nat.one_mul]; omega
    have c3 : 0 < mag % 2 ^ (L - 52) → mag / 2 ^ (L - 52) * 2 ^ q < mag * 2 ^ u := by
      intro h
      rw [hv, hpq, ← Nat.mul_assoc]
      exact (Nat.mul_lt_mul_right hp).2 (by omega)
    refine ⟨q * 4503599627370496 + mag / 2 ^ (L - 52), _, rfl, by rw [hF]; exact c1, by rw [hF1]; exact c2, ?_⟩
    rcases cut_even s mag (L - 52) (by omega) with h | ⟨h, h'⟩
    · exact .inl (by rw [h])
    · exact .inr ⟨by rw [h, Nat.add_assoc], by rw [hF]; exact c3 h'⟩

theorem rg_word (s : Bool) (r : Nat) (h : r < 9223372036854775808) : rg (D.word s r) = r ∧ sg (D.word s r) = s := by
  unfold Format.word rg sg
  rw [D_sign]
  cases s
  · simp; omega
  · simp; omega
theorem word_self {x : Nat} (h : x < 2 * 9223372036854775808) : D.word (sg x) (rg x) = x := by
  unfold Format.word rg sg
  rw [D_sign]
  split
  · rename_i h1; simp at h1; omega
  · rename_i h1; simp at h1; omega
theorem word_lt (s : Bool) (r : Nat) (h : r < 9223372036854775808) : D.word s r < 2 * 9223372036854775808 := by
  unfold Format.word
  rw [D_sign]
  split <;> omega

/-- A number that a word has is written as that word. -/
theorem nearest_exact (s : Bool) (mag u r : Nat) (hm : mag ≠ 0) (hr : r ≤ 9218868437227405312) (hv : mag * 2 ^ u = val r) : D.nearest s mag ((u : Int) - 1074) = D.word s r := by
  obtain ⟨F, ρ, h1, h2, h3, h4⟩ := nearest_fl s mag u hm
  rw [hv] at h2 h3 h4
  have a := val_le.1 h2
  have b : r < F + 1 := by
    by_cases e : r < F + 1
    · exact e
    · have := val_le.2 (Nat.le_of_not_lt e); omega
  have : F = r := by omega
  subst this
  rcases h4 with rfl | ⟨_, h4⟩
  · rw [h1, Nat.min_eq_left hr]
  · omega
theorem nearest_zero (s : Bool) (p : Int) : D.nearest s 0 p = D.word s 0 := by unfold Format.nearest; rw [if_pos rfl]
/-- What is written is not below a word that the number isn't below, and not above one that it isn't above. -/
theorem nearest_mono (s : Bool) (mag u : Nat) (hm : mag ≠ 0) : ∃ r, r ≤ 9218868437227405312 ∧ D.nearest s mag ((u : Int) - 1074) = D.word s r ∧ (∀ t, t ≤ 9218868437227405312 → val t ≤ mag * 2 ^ u → t ≤ r) ∧ (∀ t, mag * 2 ^ u ≤ val t → r ≤ t) := by
  obtain ⟨F, ρ, h1, h2, h3, h4⟩ := nearest_fl s mag u hm
  refine ⟨min ρ 9218868437227405312, Nat.min_le_right .., h1, fun t ht hv => ?_, fun t hv => ?_⟩
  · have : t < F + 1 := by
      by_cases e : t < F + 1
      · exact e
      · have := val_le.2 (Nat.le_of_not_lt e); omega
    omega
  · rcases h4 with rfl | ⟨rfl, h4⟩
    · have := val_le.1 (Nat.le_trans h2 hv); omega
    · have : F < t := by
        by_cases e : F < t
        · exact e
        · have := val_le.2 (Nat.le_of_not_lt e); omega
      omega
/-- Whole numbers of 2^53 at most have words. -/
theorem val_int (k : Nat) (h0 : k ≠ 0) (h : k ≤ 2 * 4503599627370496) : ∃ r, r < 9218868437227405312 ∧ val r = k * 2 ^ E := by
  have l1 := Nat.log2_self_le h0
  have l2 := Nat.lt_log2_self (n := k)
  by_cases he : k = 2 * 4503599627370496
  · refine ⟨(E + 1) * 4503599627370496 + 4503599627370496, by rw [hE]; decide, ?_⟩
    rw [val_q ⟨.inl (Nat.le_refl _), by omega⟩, he, Nat.pow_succ]
    generalize 2 ^ E = z
    omega
  generalize k.log2 = L at l1 l2
  have hL : L ≤ 52 := by
    by_cases e : L ≤ 52
    · exact e
    · have : 2 ^ 53 ≤ 2 ^ L := Nat.pow_le_pow_right (by decide) (by omega)
      omega
  have hE := hE
  refine ⟨(E - 52 + L) * 4503599627370496 + k * 2 ^ (52 - L), ?_, ?_⟩
  · have : k * 2 ^ (52 - L) < 2 ^ (L + 1) * 2 ^ (52 - L) := (Nat.mul_lt_mul_right (Nat.two_pow_pos _)).2 l2
    rw [← Nat.pow_add, show L + 1 + (52 - L) = 53 from by omega] at this
    rw [hE]
    omega
  · have h1 : 4503599627370496 ≤ k * 2 ^ (52 - L) := by
      have : 2 ^ L * 2 ^ (52 - L) ≤ k * 2 ^ (52 - L) := Nat.mul_le_mul_right _ l1
      rw [← Nat.pow_add, show L + (52 - L) = 52 from by omega] at this
      exact this
    have h2 : k * 2 ^ (52 - L) ≤ 2 * 4503599627370496 := by
      have : k * 2 ^ (52 - L) < 2 ^ (L + 1) * 2 ^ (52 - L) := (Nat.mul_lt_mul_right (Nat.two_pow_pos _)).2 l2
      rw [← Nat.pow_add, show L + 1 + (52 - L) = 53 from by omega] at this
      omega
    rw [val_q ⟨.inl h1, h2⟩, Nat.mul_assoc, ← Nat.pow_add, show 52 - L + (E - 52 + L) = E from by omega]
end Fz.F
