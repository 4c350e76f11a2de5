import Derived.Test.YtpojglkaohhbkaaFzFV
set_option maxRecDepth 100000
namespace Fz.F
open Go
theorem val_62 : val (1084 * 4503599627370496 + 4503599627370496) = 4611686018427387904 * 2 ^ E := by
  rw [show 1084 * 4503599627370496 + 4503599627370496 = (10 + E) * 4503599627370496 + 4503599627370496 from by rw [hE], val_q ⟨.inl (Nat.le_refl _), by omega⟩, Nat.pow_add, ← Nat.mul_assoc]
def near (n : Int) : Nat := D.nearest (n < 0) n.natAbs 0
theorem near_eq (n : Int) : FloatKind.f64.nearest n = near n := rfl
theorem near_w (n : Int) : ∃ r, r ≤ 9218868437227405312 ∧ near n = D.word (n < 0) r ∧ (∀ t, n.natAbs * 2 ^ E ≤ val t → r ≤ t) ∧ (∀ t, t ≤ 9218868437227405312 → val t = n.natAbs * 2 ^ E → r = t) := by
  unfold near
  by_cases h0 : n = 0
  · subst h0
    refine ⟨0, by decide, nearest_zero _ _, fun t _ => Nat.zero_le t, fun t _ ht => ?_⟩
    have : val t = val 0 := by rw [ht]; simp [val]
    exact (val_inj this).symm
  · have hm : n.natAbs ≠ 0 := by omega
    obtain ⟨r, h1, h2, h3, h4⟩ := nearest_mono (decide (n < 0)) n.natAbs E hm
    rw [show ((E : Nat) : Int) - 1074 = 0 from by have := hE; omega] at h2
    refine ⟨r, h1, h2, h4, fun t ht hv => ?_⟩
    have a := h3 t ht (Nat.le_of_eq hv)
    have b := h4 t (Nat.le_of_eq hv.symm)
    omega
theorem near_num (n : Int) : num (near n) = true ∧ near n < 2 * 9223372036854775808 := by
  obtain ⟨r, h1, h2, _⟩ := near_w n
  rw [h2]
  refine ⟨?_, word_lt _ _ (by omega)⟩
  rw [num_rg, (rg_word _ r (by omega)).1]
  exact decide_eq_true h1
theorem put_wd (n : Int) : wd (put n) = near n := by
  unfold put
  rw [near_eq, ce_some (near_num n).1, wd_cl (near_num n).2]
theorem inR_near {n : Int} (h : i64 n) (hn : n ≤ 4611686018427387904) : inR (near n) = true := by
  obtain ⟨r, h1, h2, h3, _⟩ := near_w n
  have hr := rg_word (decide (n < 0)) r (by omega)
  have hp : 0 < 2 ^ E := Nat.two_pow_pos E
  unfold inR
  rw [(near_num n).1, h2]
  simp only [Bool.true_and, Bool.and_eq_true, decide_eq_true_eq]
  unfold sv
  rw [hr.1, hr.2]
  by_cases hs : n < 0
  · have : r ≤ c2 := h3 c2 (by rw [val_c2]; exact Nat.mul_le_mul_right _ (by have := h.1; omega))
    have : val r ≤ val c2 := val_le.2 this
    rw [val_c2] at this
    simp only [hs, decide_true, if_true]
    generalize val r = v at *
    generalize 2 ^ E = T at *
    omega
  · have : r ≤ 1084 * 4503599627370496 + 4503599627370496 := h3 _ (by rw [val_62]; exact Nat.mul_le_mul_right _ (by omega))
    have : val r ≤ val (1084 * 4503599627370496 + 4503599627370496) := val_le.2 this
    rw [val_62] at this
    simp only [hs, decide_false, Bool.false_eq_true, if_false]
    generalize val r = v at *
    generalize 2 ^ E = T at *
    omega
theorem tI_near {n : Int} (h1 : -9007199254740992 ≤ n) (h2 : n ≤ 9007199254740992) : tI (near n) = n := by
  obtain ⟨r, g1, g2, g3, g4⟩ := near_w n
  obtain ⟨t, ht, hv⟩ : ∃ t, t < 9218868437227405312 ∧ val t = n.natAbs * 2 ^ E := by
    by_cases h0 : n = 0
    · subst h0; exact ⟨0, by decide, by simp [val]⟩
    · exact val_int n.natAbs (by omega) (by omega)
  have e := g4 t (by omega) hv
  subst e
  have hr := rg_word (decide (n < 0)) r (by omega)
  unfold tI
  rw [g2, toInt_eq (by rw [hr.1]; exact ht), hr.2, whole_word _ ht hv]
  by_cases hs : n < 0
  · simp [hs]; omega
  · simp [hs]; omega
theorem law_cells (n a : Int) (hn : i64 n) (ha : i64 a) : WFun p 7 [.int .i64 n, .int .i64 a] [] yes := by
  refine WFun_of w7 rfl rfl k7 ?_
  by_cases hb : n ≤ 4611686018427387904
  · have t : take (put n) = (tI (near n), true) := by unfold take; rw [put_wd, inR_near hn hb]; rfl
    by_cases h1 : -9007199254740992 ≤ n
    · by_cases h2 : n ≤ 9007199254740992
      · rw [tI_near h1 h2] at t
        simp -dsimp [w7, call_by lawake, call_by (c_take _), call_by (r_take _), call_by (c_put _), call_by (r_put _), t, h1, h2]
      · simp -dsimp [w7, call_by lawake, call_by (c_take _), call_by (r_take _), call_by (c_put _), call_by (r_put _), t, h1, h2]
    · simp -dsimp [w7, call_by lawake, call_by (c_take _), call_by (r_take _), call_by (c_put _), call_by (r_put _), t, h1]
  · have h1 : -9007199254740992 ≤ n := by omega
    have h2 : ¬ n ≤ 9007199254740992 := by omega
    have h3 : 4611686018427387904 < n := by omega
    cases ht : (take (put n)).2 <;> simp -dsimp [w7, call_by lawake, call_by (c_take _), call_by (r_take _), call_by (c_put _), call_by (r_put _), ht, h1, h2, h3]
end Fz.F
