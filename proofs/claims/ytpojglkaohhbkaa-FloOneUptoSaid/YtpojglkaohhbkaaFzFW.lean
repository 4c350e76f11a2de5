import Derived.Test.YtpojglkaohhbkaaFzFX
set_option maxRecDepth 100000
namespace Fz.F
open Go
theorem cut_d (s : Bool) (m d : Nat) : Ieee.Toward.down.cut s m d = m / 2 ^ d + (s && m % 2 ^ d != 0).toNat := by
  by_cases h : d ≤ m.log2 + 2
  · rw [cut_gap s m d h]
  · unfold Ieee.Toward.cut
    have e : (1 <<< min d (m.log2 + 2) : Nat) = 2 ^ (m.log2 + 2) := by rw [Nat.min_eq_right (by omega), Nat.shiftLeft_eq, Nat.one_mul]
    simp only [e]
    have l2 : m < 2 ^ (m.log2 + 1) := by
      by_cases h0 : m = 0
      · subst h0; decide
      · exact Nat.lt_log2_self
    have h1 : 2 ^ (m.log2 + 1) ≤ 2 ^ (m.log2 + 2) := Nat.pow_le_pow_right (by decide) (by omega)
    have h2 : 2 ^ (m.log2 + 1) ≤ 2 ^ d := Nat.pow_le_pow_right (by decide) (by omega)
    rw [Nat.div_eq_of_lt (by omega), Nat.div_eq_of_lt (by omega), Nat.mod_eq_of_lt (by omega), Nat.mod_eq_of_lt (by omega)]
/-- The size of what a number is rounded down to. -/
noncomputable def kd (x : Nat) : Nat := val (rg x) / 2 ^ E + (sg x && val (rg x) % 2 ^ E != 0).toNat
theorem integral_d {x m u : Nat} (hv : val (rg x) = m * 2 ^ u) : (Ieee.Datum.number (sg x) m ((u : Int) - 1074)).integral .down = .number (sg x) (kd x) 0 := by
  unfold Ieee.Datum.integral kd
  rw [hv]
  dsimp only
  have hE := hE
  by_cases h : u ≤ E
  · rw [show ((u : Int) - 1074).toNat = 0 from by omega, show (-((u : Int) - 1074)).toNat = E - u from by omega, Nat.shiftLeft_zero, cut_d]
    have hp := Nat.two_pow_pos u
    have e : (2 ^ E : Nat) = 2 ^ (E - u) * 2 ^ u := by rw [← Nat.pow_add, Nat.sub_add_cancel (by omega)]
    rw [e, Nat.mul_div_mul_right _ _ hp, Nat.mul_mod_mul_right]
    have e2 : (m % 2 ^ (E - u) * 2 ^ u != 0) = (m % 2 ^ (E - u) != 0) := by
      by_cases hz : m % 2 ^ (E - u) = 0
      · rw [hz, Nat.zero_mul]
      · have : m % 2 ^ (E - u) * 2 ^ u ≠ 0 := Nat.mul_ne_zero hz (by omega)
        rw [bne_iff_ne.2 this, bne_iff_ne.2 hz]
    rw [e2]
  · rw [show ((u : Int) - 1074).toNat = u - E from by omega, show (-((u : Int) - 1074)).toNat = 0 from by omega, cut_zero, Nat.shiftLeft_eq]
    have e : m * 2 ^ u = m * 2 ^ (u - E) * 2 ^ E := by rw [Nat.mul_assoc, ← Nat.pow_add, Nat.sub_add_cancel (by omega)]
    rw [e, Nat.mul_div_cancel _ (Nat.two_pow_pos E), Nat.mul_mod_left]
    simp
theorem flr_near {x : Nat} (h : rg x < 9218868437227405312) : flr x = D.nearest (sg x) (kd x) 0 := by
  unfold flr
  have q := rd x
  generalize D.read x = d at q
  cases q with
  | inf h => omega
  | nan h => omega
  | num m u h hv => rw [integral_d hv]; rfl
theorem flr_eq {x : Nat} (h : rg x < 9218868437227405312) : ∃ r, r < 9218868437227405312 ∧ flr x = D.word (sg x) r ∧ val r = kd x * 2 ^ E := by
  rw [flr_near h]
  have hp : 0 < 2 ^ E := Nat.two_pow_pos E
  by_cases h0 : kd x = 0
  · exact ⟨0, by decide, by rw [h0]; exact nearest_zero _ 0, by rw [h0, Nat.zero_mul]; rfl⟩
  · have ex : ∀ r, r < 9218868437227405312 → val r = kd x * 2 ^ E → D.nearest (sg x) (kd x) 0 = D.word (sg x) r := by
      intro r hr hv
      have := nearest_exact (sg x) (kd x) E r h0 (by omega) hv.symm
      rwa [show ((E : Nat) : Int) - 1074 = 0 from by have := hE; omega] at this
    by_cases hz : val (rg x) % 2 ^ E = 0
    · have hw : val (rg x) = kd x * 2 ^ E := by
        unfold kd
        rw [hz]
        simp only [bne_self_eq_false, Bool.and_false, Bool.toNat_false, Nat.add_zero]
        have := Nat.div_add_mod (val (rg x)) (2 ^ E)
        rw [hz, Nat.add_zero, Nat.mul_comm] at this
        exact this.symm
      exact ⟨rg x, h, ex _ h hw, hw⟩
    · have q := rd x
      generalize D.read x = d at q
      cases q with
      | inf h => omega
      | nan h => omega
      | num m u h hv hm =>
        have hu : u < E := by
          by_cases e : u < E
          · exact e
          · exfalso
            apply hz
            rw [hv, show 2 ^ u = 2 ^ (u - E) * 2 ^ E from by rw [← Nat.pow_add, Nat.sub_add_cancel (by omega)], ← Nat.mul_assoc, Nat.mul_mod_left]
        have hk : kd x ≤ 2 * 4503599627370496 := by
          have e : (2 ^ E : Nat) = 2 ^ (E - u) * 2 ^ u := by rw [← Nat.pow_add, Nat.sub_add_cancel (by omega)]
          have h1 : val (rg x) / 2 ^ E = m / 2 ^ (E - u) := by rw [hv, e, Nat.mul_div_mul_right _ _ (Nat.two_pow_pos u)]
          have h2 : m / 2 ^ (E - u) ≤ m / 2 := Nat.div_le_div_left (by
            have : 2 ^ 1 ≤ 2 ^ (E - u) := Nat.pow_le_pow_right (by decide) (by omega)
            exact this) (by decide)
          unfold kd
          rw [h1]
          have h3 : ∀ b : Bool, b.toNat ≤ 1 := fun b => by cases b <;> decide
          have := h3 (sg x && val (rg x) % 2 ^ E != 0)
          omega
        obtain ⟨r, h1, h2⟩ := val_int (kd x) h0 hk
        exact ⟨r, h1, ex r h1 h2, h2⟩
theorem kd_le (x : Nat) : (sg x = false → kd x * 2 ^ E ≤ val (rg x) ∧ val (rg x) < (kd x + 1) * 2 ^ E) ∧ (sg x = true → val (rg x) ≤ kd x * 2 ^ E ∧ (kd x = 0 ∨ (kd x - 1) * 2 ^ E < val (rg x))) := by
  have hp : 0 < 2 ^ E := Nat.two_pow_pos E
  have hd := Nat.div_add_mod (val (rg x)) (2 ^ E)
  have hm := Nat.mod_lt (val (rg x)) hp
  unfold kd
  generalize val (rg x) = v at *
  generalize hT : 2 ^ E = T at *
  rw [Nat.mul_comm] at hd
  constructor
  · intro hs
    rw [hs]
    simp only [Bool.false_and, Bool.toNat_false, Nat.add_zero, Nat.add_mul, Nat.one_mul]
    omega
  · intro hs
    rw [hs]
    by_cases hz : v % T = 0
    · rw [hz]
      simp only [bne_self_eq_false, Bool.and_false, Bool.toNat_false, Nat.add_zero]
      refine ⟨by omega, ?_⟩
      by_cases h0 : v / T = 0
      · exact .inl h0
      · right
        rw [Nat.sub_mul, Nat.one_mul]
        have : T ≤ v / T * T := Nat.le_mul_of_pos_left T (Nat.pos_of_ne_zero h0)
        omega
    · rw [bne_iff_ne.2 hz]
      simp only [Bool.and_self, Bool.toNat_true, Nat.add_mul, Nat.one_mul, Nat.add_sub_cancel]
      omega
theorem flr_flr {x : Nat} (h : rg x < 9218868437227405312) : flr (flr x) = flr x := by
  obtain ⟨r, h1, h2, h3⟩ := flr_eq h
  have hr := rg_word (sg x) r (by omega)
  have hk : kd (flr x) = kd x := by
    conv => lhs; unfold kd
    rw [h2, hr.1, hr.2, h3, Nat.mul_div_cancel _ (Nat.two_pow_pos E), Nat.mul_mod_left]
    simp
  rw [flr_near (by rw [h2, hr.1]; exact h1), hk, show sg (flr x) = sg x from by rw [h2, hr.2], ← flr_near h]

abbrev w1 : Nat := 4607182418800017408
theorem rd_one (W : Nat) (h : W = 1022) : D.read w1 = .number false 4503599627370496 ((W : Int) - 1074) := by subst h; decide
theorem mul_cancel_pow {a b : Int} {k : Nat} (h : a * (2 ^ k : Nat) = b * (2 ^ k : Nat)) : a = b := by
  have hp : ((2 ^ k : Nat) : Int) ≠ 0 := by
    have := Nat.two_pow_pos k
    omega
  exact Int.eq_of_mul_eq_mul_right hp h
/-- A number, and one more. -/
theorem add_one {y : Nat} (h : rg y < 9218868437227405312) : ∃ z, D.add y w1 = some z ∧ z < 2 * 9223372036854775808 ∧ rg z ≤ 9218868437227405312 ∧ (0 < sv y + (2 ^ E : Nat) → sg z = false ∧ ∀ t, t ≤ 9218868437227405312 → (val t : Int) ≤ sv y + (2 ^ E : Nat) → t ≤ rg z) ∧
    (sv y + (2 ^ E : Nat) < 0 → sg z = true ∧ ∀ t, -(sv y + (2 ^ E : Nat)) ≤ (val t : Int) → rg z ≤ t) ∧ (sv y + (2 ^ E : Nat) = 0 → sv z = 0) := by
  unfold Ieee.Format.add
  obtain ⟨W, hW⟩ : ∃ W : Nat, W = 1022 := ⟨_, rfl⟩
  rw [rd_one W hW]
  have q := rd y
  generalize D.read y = d at q
  cases q with
  | inf h => omega
  | nan h => omega
  | num m u h hv =>
    simp only [Ieee.Datum.sum, Option.map_some]
    have hb : min ((u : Int) - 1074) ((W : Int) - 1074) = ((min u W : Nat) : Int) - 1074 := by omega
    rw [hb]
    have e1 : ((u : Int) - 1074 - (((min u W : Nat) : Int) - 1074)).toNat = u - min u W := by omega
    have e2 : ((W : Int) - 1074 - (((min u W : Nat) : Int) - 1074)).toNat = W - min u W := by omega
    rw [e1, e2]
    generalize hw : min u W = w
    have hwu : w ≤ u := by omega
    have hw2 : w ≤ W := by omega
    generalize htot : Ieee.signed (sg y) m (u - w) + Ieee.signed false 4503599627370496 (W - w) = tot
    have ht : tot * (2 ^ w : Nat) = sv y + (2 ^ E : Nat) := by
      rw [← htot, Int.add_mul, signed_scale, signed_scale, Nat.sub_add_cancel hwu, Nat.sub_add_cancel hw2, sv_num hv]
      congr 1
      rw [sgn_shift]
      simp only [Bool.false_eq_true, if_false]
      have key : ∀ a b : Nat, E = a + b → ((2 ^ a * 2 ^ b : Nat) : Int) = (2 ^ E : Nat) := fun a b h => by rw [h, Nat.pow_add]
      exact key 52 W (by have := hE; omega)
    have hpw : (0 : Int) < (2 ^ w : Nat) := by have := Nat.two_pow_pos w; omega
    have habs : ((tot.natAbs * 2 ^ w : Nat) : Int) = (tot * (2 ^ w : Nat)).natAbs := by rw [Int.natAbs_mul, Int.natAbs_natCast]
    by_cases h0 : tot = 0
    · have hz : sv y + (2 ^ E : Nat) = 0 := by rw [← ht, h0, Int.zero_mul]
      refine ⟨D.word false 0, ?_, word_lt _ _ (by decide), ?_, fun h => by omega, fun h => by omega, fun _ => by decide⟩
      · rw [if_pos h0, h0]
        simp only [Bool.and_false]
        first | exact congrArg some (nearest_zero false _) | rfl
      · rw [(rg_word false 0 (by decide)).1]; decide
    · obtain ⟨r, g1, g2, g3, g4⟩ := nearest_mono (decide (tot < 0)) tot.natAbs w (by omega)
      have hr := rg_word (decide (tot < 0)) r (by omega)
      refine ⟨D.word (decide (tot < 0)) r, ?_, word_lt _ _ (by omega), by rw [hr.1]; exact g1, fun hp => ?_, fun hn => ?_, fun hz => ?_⟩
      · rw [if_neg h0]
        exact congrArg some g2
      · have hpos : 0 < tot := by
          rw [← ht] at hp
          by_cases e : 0 < tot
          · exact e
          · exfalso
            have : 0 ≤ -tot * (2 ^ w : Nat) := Int.mul_nonneg (by omega) (Int.le_of_lt hpw)
            rw [Int.neg_mul] at this
            omega
        rw [hr.1, hr.2]
        refine ⟨by simp; omega, fun t hti hvt => g3 t hti ?_⟩
        have : (val t : Int) ≤ ((tot.natAbs * 2 ^ w : Nat) : Int) := by rw [habs, ht]; omega
        exact_mod_cast this
      · have hneg : tot < 0 := by
          by_cases e : tot < 0
          · exact e
          · exfalso
            have : 0 ≤ tot * (2 ^ w : Nat) := Int.mul_nonneg (by omega) (Int.le_of_lt hpw)
            omega
        rw [hr.1, hr.2]
        refine ⟨by simp [hneg], fun t hvt => g4 t ?_⟩
        have : ((tot.natAbs * 2 ^ w : Nat) : Int) ≤ (val t : Int) := by rw [habs, ht]; omega
        exact_mod_cast this
      · exfalso
        rw [← ht] at hz
        rcases Int.mul_eq_zero.1 hz with h | h <;> omega

theorem rneg_eq {a : Int} (h : i64 a) : rneg a = cl (ng (wd a)) := by
  have la := wd_lt h
  unfold rneg
  have e0 : ((wd a : Nat) : Int) = IntKind.u64.wrap a := Int.toNat_of_nonneg (u64_pos a).1
  have e : (BitVec.ofInt 64 (IntKind.u64.wrap a) ^^^ BitVec.ofInt 64 9223372036854775808).toNat = ng (wd a) := by
    rw [← e0, BitVec.toNat_xor, ofInt_nat la, show (BitVec.ofInt 64 9223372036854775808).toNat = 9223372036854775808 from by decide]
    rfl
  rw [e]
  have := ng_lt la
  have e2 : IntKind.u64.wrap (ng (wd a) : Int) = ng (wd a) := by
    show (ng (wd a) : Int) % 18446744073709551616 = _
    omega
  rw [e2]
  rfl
theorem rabs_eq {a : Int} (h : i64 a) : rabs a = cl (ab (wd a)) := by
  have la := wd_lt h
  unfold rabs
  have e0 : ((wd a : Nat) : Int) = IntKind.u64.wrap a := Int.toNat_of_nonneg (u64_pos a).1
  have e : (BitVec.ofInt 64 (IntKind.u64.wrap a) &&& BitVec.ofInt 64 9223372036854775807).toNat = ab (wd a) := by
    rw [← e0, BitVec.toNat_and, ofInt_nat la, show (BitVec.ofInt 64 9223372036854775807).toNat = 2 ^ 63 - 1 from by decide, Nat.and_two_pow_sub_one_eq_mod, ab_eq la]
  rw [e]
  have := ab_lt la
  have e2 : IntKind.u64.wrap (ab (wd a) : Int) = ab (wd a) := by
    show (ab (wd a) : Int) % 18446744073709551616 = _
    omega
  rw [e2]
  rfl
theorem one_eq {op a : Int} (h : i64 a) : one op a = rone op a := by
  have la := wd_lt h
  unfold one rone
  split
  · rfl
  · split
    · rfl
    · rename_i hn
      have hx : num (wd a) = true := by simpa using hn
      unfold oneF
      congr 1
      repeat' split
      · rw [rneg_eq h]; exact ce_some (by rw [ng_num la]; exact hx)
      · rw [rabs_eq h]; exact ce_some (by rw [ab_num la]; exact hx)
      · rfl
      · rfl
theorem one102 (a : Int) (hx : num (wd a) = true) : (one 102 a).1 = ce (some (flr (wd a))) := by
  have e : oneF 102 (wd a) = some (flr (wd a)) := by simp only [oneF, show ¬ (102 : Int) = 110 from by decide, show ¬ (102 : Int) = 97 from by decide, show ¬ (102 : Int) = 115 from by decide, if_false]
  unfold one
  rw [if_neg (by decide), if_neg (by simp [hx]), e]
theorem two43 (a b : Int) (hx : num (wd a) = true) (hy : num (wd b) = true) : (two 43 a b).1 = ce (D.add (wd a) (wd b)) := by
  have e : twoF 43 (wd a) (wd b) = D.add (wd a) (wd b) := by simp only [twoF, if_true]
  unfold two
  rw [if_neg (by decide), if_neg (by simp [hx, hy]), e]
theorem floor_ok {a : Int} (la : wd a < 2 * 9223372036854775808) (hx : num (wd a) = true) (hle : rg (wd a) ≤ 9218868437227405312) : ∃ f, (one 102 a).1 = cl f ∧ f < 2 * 9223372036854775808 ∧ num f = true ∧ flr f = f ∧ sv f ≤ sv (wd a) ∧ ∃ z, D.add f w1 = some z ∧ z < 2 * 9223372036854775808 ∧ num z = true ∧ sv (wd a) ≤ sv z := by
  rw [one102 a hx]
  by_cases hi : rg (wd a) = 9218868437227405312
  · have hr : D.read (wd a) = .infinity (sg (wd a)) := by
      have q := rd (wd a)
      generalize D.read (wd a) = d at q
      cases q with
      | inf h => rfl
      | nan h => omega
      | num m u h => omega
    have hf : flr (wd a) = wd a := by
      unfold flr
      rw [hr]
      show D.write (.infinity (sg (wd a))) = wd a
      show D.word (sg (wd a)) D.infRung = wd a
      rw [D_inf, ← hi, word_self la]
    refine ⟨wd a, by rw [hf, ce_some hx], la, hx, hf, Int.le_refl _, wd a, ?_, la, hx, Int.le_refl _⟩
    unfold Ieee.Format.add
    rw [hr, rd_one 1022 rfl]
    show some (D.word (sg (wd a)) D.infRung) = some (wd a)
    rw [D_inf, ← hi, word_self la]
  · have hlt : rg (wd a) < 9218868437227405312 := by omega
    obtain ⟨r, h1, h2, h3⟩ := flr_eq hlt
    have hr := rg_word (sg (wd a)) r (by omega)
    have lf : flr (wd a) < 2 * 9223372036854775808 := by rw [h2]; exact word_lt _ _ (by omega)
    have rf : rg (flr (wd a)) < 9218868437227405312 := by rw [h2, hr.1]; exact h1
    have nf : num (flr (wd a)) = true := by rw [num_rg]; exact decide_eq_true (by omega)
    have svf : sv (flr (wd a)) = if sg (wd a) then -((kd (wd a) * 2 ^ E : Nat) : Int) else ((kd (wd a) * 2 ^ E : Nat) : Int) := by
      unfold sv; rw [h2, hr.1, hr.2, h3]
    have svx : sv (wd a) = if sg (wd a) then -(val (rg (wd a)) : Int) else (val (rg (wd a)) : Int) := rfl
    obtain ⟨k1, k2⟩ := kd_le (wd a)
    obtain ⟨z, z1, z2, z3, z4, z5, z6⟩ := add_one rf
    have hp : 0 < 2 ^ E := Nat.two_pow_pos E
    clear h3
    generalize 2 ^ E = T at *
    refine ⟨flr (wd a), ce_some nf, lf, nf, flr_flr hlt, ?_, z, z1, z2, by rw [num_rg]; exact decide_eq_true z3, ?_⟩
    · rw [svf, svx]
      cases hs : sg (wd a)
      · have := (k1 hs).1; simp only [Bool.false_eq_true, if_false]; omega
      · have := (k2 hs).1; simp only [if_true]; omega
    · have svz : sv z = if sg z then -(val (rg z) : Int) else (val (rg z) : Int) := rfl
      cases hs : sg (wd a)
      · rw [hs] at svf svx
        simp only [Bool.false_eq_true, if_false] at svf svx
        obtain ⟨c1, c2⟩ := k1 hs
        rw [Nat.add_mul, Nat.one_mul] at c2
        obtain ⟨d1, d2⟩ := z4 (by rw [svf]; omega)
        have := val_le.2 (d2 (rg (wd a)) hle (by rw [svf]; omega))
        rw [svx, svz, d1]
        simp only [Bool.false_eq_true, if_false]; omega
      · rw [hs] at svf svx
        simp only [if_true] at svf svx
        obtain ⟨c1, c2⟩ := k2 hs
        have sx : sv (wd a) ≤ 0 := by rw [svx]; omega
        rcases Int.lt_trichotomy (sv (flr (wd a)) + (T : Int)) 0 with h | h | h
        · obtain ⟨d1, d2⟩ := z5 h
          have hk : kd (wd a) ≠ 0 := by
            intro e
            rw [svf, e, Nat.zero_mul] at h
            omega
          have c2 := c2.resolve_left hk
          rw [Nat.sub_mul, Nat.one_mul] at c2
          have := val_le.2 (d2 (rg (wd a)) (by rw [svf]; omega))
          rw [svx, svz, d1]
          simp only [if_true]; omega
        · rw [z6 h]; exact sx
        · have := sv_sign.2 (z4 h).1
          omega
theorem law_one (op a : Int) (ha : i64 a) : WFun p 4 [.int .u8 op, .int .i64 a] [] yes := by
  refine WFun_of w4 rfl rfl k4 ?_
  have la := wd_lt ha
  cases hx : num (wd a)
  · have e : (one 102 a).1 = nan := by unfold one; rw [hx]; rfl
    simp -dsimp [w4, call_by lawake, call_by (c_one _ _), call_by (r_one _ _), call_by (l_one _ _), call_by (r_num _), ← one_eq ha, hx, e, nan]
  · have w1e : wd 4607182418800017408 = w1 := by decide
    have w1n : num (wd 4607182418800017408) = true := by rw [w1e, num_rg]; decide
    have hle : rg (wd a) ≤ 9218868437227405312 := by rw [num_rg] at hx; exact of_decide_eq_true hx
    obtain ⟨f, e, lf, n1, n2, n3⟩ := floor_ok la hx hle
    obtain ⟨n3, z, z1, z2, z3, z4⟩ := n3
    have wf : wd (cl f) = f := wd_cl lf
    have u1 : less a (cl f) = false := by rw [less_num hx (by rw [wf]; exact n1), wf]; simp; omega
    have u2 : (one 102 (cl f)).1 = cl f := by rw [one102 _ (by rw [wf]; exact n1), wf, n2, ce_some n1]
    have u3 : (two 43 (cl f) 4607182418800017408).1 = cl z := by rw [two43 _ _ (by rw [wf]; exact n1) w1n, wf, w1e, z1, ce_some z3]
    have u4 : less (cl z) a = false := by
      have wz : wd (cl z) = z := wd_cl z2
      rw [less_num (by rw [wz]; exact z3) hx, wz]; simp; omega
    simp -dsimp [w4, call_by lawake, call_by (c_one _ _), call_by (r_one _ _), call_by (l_one _ _), call_by (l_two _ _ _), call_by (c_less _ _), call_by (r_num _), ← one_eq ha, hx, e, u1, u2, u3, u4]
end Fz.F
