import Derived.Test.YtpojglkaohhbkaaFzFR
set_option maxRecDepth 100000
namespace Fz.F
open Go
theorem sum_comm (x y : Ieee.Datum) : x.sum y = y.sum x := by
  cases x <;> cases y <;> simp only [Ieee.Datum.sum]
  · rename_i s m i t n j
    rw [Int.min_comm i j, Int.add_comm, Bool.and_comm]
  · rename_i s t
    by_cases h : s = t
    · subst h; rfl
    · rw [if_neg h, if_neg (fun e => h e.symm)]
theorem product_comm (x y : Ieee.Datum) : x.product y = y.product x := by
  cases x <;> cases y <;> simp only [Ieee.Datum.product]
  · rename_i s m i t n j
    rw [Nat.mul_comm, Int.add_comm, Bool.xor_comm]
  all_goals rw [Bool.xor_comm]
theorem add_comm' (x y : Nat) : D.add x y = D.add y x := by unfold Ieee.Format.add; rw [sum_comm]
theorem mul_comm' (x y : Nat) : D.mul x y = D.mul y x := by unfold Ieee.Format.mul; rw [product_comm]
theorem read_eq (x : Nat) : D.read x = if rg x < 4503599627370496 then .number (sg x) (rg x) (-1074) else if rg x < 9218868437227405312 then .number (sg x) (4503599627370496 + rg x % 4503599627370496) (-1074 + ((rg x / 4503599627370496 - 1 : Nat) : Int)) else if rg x = 9218868437227405312 then .infinity (sg x) else .nan (sg x) (rg x - 9218868437227405312) := by
  unfold Ieee.Format.read
  rw [D_sign, D_binade, D_inf, D_least]
  rfl
theorem read_ng {x : Nat} (h : x < 2 * 9223372036854775808) : D.read (ng x) = (D.read x).opposite := by
  rw [read_eq, read_eq, ng_rg h, ng_sg h]
  repeat' split
  all_goals rfl
theorem sub_add {x y : Nat} (h : y < 2 * 9223372036854775808) : D.sub x y = D.add x (ng y) := by
  unfold Ieee.Format.sub Ieee.Format.add
  rw [read_ng h]
theorem ofInt_nat {x : Nat} (h : x < 2 * 9223372036854775808) : (BitVec.ofInt 64 x).toNat = x := by
  rw [BitVec.toNat_ofInt]
  show ((x : Int) % 18446744073709551616).toNat = x
  omega
theorem ab_eq {x : Nat} (h : x < 2 * 9223372036854775808) : ab x = x % 9223372036854775808 := by
  unfold ab
  have e : (BitVec.ofInt 64 x &&& ~~~BitVec.ofInt 64 9223372036854775808).toNat = x % 9223372036854775808 := by
    rw [BitVec.toNat_and, ofInt_nat h, show (~~~BitVec.ofInt 64 9223372036854775808).toNat = 2 ^ 63 - 1 from by decide, Nat.and_two_pow_sub_one_eq_mod]
  rw [e]
  show (((x % 9223372036854775808 : Nat) : Int) % 18446744073709551616).toNat = x % 9223372036854775808
  omega
theorem ab_lt {x : Nat} (h : x < 2 * 9223372036854775808) : ab x < 9223372036854775808 := by rw [ab_eq h]; omega
theorem ab_rg {x : Nat} (h : x < 2 * 9223372036854775808) : rg (ab x) = rg x ∧ sg (ab x) = false := by
  rw [ab_eq h]; unfold rg sg
  refine ⟨by omega, ?_⟩
  rw [show x % 9223372036854775808 / 9223372036854775808 = 0 from by omega]; rfl
theorem ab_num {x : Nat} (h : x < 2 * 9223372036854775808) : num (ab x) = num x := by rw [num_rg, num_rg, (ab_rg h).1]
theorem ab_sv {x : Nat} (h : x < 2 * 9223372036854775808) : sv x ≤ sv (ab x) := by
  unfold sv
  rw [(ab_rg h).1, (ab_rg h).2]
  split
  · simp only [Bool.false_eq_true, if_false]; omega
  · simp

theorem lst_comm {x y : Nat} (lx : x < 2 * 9223372036854775808) (ly : y < 2 * 9223372036854775808) (hx : num x = true) (hy : num y = true) : lst x y = lst y x := by
  unfold lst
  rw [ord_num hx hy, ord_num hy hx]
  simp only [cl_neg lx, cl_neg ly]
  rcases Int.lt_trichotomy (sv x) (sv y) with h | h | h
  · rw [Int.compare_eq_lt.2 h, Int.compare_eq_gt.2 h]; simp
  · rw [Int.compare_eq_eq.2 h, Int.compare_eq_eq.2 h.symm]
    cases hsx : sg x <;> cases hsy : sg y <;> simp
    · exact (sv_inj lx ly (by rw [hsx, hsy]) h).symm
    · exact sv_inj lx ly (by rw [hsx, hsy]) h
  · rw [Int.compare_eq_gt.2 h, Int.compare_eq_lt.2 h]; simp
theorem lst_le {x y : Nat} (hx : num x = true) (hy : num y = true) : sv (lst x y) ≤ sv x ∧ sv (lst x y) ≤ sv y ∧ (lst x y = x ∨ lst x y = y) := by
  unfold lst
  rw [ord_num hx hy]
  rcases Int.lt_trichotomy (sv x) (sv y) with h | h | h
  · rw [Int.compare_eq_lt.2 h]; simp; omega
  · rw [Int.compare_eq_eq.2 h]; simp; split <;> simp <;> omega
  · rw [Int.compare_eq_gt.2 h]; simp; omega
theorem less_num {a b : Int} (hx : num (wd a) = true) (hy : num (wd b) = true) : less a b = decide (sv (wd a) < sv (wd b)) := by
  unfold less
  rw [ord_num hx hy]
  rcases Int.lt_trichotomy (sv (wd a)) (sv (wd b)) with h | h | h
  · rw [Int.compare_eq_lt.2 h]; simp [h]
  · rw [Int.compare_eq_eq.2 h]; simp; omega
  · rw [Int.compare_eq_gt.2 h]; simp; omega
theorem law_turns (a b : Int) (ha : i64 a) (hb : i64 b) : WFun p 6 [.int .i64 a, .int .i64 b] [] yes := by
  refine WFun_of w6 rfl rfl k6 ?_
  have la := wd_lt ha
  have lb := wd_lt hb
  by_cases hn : num (wd a) = false ∨ num (wd b) = false
  · have t : ∀ op, isTwo op = true → (two op a b).1 = nan := by
      intro op ho
      unfold two
      rw [if_neg (by rw [ho]; decide), if_pos hn]
    have t1 := t 43 rfl
    have t2 := t 45 rfl
    have t3 := t 42 rfl
    have t4 := t 47 rfl
    have t5 := t 109 rfl
    have t6 := t 77 rfl
    cases hx : num (wd a)
    · simp -dsimp [w6, call_by lawake, call_by (r_num _), call_by (l_two _ _ _), hx, t1, t2, t3, t4, t5, t6, nan]
    · have hy : num (wd b) = false := by simpa [hx] using hn
      simp -dsimp [w6, call_by lawake, call_by (r_num _), call_by (l_two _ _ _), hx, hy, t1, t2, t3, t4, t5, t6, nan]
  · have hx : num (wd a) = true := by cases h : num (wd a) <;> simp_all
    have hy : num (wd b) = true := by cases h : num (wd b) <;> simp_all
    have t : ∀ op a b, num (wd a) = true → num (wd b) = true → isTwo op = true → (two op a b).1 = ce (twoF op (wd a) (wd b)) := by
      intro op a b hx hy ho
      unfold two
      rw [if_neg (by rw [ho]; decide), if_neg (by simp [hx, hy])]
    have o : ∀ op a, num (wd a) = true → isOne op = true → (one op a).1 = ce (oneF op (wd a)) := by
      intro op a hx ho
      unfold one
      rw [if_neg (by rw [ho]; decide), if_neg (by simp [hx])]
    have nb : (one 110 b).1 = cl (ng (wd b)) := by rw [o 110 b hy rfl]; exact ce_some (by rw [ng_num lb]; exact hy)
    have na : (one 110 a).1 = cl (ng (wd a)) := by rw [o 110 a hx rfl]; exact ce_some (by rw [ng_num la]; exact hx)
    have wnb : wd (cl (ng (wd b))) = ng (wd b) := wd_cl (ng_lt lb)
    have wna : wd (cl (ng (wd a))) = ng (wd a) := wd_cl (ng_lt la)
    have t1 : (two 43 a b).1 = (two 43 b a).1 := by rw [t _ _ _ hx hy rfl, t _ _ _ hy hx rfl]; simp only [twoF, if_true]; rw [add_comm']
    have t2 : (two 42 a b).1 = (two 42 b a).1 := by rw [t _ _ _ hx hy rfl, t _ _ _ hy hx rfl]; simp only [twoF, if_true, show ¬ (42 : Int) = 43 from by decide, show ¬ (42 : Int) = 45 from by decide, if_false]; rw [mul_comm']
    have l0 : (two 109 a b).1 = cl (lst (wd a) (wd b)) := by rw [t _ _ _ hx hy rfl]; exact ce_some (lst_num hx hy)
    have t3 : (two 109 b a).1 = (two 109 a b).1 := by rw [t _ _ _ hx hy rfl, t _ _ _ hy hx rfl]; exact congrArg (fun x => ce (some x)) (lst_comm lb la hy hx)
    have t4 : (two 77 a b).1 = (two 77 b a).1 := by
      rw [t _ _ _ hx hy rfl, t _ _ _ hy hx rfl]
      exact congrArg (fun x => ce (some (ng x))) (lst_comm (ng_lt la) (ng_lt lb) (by rw [ng_num la]; exact hx) (by rw [ng_num lb]; exact hy))
    have t5 : (two 45 a b).1 = (two 43 a (one 110 b).1).1 := by
      rw [nb, t _ _ _ hx hy rfl, t 43 a _ hx (by rw [wnb, ng_num lb]; exact hy) rfl, wnb]
      exact congrArg ce (sub_add lb)
    have t6 : (one 110 (one 110 a).1).1 = a := by
      rw [na, o 110 _ (by rw [wna, ng_num la]; exact hx) rfl, wna]
      show ce (some (ng (ng (wd a)))) = a
      rw [ng_ng la, ce_some hx, cl_wd ha]
    obtain ⟨le1, le2, le3⟩ := lst_le hx hy
    have llt : lst (wd a) (wd b) < 2 * 9223372036854775808 := by rcases le3 with h | h <;> rw [h] <;> assumption
    have t7 : (two 109 a b).1 = a ∨ (two 109 a b).1 = b := by
      rw [l0]
      rcases le3 with h | h
      · left; rw [h, cl_wd ha]
      · right; rw [h, cl_wd hb]
    have wl : wd (two 109 a b).1 = lst (wd a) (wd b) := by rw [l0, wd_cl llt]
    have t8 : less a (two 109 a b).1 = false := by rw [less_num hx (by rw [wl]; exact lst_num hx hy), wl]; simp; omega
    have t9 : less b (two 109 a b).1 = false := by rw [less_num hy (by rw [wl]; exact lst_num hx hy), wl]; simp; omega
    have ea : (one 97 a).1 = cl (ab (wd a)) := by rw [o 97 a hx rfl]; exact ce_some (by rw [ab_num la]; exact hx)
    have wa : wd (one 97 a).1 = ab (wd a) := by rw [ea, wd_cl (by have := ab_lt la; omega)]
    have t10 : less (one 97 a).1 a = false := by
      have := ab_sv la
      rw [less_num (by rw [wa, ab_num la]; exact hx) hx, wa]; simp; omega
    generalize hl : (two 109 a b).1 = l at *
    by_cases q : l = a
    · have q1 : decide (l = a) = true := decide_eq_true q
      clear q t7
      simp -dsimp [w6, call_by lawake, call_by (r_num _), call_by (l_two _ _ _), call_by (l_one _ _), call_by (c_less _ _), hx, hy, t1, t2, hl, t3, t4, t5, t6, t8, t9, t10, q1]
    · have q1 : decide (l = a) = false := decide_eq_false q
      have q2 : decide (l = b) = true := decide_eq_true (t7.resolve_left q)
      clear q t7
      simp -dsimp [w6, call_by lawake, call_by (r_num _), call_by (l_two _ _ _), call_by (l_one _ _), call_by (c_less _ _), hx, hy, t1, t2, hl, t3, t4, t5, t6, t8, t9, t10, q1, q2]
end Fz.F
