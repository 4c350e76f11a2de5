import Derived.Test.YtpojglkaohhbkaaFzFE
import Derived.Test.YtpojglkaohhbkaaFzFQ
set_option maxRecDepth 100000
namespace Fz.F
open Go
def i64 (a : Int) : Prop := -9223372036854775808 ≤ a ∧ a ≤ 9223372036854775807
theorem wd_eq {a : Int} (h : i64 a) : (wd a : Int) = if a < 0 then a + 2 * 9223372036854775808 else a := by
  have h1 := h.1
  have h2 := h.2
  have : (wd a : Int) = a % 18446744073709551616 := by
    show ((a % 18446744073709551616).toNat : Int) = _
    exact Int.toNat_of_nonneg (by omega)
  rw [this]
  split <;> omega
theorem wd_lt {a : Int} (h : i64 a) : wd a < 2 * 9223372036854775808 := by
  have := wd_eq h
  have h1 := h.1
  have h2 := h.2
  split at this <;> omega
theorem sg_wd {a : Int} (h : i64 a) : sg (wd a) = decide (a < 0) := by
  have := wd_eq h
  have h1 := h.1
  have h2 := h.2
  unfold sg
  by_cases ha : a < 0
  · rw [if_pos ha] at this; simp [ha]; omega
  · rw [if_neg ha] at this; simp [ha]; omega
theorem cl_eq {x : Nat} (h : x < 2 * 9223372036854775808) : cl x = if x < 9223372036854775808 then (x : Int) else (x : Int) - 2 * 9223372036854775808 := by
  by_cases hx : x < 9223372036854775808
  · rw [if_pos hx]; exact w64 (by omega) (by omega)
  · rw [if_neg hx]
    unfold cl IntKind.wrap
    have h1 : (x : Int) % 2 ^ IntKind.i64.bits = x := by
      show (x : Int) % 18446744073709551616 = x
      omega
    simp only [h1]
    rw [if_pos (by
      simp only [Bool.and_eq_true, decide_eq_true_eq]
      exact ⟨rfl, by show (9223372036854775808 : Int) ≤ x; omega⟩)]
    show (x : Int) - 18446744073709551616 = _
    omega
theorem cl_i64 {x : Nat} (h : x < 2 * 9223372036854775808) : i64 (cl x) := by
  rw [cl_eq h]; unfold i64; split <;> omega
theorem cl_wd {a : Int} (h : i64 a) : cl (wd a) = a := by
  rw [cl_eq (wd_lt h)]
  have := wd_eq h
  have h1 := h.1
  have h2 := h.2
  split at this <;> split <;> omega
theorem wd_cl {x : Nat} (h : x < 2 * 9223372036854775808) : wd (cl x) = x := by
  have := wd_eq (cl_i64 h)
  have e := cl_eq h
  generalize cl x = c at this e ⊢
  split at this <;> split at e <;> omega
theorem cl_neg {x : Nat} (h : x < 2 * 9223372036854775808) : (cl x < 0) ↔ (sg x = true) := by
  rw [cl_eq h]; unfold sg
  simp only [beq_iff_eq]
  split <;> omega
theorem num_rg {x : Nat} : num x = decide (rg x ≤ 9218868437227405312) := by
  unfold num
  by_cases h : rg x ≤ 9218868437227405312
  · rw [order_sv h h]; simp [h, Int.compare_eq_eq.2 rfl]
  · rw [order_nan (.inl (by omega))]; simp [h]
theorem sg_rg {x y : Nat} (hx : x < 2 * 9223372036854775808) (hy : y < 2 * 9223372036854775808) (h1 : sg x = sg y) (h2 : rg x = rg y) : x = y := by
  rw [← word_self hx, ← word_self hy, h1, h2]
theorem xor_top {x : Nat} (h : x < 2 * 9223372036854775808) : x ^^^ 9223372036854775808 = if x < 9223372036854775808 then x + 9223372036854775808 else x - 9223372036854775808 := by
  have key : ∀ y, y < 9223372036854775808 → y ^^^ 9223372036854775808 = y + 9223372036854775808 := by
    intro y hy
    have e : 9223372036854775808 = 2 ^ 63 := rfl
    rw [e] at hy ⊢
    rw [Nat.add_comm, show 2 ^ 63 + y = 2 ^ 63 * 1 + y from rfl, Nat.two_pow_add_eq_or_of_lt hy, Nat.mul_one]
    refine Nat.eq_of_testBit_eq fun i => ?_
    rw [Nat.testBit_xor, Nat.testBit_or]
    by_cases hi : i = 63
    · subst hi
      rw [Nat.testBit_lt_two_pow hy]
      simp
    · rw [Nat.testBit_two_pow_of_ne (by omega)]
      simp
  split
  · exact key x ‹_›
  · have := key (x - 9223372036854775808) (by omega)
    rw [show x - 9223372036854775808 + 9223372036854775808 = x from by omega] at this
    rw [← this, Nat.xor_assoc, Nat.xor_self, Nat.xor_zero]
    omega
theorem ng_eq {x : Nat} (h : x < 2 * 9223372036854775808) : ng x = if x < 9223372036854775808 then x + 9223372036854775808 else x - 9223372036854775808 := xor_top h
theorem ng_lt {x : Nat} (h : x < 2 * 9223372036854775808) : ng x < 2 * 9223372036854775808 := by rw [ng_eq h]; split <;> omega
theorem ng_rg {x : Nat} (h : x < 2 * 9223372036854775808) : rg (ng x) = rg x := by rw [ng_eq h]; unfold rg; split <;> omega
theorem ng_sg {x : Nat} (h : x < 2 * 9223372036854775808) : sg (ng x) = !sg x := by
  rw [ng_eq h]; unfold sg
  split
  · rw [show (x + 9223372036854775808) / 9223372036854775808 = 1 from by omega, show x / 9223372036854775808 = 0 from by omega]; rfl
  · rw [show (x - 9223372036854775808) / 9223372036854775808 = 0 from by omega, show x / 9223372036854775808 = 1 from by omega]; rfl
theorem ng_sv {x : Nat} (h : x < 2 * 9223372036854775808) : sv (ng x) = -sv x := by
  unfold sv
  rw [ng_rg h, ng_sg h]
  cases sg x <;> simp
theorem ng_ng {x : Nat} (h : x < 2 * 9223372036854775808) : ng (ng x) = x := sg_rg (ng_lt (ng_lt h)) h (by rw [ng_sg (ng_lt h), ng_sg h]; simp) (by rw [ng_rg (ng_lt h), ng_rg h])
theorem ng_num {x : Nat} (h : x < 2 * 9223372036854775808) : num (ng x) = num x := by rw [num_rg, num_rg, ng_rg h]
theorem sv_inj {x y : Nat} (hx : x < 2 * 9223372036854775808) (hy : y < 2 * 9223372036854775808) (hs : sg x = sg y) (h : sv x = sv y) : x = y := by
  refine sg_rg hx hy hs (val_inj ?_)
  unfold sv at h
  rw [hs] at h
  split at h <;> omega
theorem sv_sign {x : Nat} : (sg x = true → sv x ≤ 0) ∧ (sg x = false → 0 ≤ sv x) := by
  unfold sv
  constructor <;> intro h <;> rw [h] <;> simp

theorem ce_some {x : Nat} (h : num x = true) : ce (some x) = cl x := by simp [ce, h]

theorem ord_num {x y : Nat} (hx : num x = true) (hy : num y = true) : D.order x y = some (compare (sv x) (sv y)) := by
  rw [num_rg, decide_eq_true_eq] at hx hy
  exact order_sv hx hy

theorem lst_num {x y : Nat} (hx : num x = true) (hy : num y = true) : num (lst x y) = true := by unfold lst; split <;> assumption

/-- The lesser one, cells. -/
theorem least_eq {a b : Int} (ha : i64 a) (hb : i64 b) (hx : num (wd a) = true) (hy : num (wd b) = true) : ce (some (lst (wd a) (wd b))) = lstC a b := by
  rw [ce_some (lst_num hx hy)]
  unfold lst lstC
  rw [ord_num hx hy, cl_wd ha]
  rcases Int.lt_trichotomy (sv (wd a)) (sv (wd b)) with h | h | h
  · rw [Int.compare_eq_lt.2 h]; simp [cl_wd ha]
  · rw [Int.compare_eq_eq.2 h]
    by_cases h0 : a < 0
    · simp [h0, cl_wd ha]
    · simp [h0, cl_wd hb]
  · rw [Int.compare_eq_gt.2 h]; simp [cl_wd hb]
theorem most_eq {a b : Int} (ha : i64 a) (hb : i64 b) (hx : num (wd a) = true) (hy : num (wd b) = true) : ce (some (ng (lst (ng (wd a)) (ng (wd b))))) = grtC a b := by
  have la := wd_lt ha
  have lb := wd_lt hb
  have nx : num (ng (wd a)) = true := by rw [ng_num la]; exact hx
  have ny : num (ng (wd b)) = true := by rw [ng_num lb]; exact hy
  have hl : lst (ng (wd a)) (ng (wd b)) < 2 * 9223372036854775808 := by unfold lst; split; exact ng_lt la; exact ng_lt lb
  rw [ce_some (by rw [ng_num hl]; exact lst_num nx ny)]
  unfold grtC lst
  rw [ord_num nx ny, ng_sv la, ng_sv lb]
  simp only [cl_neg (ng_lt la), ng_sg la, sg_wd ha]
  unfold lstC
  rw [ord_num hx hy]
  rcases Int.lt_trichotomy (sv (wd a)) (sv (wd b)) with h | h | h
  · rw [Int.compare_eq_lt.2 h, Int.compare_eq_gt.2 (show -sv (wd b) < -sv (wd a) by omega)]
    simp [ng_ng lb, cl_wd hb]
  · rw [Int.compare_eq_eq.2 h, Int.compare_eq_eq.2 (show -sv (wd a) = -sv (wd b) by omega)]
    by_cases h0 : a < 0
    · simp [h0, ng_ng lb, cl_wd hb]
    · simp [h0, ng_ng la, cl_wd ha]
      exact fun h => h.symm
  · rw [Int.compare_eq_gt.2 h, Int.compare_eq_lt.2 (show -sv (wd a) < -sv (wd b) by omega)]
    have hne : b ≠ a := by rintro rfl; omega
    simp [hne, ng_ng la, cl_wd ha]
theorem two_eq {op a b : Int} (ha : i64 a) (hb : i64 b) : two op a b = rtwo op a b := by
  unfold two rtwo
  split
  · rfl
  · rename_i h1
    split
    · rfl
    · rename_i hn
      have hx : num (wd a) = true := by cases h : num (wd a) <;> simp_all
      have hy : num (wd b) = true := by cases h : num (wd b) <;> simp_all
      unfold twoF rtwoF
      congr 1
      repeat' split
      all_goals first
        | rfl
        | exact least_eq ha hb hx hy
        | exact most_eq ha hb hx hy

/-! ### FloTwo -/
def yes : CR → List Ob → Prop := fun r _ => r = .ret (.bool true)
@[simp] theorem yes_ret {v : V} {H : List Ob} : yes (.ret v) H = (v = .bool true) := by simp [yes]
theorem law_two (op a b : Int) (ha : i64 a) (hb : i64 b) : WFun p 3 [.int .u8 op, .int .i64 a, .int .i64 b] [] yes := by
  refine WFun_of w3 rfl rfl k3 ?_
  simp -dsimp [w3, call_by lawake, call_by (c_two _ _ _), call_by (r_two _ _ _), two_eq ha hb]
end Fz.F
