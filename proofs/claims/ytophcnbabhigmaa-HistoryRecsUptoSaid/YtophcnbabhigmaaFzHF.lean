import Derived.Test.YtophcnbabhigmaaFzHE
set_option maxRecDepth 100000
namespace Fz.H
open Go

theorem size1 (b : List Int) : Comes p 26 [byV b] (.int .i64 b.length) := by
  refine Comes_of w26 rfl rfl k26 ?_ ?_ ?_ ?_ <;> simp -dsimp [w26, wFix_by]
theorem size2 (s : Sn) : Comes p 28 [snV s] (.int .i64 s.b.length) := by
  refine Comes_of w28 rfl rfl k28 ?_ ?_ ?_ ?_ <;> simp -dsimp [w28, wFix_by, snV]

def total (l : List (List Int)) : Int := (l.map fun b => (b.length : Int)).sum
def totalS (l : List Sn) : Int := total (l.map (·.b))
@[simp] theorem total_nil : total [] = 0 := by simp [total]
@[simp] theorem totalS_nil : totalS [] = 0 := by simp [totalS]
theorem total_cons (b : List Int) (l : List (List Int)) : total (b :: l) = b.length + total l := by simp [total]
theorem total_append (a b : List (List Int)) : total (a ++ b) = total a + total b := by simp [total]
theorem totalS_cons (s : Sn) (l : List Sn) : totalS (s :: l) = s.b.length + totalS l := by simp [totalS, total]
theorem totalS_append (a b : List Sn) : totalS (a ++ b) = totalS a + totalS b := by simp [totalS, total]
theorem total_nonneg (l : List (List Int)) : 0 ≤ total l := by
  induction l with
  | nil => simp [total]
  | cons a l ih => simp [total] at *; omega
theorem totalS_nonneg (l : List Sn) : 0 ≤ totalS l := total_nonneg _
theorem total_take (l : List (List Int)) (i : Nat) : total (l.take i) ≤ total l := by
  have : total l = total (l.take i) + total (l.drop i) := by rw [← total_append, List.take_append_drop]
  have := total_nonneg (l.drop i)
  omega
theorem total_succ (l : List (List Int)) (i : Nat) (h : i < l.length) : total (l.take (i + 1)) = total (l.take i) + (l[i]?.getD default).length := by
  rw [List.take_succ_eq_append_getElem h, total_append]
  simp [total, h]
theorem totalS_take (l : List Sn) (i : Nat) : totalS (l.take i) ≤ totalS l := by unfold totalS; rw [List.map_take]; exact total_take _ _
theorem totalS_succ (l : List Sn) (i : Nat) (h : i < l.length) : totalS (l.take (i + 1)) = totalS (l.take i) + (l[i]?.getD default).b.length := by
  unfold totalS
  rw [List.map_take, total_succ _ _ (by simpa using h), List.map_take]
  simp [h]

theorem sum1 (l : List (List Int)) (h : total l ≤ 1000000) (hl : l.length ≤ 1000) : Comes p 25 [recsV l, .fn (.func 26) [] []] (.int .i64 (total l)) := by
  refine Comes_of w25 rfl rfl k25 ?_ ?_ ?_ ?_
  · simp
  · simp
  · simp
  · simp -dsimp [w25, wFix_by]
    refine xL_by (by kernel_rfl) (fun k e H => ∃ i : Nat, i ≤ l.length ∧ k = l.length - i ∧ e 1 = .fn (.func 26) [] [] ∧ e 8 = recsV l ∧ e 9 = .int .i64 l.length ∧ e 10 = .int .i64 i ∧
      e 5 = .int .i64 (total (l.take i)) ∧ H = []) l.length ?_ ?_
    · exact ⟨0, by simp [total]⟩
    · rintro k e H ⟨i, hi, hk, h1, h8, h9, h10, h5, rfl⟩
      have ht := total_take l i
      simp -dsimp [h1, h8, h9, h10, h5, wFix_by, call_by (size1 _)]
      split
      · rename_i hlt
        have hs := total_succ l i hlt
        have h2 := total_take l (i + 1)
        have h3 := total_nonneg (l.take i)
        refine ⟨hlt, ?_⟩
        refine ⟨l.length - (i + 1), by omega, i + 1, by omega, rfl, ?_⟩
        simp -dsimp [h1, h8, h9]
        rw [w64 (by omega) (by omega), w64 (by omega) (by omega)]; omega
      · rw [List.take_of_length_le (by omega)]

theorem sum2 (l : List Sn) (h : totalS l ≤ 1000000) (hl : l.length ≤ 1000) : Comes p 27 [snapsV l, .fn (.func 28) [] []] (.int .i64 (totalS l)) := by
  refine Comes_of w27 rfl rfl k27 ?_ ?_ ?_ ?_
  · simp
  · simp
  · simp
  · simp -dsimp [w27, wFix_by]
    refine xL_by (by kernel_rfl) (fun k e H => ∃ i : Nat, i ≤ l.length ∧ k = l.length - i ∧ e 1 = .fn (.func 28) [] [] ∧ e 8 = snapsV l ∧ e 9 = .int .i64 l.length ∧ e 10 = .int .i64 i ∧
      e 5 = .int .i64 (totalS (l.take i))) l.length ?_ ?_
    · exact ⟨0, by simp [totalS]⟩
    · rintro k e H ⟨i, hi, hk, h1, h8, h9, h10, h5⟩
      have ht := totalS_take l i
      have hc := fun s => size2 s
      simp only [snV] at hc
      simp -dsimp [h1, h8, h9, h10, h5, wFix_by, call_by (hc _)]
      split
      · rename_i hlt
        have hs := totalS_succ l i hlt
        have h2 := totalS_take l (i + 1)
        have h3 := totalS_nonneg (l.take i)
        refine ⟨hlt, ?_⟩
        refine ⟨l.length - (i + 1), by omega, i + 1, by omega, rfl, ?_⟩
        simp -dsimp [h1, h8, h9]
        rw [w64 (by omega) (by omega), w64 (by omega) (by omega)]; omega
      · rw [List.take_of_length_le (by omega)]

/-- Not too large. -/
def Hi.ok (h : Hi) : Prop := total h.recs ≤ 1000000 ∧ h.recs.length ≤ 1000 ∧ totalS h.snaps ≤ 1000000 ∧ h.snaps.length ≤ 1000 ∧ 0 ≤ h.lo ∧ h.lo ≤ 1000000 ∧ 0 ≤ h.top ∧ h.top ≤ 1000000
def Hi.size (h : Hi) : Int := total h.recs + totalS h.snaps
theorem hsize (h : Hi) (ho : h.ok) : Comes p 12 [hiV h] (.int .i64 h.size) := by
  obtain ⟨h1, h2, h3, h4, _⟩ := ho
  have g1 := total_nonneg h.recs
  have g2 := totalS_nonneg h.snaps
  refine Comes_of w12 rfl rfl k12 ?_ ?_ ?_ ?_
  · simp
  · simp
  · simp
  · simp -dsimp [w12, wFix_by, call_by (sum1 _ h1 h2), call_by (sum2 _ h3 h4), quiet_by (sum1 _ h1 h2), quiet_by (sum2 _ h3 h4), Hi.size]
    exact w64 (by omega) (by omega)
end Fz.H
