import Derived.Test.YtophcnbabhigmaaFzHJ
set_option maxRecDepth 100000
namespace Fz.H
open Go

/-- What the record of a step is. -/
def recH (h : Hi) (n : Int) : List Int × Int := if n < h.lo then ([], 4) else if n ≥ h.top then ([], 1) else (h.recs.getD (n - h.lo).toNat [], 0)
theorem hrec (h : Hi) (n : Int) (ho : h.top - h.lo = h.recs.length) (hl : 0 ≤ h.lo) (ht : h.top ≤ 1000000) : Comes p 14 [hiV h, .int .i64 n] (.tuple [byV (recH h n).1, .int .i64 (recH h n).2]) := by
  obtain ⟨bud, per, lo, top, recs, snaps⟩ := h
  simp only at *
  refine Comes_of w14 rfl rfl k14 ?_ ?_ ?_ ?_
  · simp
  · simp
  · simp
  · by_cases c1 : n < lo
    · simp -dsimp [w14, wFix_by, hiV, recsV, snapsV, recH, c1, byV]
    · by_cases c2 : n ≥ top
      · simp -dsimp [w14, wFix_by, hiV, recsV, snapsV, recH, c1, c2, byV]
      · have hw : IntKind.i64.wrap (n - lo) = n - lo := w64 (by omega) (by omega)
        have h0 : 0 ≤ n - lo := by omega
        have h1 : (n - lo).toNat < recs.length := by omega
        simp -dsimp [w14, wFix_by, hiV, recsV, snapsV, recH, c1, c2, hw, h0, h1]
        simp at c1 c2 h0 h1 ⊢
        try simp [c1, c2, h0, h1]
        try omega
theorem rrec (h : Hi) (n : Int) (ho : h.top - h.lo = h.recs.length) (hl : 0 ≤ h.lo) (ht : h.top ≤ 1000000) : Comes p 16 [hiV h, .int .i64 n] (.tuple [byV (recH h n).1, .int .i64 (recH h n).2]) := by
  obtain ⟨bud, per, lo, top, recs, snaps⟩ := h
  simp only at *
  refine Comes_of w16 rfl rfl k16 ?_ ?_ ?_ ?_
  · simp
  · simp
  · simp
  · by_cases c1 : n < lo
    · simp -dsimp [w16, wFix_by, hiV, recsV, snapsV, recH, c1, byV]
    · by_cases c2 : n ≥ top
      · simp -dsimp [w16, wFix_by, hiV, recsV, snapsV, recH, c1, c2, byV]
      · have hw : IntKind.i64.wrap (n - lo) = n - lo := w64 (by omega) (by omega)
        have h0 : 0 ≤ n - lo := by omega
        have h1 : (n - lo).toNat < recs.length := by omega
        simp -dsimp [w16, wFix_by, hiV, recsV, snapsV, recH, c1, c2, hw, h0, h1]
        simp at c1 c2 h0 h1 ⊢
        try simp [c1, c2, h0, h1]
        try omega
theorem rnew (bud per : Int) : Comes p 21 [.int .i64 bud, .int .i64 per]
    (if bud < 0 ∨ per < 1 ∨ 1024 < per then .tuple [hiV ⟨0, 0, 0, 0, [], []⟩, .int .i64 1] else .tuple [hiV ⟨bud, per, 0, 0, [], []⟩, .int .i64 0]) := by
  refine Comes_of w21 rfl rfl k21 ?_ ?_ ?_ ?_
  · simp
  · simp
  · split <;> simp
  · by_cases h1 : bud < 0
    · simp -dsimp [w21, wFix_by, h1, hiV, recsV, snapsV]
    · by_cases h2 : per < 1
      · simp -dsimp [w21, wFix_by, h1, h2, hiV, recsV, snapsV]
      · by_cases h3 : 1024 < per
        · simp -dsimp [w21, wFix_by, h1, h2, h3, hiV, recsV, snapsV]
        · simp -dsimp [w21, wFix_by, h1, h2, h3, hiV, recsV, snapsV]

theorem rsize (h : Hi) (ho : total h.recs ≤ 1000000 ∧ h.recs.length ≤ 1000 ∧ totalS h.snaps ≤ 1000000 ∧ h.snaps.length ≤ 1000) : Comes p 13 [hiV h] (.int .i64 h.size) := by
  obtain ⟨bud, per, lo, top, recs, snaps⟩ := h
  obtain ⟨h1, h2, h3, h4⟩ := ho
  simp only [Hi.size] at *
  have g1 := total_nonneg recs
  have g2 := totalS_nonneg snaps
  refine Comes_of w13 rfl rfl k13 ?_ ?_ ?_ ?_
  · simp
  · simp
  · simp
  · simp -dsimp [w13, wFix_by]
    refine xL_by (by kernel_rfl) (fun k e H => ∃ i : Nat, i ≤ recs.length ∧ k = recs.length - i ∧ e 1 = .ptr 0 0 ∧ e 3 = .int .i64 (total (recs.take i)) ∧ e 4 = .int .i64 i ∧
      H = [.live [.int .i64 bud, .int .i64 per, .int .i64 lo, .int .i64 top, recsV recs, snapsV snaps]]) recs.length ?_ ?_
    · exact ⟨0, by simp [total]⟩
    · rintro k e H ⟨i, hi, hk, e1, e3, e4, rfl⟩
      have ht := total_take recs i
      have ht0 := total_nonneg (recs.take i)
      by_cases hlt : i < recs.length
      · have hs := total_succ recs i hlt
        simp [hlt] at hs
        have h5 := total_take recs (i + 1)
        simp -dsimp [e1, e3, e4, hlt]
        refine ⟨recs.length - (i + 1), by omega, i + 1, by omega, rfl, ?_⟩
        simp -dsimp [e1]
        rw [w64 (by omega) (by omega), w64 (by omega) (by omega)]
        simp; omega
      · simp -dsimp [e1, e3, e4, hlt]
        have hil : i = recs.length := by omega
        subst hil
        refine xL_by (by kernel_rfl) (fun k e H => ∃ i : Nat, i ≤ snaps.length ∧ k = snaps.length - i ∧ e 1 = .ptr 0 0 ∧ e 3 = .int .i64 (total recs + totalS (snaps.take i)) ∧ e 5 = .int .i64 i ∧
          H = [.live [.int .i64 bud, .int .i64 per, .int .i64 lo, .int .i64 top, recsV recs, snapsV snaps]]) snaps.length ?_ ?_
        · exact ⟨0, by simp [e1]; simpa using e3⟩
        · rintro k e H ⟨i, hi, hk, e1, e3, e4, rfl⟩
          have ht := totalS_take snaps i
          have ht0 := totalS_nonneg (snaps.take i)
          by_cases hlt : i < snaps.length
          · have hs := totalS_succ snaps i hlt
            simp [hlt] at hs
            have h5 := totalS_take snaps (i + 1)
            simp -dsimp [e1, e3, e4, hlt]
            refine ⟨snaps.length - (i + 1), by omega, i + 1, by omega, rfl, ?_⟩
            simp -dsimp [e1]
            rw [w64 (by omega) (by omega), w64 (by omega) (by omega)]
            simp; omega
          · have hil : i = snaps.length := by omega
            subst hil
            simp -dsimp [e1, e3, e4, wFix_by]

/-- The n-th op's bytes. -/
structure Op where
  snap : Bool
  many : Int
def opV (o : Op) : V := .agg [.bool o.snap, .int .u8 o.many]
def bytesOf (o : Op) (n : Int) : List Int := List.replicate o.many.toNat (IntKind.u8.wrap n)
theorem rbytes (o : Op) (n : Int) (h : 0 ≤ o.many ∧ o.many ≤ 255) : Comes p 15 [opV o, .int .i64 n] (byV (bytesOf o n)) := by
  obtain ⟨sn, many⟩ := o
  obtain ⟨h1, h2⟩ := h
  simp only [bytesOf] at *
  obtain ⟨m, rfl⟩ := Int.eq_ofNat_of_zero_le h1
  have hw : IntKind.i64.wrap (m : Int) = m := w64 (by omega) (by omega)
  refine Comes_of w15 rfl rfl k15 ?_ ?_ ?_ ?_
  · simp [opV]
  · simp [opV]
  · simp
  · by_cases h0 : m = 0
    · subst h0
      have hw0 : IntKind.i64.wrap 0 = 0 := w64 (by omega) (by omega)
      simp -dsimp [w15, wFix_by, opV, hw, hw0]
      refine xL_by (by kernel_rfl) (fun k e H => e 5 = .list [] true ∧ e 6 = .int .i64 0 ∧ k = 0) 0 ?_ ?_
      · simp
      · rintro k e H ⟨e5, e6, rfl⟩
        simp -dsimp [e5, e6, wFix_by, byV]
    · simp -dsimp [w15, wFix_by, opV, hw, h0]
      refine ⟨by omega, ?_⟩
      refine xL_by (by kernel_rfl) (fun k e H => ∃ i : Nat, i ≤ m ∧ k = m - i ∧ e 1 = .int .i64 n ∧ e 5 = .own 1 0 m 1 ∧ e 6 = .int .i64 i ∧
          H = [.live [.bool sn, .int .u8 m], .live (List.replicate i (V.int .u8 (IntKind.u8.wrap n)) ++ List.replicate (m - i) (V.int .u8 0))]) m ?_ ?_
      · exact ⟨0, by simp⟩
      · rintro k e H ⟨i, hi, hk, e1, e5, e6, rfl⟩
        by_cases hlt : i < m
        · simp -dsimp [e1, e5, e6, hlt]
          refine ⟨by omega, m - (i + 1), by omega, i + 1, by omega, rfl, ?_⟩
          simp -dsimp [e1, e5]
          refine ⟨w64 (by omega) (by omega), ?_⟩
          rw [List.replicate_succ', List.append_assoc, List.drop_append, List.drop_of_length_le (by simp)]
          simp
          omega
        · have : i = m := by omega
          subst this
          simp -dsimp [e1, e5, e6, wFix_by, byV]
end Fz.H
