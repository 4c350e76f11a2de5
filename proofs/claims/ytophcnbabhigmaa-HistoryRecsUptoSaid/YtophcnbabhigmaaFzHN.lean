import Derived.Test.YtophcnbabhigmaaFzHM
set_option maxRecDepth 100000
namespace Fz.H
open Go
def nearS (snaps : List Sn) (n : Int) : Option Sn := snaps.reverse.find? fun s => decide (s.n ≤ n)
def nearV : Option Sn → V
  | some s => .tuple [snV s, .bool true]
  | none => .tuple [snV ⟨0, []⟩, .bool false]
theorem near_succ (snaps : List Sn) (n : Int) (i : Nat) (h : i < snaps.length) : nearS (snaps.take (i + 1)) n = if snaps[i].n ≤ n then some snaps[i] else nearS (snaps.take i) n := by
  unfold nearS
  rw [List.take_succ_eq_append_getElem h, List.reverse_append, List.reverse_singleton, List.singleton_append, List.find?_cons]
  by_cases hc : snaps[i].n ≤ n <;> simp [hc]
theorem hnear (h : Hi) (n : Int) (hl : h.snaps.length ≤ 1000) : Comes p 17 [hiV h, .int .i64 n] (nearV (nearS h.snaps n)) := by
  obtain ⟨bud, per, lo, top, recs, snaps⟩ := h
  simp only at *
  refine Comes_of w17 rfl rfl k17 ?_ ?_ ?_ ?_
  · simp
  · simp
  · cases nearS snaps n <;> simp [nearV]
  · have hw : IntKind.i64.wrap ((snaps.length : Int) - 1) = (snaps.length : Int) - 1 := w64 (by omega) (by omega)
    simp -dsimp [w17, hiV, recsV, snapsV, hw]
    refine xL_by (by kernel_rfl) (fun k e H => k ≤ snaps.length ∧ e 1 = .int .i64 n ∧ e 2 = .ptr 0 0 ∧ e 4 = .ptr 1 0 ∧ e 6 = .int .i64 ((k : Int) - 1) ∧
      H = [.live [.int .i64 bud, .int .i64 per, .int .i64 lo, .int .i64 top, recsV recs, snapsV snaps], .live [.int .i64 0, .list [] true]] ∧ nearS snaps n = nearS (snaps.take k) n) snaps.length ?_ ?_
    · simp [recsV, snapsV]
    · rintro k e H ⟨hk, e1, e2, e4, e6, rfl, hn⟩
      rcases k with _ | k
      · have hz : nearS snaps n = none := by rw [hn]; simp [nearS]
        simp -dsimp [e1, e2, e4, e6, wFix_by, hz, nearV, snV, byV]
      · have hs := near_succ snaps n k (by omega)
        have hlt : k < snaps.length := by omega
        have hw1 : ((k + 1 : Nat) : Int) - 1 = (k : Int) := by omega
        rw [hw1] at e6
        by_cases hc : snaps[k].n ≤ n
        · rw [if_pos hc] at hs
          simp -dsimp [e1, e2, e4, e6, hlt, hc, wFix_by, hn, hs, nearV, snV]
        · rw [if_neg hc] at hs
          simp -dsimp [e1, e2, e4, e6, hlt, hc]
          refine ⟨k, by omega, by omega, ?_⟩
          simp -dsimp [e1, e2, e4, hn, hs]
          exact w64 (by omega) (by omega)
theorem rnear (h : Hi) (n : Int) (hl : h.snaps.length ≤ 1000) : Comes p 18 [hiV h, .int .i64 n] (nearV (nearS h.snaps n)) := by
  obtain ⟨bud, per, lo, top, recs, snaps⟩ := h
  simp only at *
  refine Comes_of w18 rfl rfl k18 ?_ ?_ ?_ ?_
  · simp
  · simp
  · cases nearS snaps n <;> simp [nearV]
  · simp -dsimp [w18, hiV, recsV, snapsV]
    refine xL_by (by kernel_rfl) (fun k e H => ∃ i b out c, i ≤ snaps.length ∧ k = snaps.length - i ∧ e 1 = .int .i64 n ∧ e 2 = .ptr 0 0 ∧ e 4 = .ptr 1 0 ∧ e 6 = .ptr 2 0 ∧ e 7 = .bool b ∧ e 8 = .int .i64 i ∧
      H = [.live [.int .i64 bud, .int .i64 per, .int .i64 lo, .int .i64 top, recsV recs, snapsV snaps], .live [.int .i64 0, .list [] true], .live [.int .i64 out.n, .list (out.b.map (V.int .u8)) c]] ∧
      nearS (snaps.take i) n = (if b = true then some out else none) ∧ (b = false → out = ⟨0, []⟩)) snaps.length ?_ ?_
    · refine ⟨0, false, ⟨0, []⟩, true, ?_⟩
      simp [recsV, snapsV, nearS]
    · rintro k e H ⟨i, b, out, c, hi, hk, e1, e2, e4, e6, e7, e8, rfl, hn, hb⟩
      by_cases hlt : i < snaps.length
      · have hs := near_succ snaps n i hlt
        by_cases hc : snaps[i].n ≤ n
        · rw [if_pos hc] at hs
          simp -dsimp [e1, e2, e4, e6, e7, e8, hlt, hc]
          refine ⟨snaps.length - (i + 1), by omega, i + 1, true, snaps[i], false, by omega, rfl, ?_⟩
          simp -dsimp [e1, e2, e4, e6, hs, byV]
          exact w64 (by omega) (by omega)
        · rw [if_neg hc] at hs
          simp -dsimp [e1, e2, e4, e6, e7, e8, hlt, hc]
          refine ⟨snaps.length - (i + 1), by omega, i + 1, b, out, c, by omega, rfl, ?_⟩
          simp -dsimp [e1, e2, e4, e6, e7, hs, hn]
          exact ⟨w64 (by omega) (by omega), by simpa using hb⟩
      · have : i = snaps.length := by omega
        subst this
        rw [List.take_length] at hn
        rw [hn]
        cases b with
        | true => simp -dsimp [e1, e2, e4, e6, e7, e8, wFix_by, nearV, snV, byV]
        | false =>
          obtain rfl := hb rfl
          simp -dsimp [e1, e2, e4, e6, e7, e8, wFix_by, nearV, snV, byV]
end Fz.H
