import Derived.Test.YtophcnbabhigmaaFzHG
set_option maxRecDepth 100000
namespace Fz.H
open Go

theorem clip1 (l : List (List Int)) (c : Bool) : Comes p 29 [.list (l.map byV) c] (.list (l.map byV) true) := by
  refine Comes_of w29 rfl rfl k29 ?_ ?_ ?_ ?_ <;> simp -dsimp [w29, wFix_inl]
theorem clip2 (l : List Sn) (c : Bool) : Comes p 31 [.list (l.map snV) c] (.list (l.map snV) true) := by
  refine Comes_of w31 rfl rfl k31 ?_ ?_ ?_ ?_ <;> simp -dsimp [w31, wFix_inl]

theorem hnew (bud per : Int) : Comes p 19 [.int .i64 bud, .int .i64 per]
    (if bud < 0 ∨ per < 1 ∨ 1024 < per then .tuple [hiV ⟨0, 0, 0, 0, [], []⟩, .int .i64 1] else .tuple [hiV ⟨bud, per, 0, 0, [], []⟩, .int .i64 0]) := by
  refine Comes_of w19 rfl rfl k19 ?_ ?_ ?_ ?_
  · simp
  · simp
  · split <;> simp
  · by_cases h1 : bud < 0
    · simp -dsimp [w19, wFix_by, h1, hiV, recsV, snapsV]
    · by_cases h2 : per < 1
      · simp -dsimp [w19, wFix_by, h1, h2, hiV, recsV, snapsV]
      · by_cases h3 : 1024 < per
        · simp -dsimp [w19, wFix_by, h1, h2, h3, hiV, recsV, snapsV]
        · simp -dsimp [w19, wFix_by, h1, h2, h3, hiV, recsV, snapsV]

/-- Behind a record. -/
def addH (h : Hi) (b : List Int) : Hi := let r := ev h.bud h.lo (h.recs ++ [b]) h.snaps
  { h with top := h.top + 1, lo := r.1, recs := r.2.1, snaps := r.2.2 }
theorem hadd (h : Hi) (b : List Int) (ho : Hi.ok { h with top := h.top + 1, recs := h.recs ++ [b] }) : Comes p 20 [hiV h, byV b] (hiV (addH h b)) := by
  have he := hevict _ ho _ rfl
  obtain ⟨bud, per, lo, top, recs, snaps⟩ := h
  obtain ⟨h, hl, h', hl', hlo, hlo', ht, ht'⟩ := ho
  simp only [addH] at *
  have hw : IntKind.i64.wrap (top + 1) = top + 1 := w64 (by omega) (by omega)
  refine Comes_of w20 rfl rfl k20 ?_ ?_ ?_ ?_
  · simp
  · simp
  · simp
  · simp only [hiV, recsV, snapsV] at he ⊢
    simp -dsimp [w20, wFix_by, call_by (clip1 _ _)]
    refine ⟨by simp [capOk]; simp at hl; omega, ?_⟩
    rw [hw]
    refine call_frz (by simp) ?_
    simp at he
    simp -dsimp [List.take_append_of_le_length, List.take_of_length_le, callN_by he, wFix_by]
end Fz.H
