import Derived.Test.YtophcnbabhigmaaFzHF
set_option maxRecDepth 100000
namespace Fz.H
open Go
def drop1 (lo bud : Int) (e : Bool) : List Sn → List Sn
  | [] => []
  | s :: r => if s.n < lo ∨ (e = true ∧ bud < totalS (s :: r)) then drop1 lo bud e r else s :: r
/-- What goes. -/
def ev (bud : Int) : Int → List (List Int) → List Sn → Int × List (List Int) × List Sn
  | lo, [], snaps => if bud < totalS snaps then (lo, [], drop1 lo bud true snaps) else (lo, [], snaps)
  | lo, b :: recs, snaps => if bud < total (b :: recs) + totalS snaps then
      ev bud (lo + 1) recs (drop1 (lo + 1) bud recs.isEmpty snaps)
    else (lo, b :: recs, snaps)

theorem hevict (h : Hi) (ho : h.ok) (r : Int × List (List Int) × List Sn) (hr : r = ev h.bud h.lo h.recs h.snaps) :
    Comes p 30 [hiV h] (hiV { h with lo := r.1, recs := r.2.1, snaps := r.2.2 }) := by
  have hz := hsize h ho
  obtain ⟨bud, per, lo, top, recs, snaps⟩ := h
  obtain ⟨h, hl, h', hl', hlo, hlo', _⟩ := ho
  simp only at *
  refine Comes_of w30 rfl rfl k30 ?_ ?_ ?_ ?_
  · simp
  · simp
  · simp
  · simp only [hiV, recsV, snapsV, Hi.size] at hz ⊢
    simp -dsimp [w30, call_by hz, quiet_by hz]
    refine xL_by (by kernel_rfl) (fun k e H => ∃ lo recs rc snaps sc, e 1 = .ptr 0 0 ∧ e 2 = .ptr 1 0 ∧ e 3 = .int .i64 (total recs + totalS snaps) ∧
      H = [.live [.int .i64 bud, .int .i64 per, .int .i64 lo, .int .i64 top, .list (recs.map byV) rc, .list (snaps.map snV) sc], .live [.int .i64 0, .int .i64 0, .int .i64 0, .int .i64 0, .list [] true, .list [] true]] ∧
      r = ev bud lo recs snaps ∧ total recs ≤ 1000000 ∧ totalS snaps ≤ 1000000 ∧ 0 ≤ lo ∧ lo + recs.length ≤ 1001000 ∧ k = recs.length + snaps.length) (recs.length + snaps.length) ?_ ?_
    · refine ⟨lo, recs, false, snaps, false, ?_⟩
      simp [hr, h, h', hlo]
      omega
    · rintro k e H ⟨lo, recs, rc, snaps, sc, h1, h2, h3, rfl, hr, ht, ht', hlo, hlr, hk⟩
      have g1 := total_nonneg recs
      have g2 := totalS_nonneg snaps
      by_cases hb : bud < total recs + totalS snaps
      · rcases recs with _ | ⟨b, recs⟩
        · rcases snaps with _ | ⟨s, snaps⟩
          · simp at hb
            simp -dsimp [h1, h2, h3, wFix_by, hb]
            simp [hr, ev, hb, drop1]
          · simp at hb
            have g3 := totalS_nonneg (s :: snaps)
            simp -dsimp [h1, h2, h3, wFix_by, hb]
            refine xL_by (by kernel_rfl) (fun k1 e H => ∃ sn sf, e 1 = .ptr 0 0 ∧ e 2 = .ptr 1 0 ∧ e 3 = .int .i64 (totalS sn) ∧
              H = [.live [.int .i64 bud, .int .i64 per, .int .i64 lo, .int .i64 top, .list [] rc, .list (sn.map snV) sf], .live [.int .i64 0, .int .i64 0, .int .i64 0, .int .i64 0, .list [] true, .list [] true]] ∧
              r = (lo, [], drop1 lo bud true sn) ∧ totalS sn ≤ 1000000 ∧ k1 = sn.length ∧ sn.length ≤ snaps.length + 1 ∧ (sn.length ≤ snaps.length ∨ bud < totalS sn)) (snaps.length + 1) ?_ ?_
            · refine ⟨s :: snaps, sc, ?_⟩
              simp [h1, h2, h3, hb, ht']
              rw [hr, ev, if_pos hb]
            · rintro k1 e H ⟨sn, sf, h1, h2, h3, rfl, hd, hts, hk1, hle, hlen⟩
              rcases sn with _ | ⟨s, sn⟩
              · simp -dsimp [h1, h2, h3]
                refine ⟨0, by simp at hk; omega, lo, [], rc, [], sf, ?_⟩
                simp [h1, h2, h3, hd, hlo, drop1, ev] at hlr ⊢
                omega
              · have e2 := totalS_cons s sn
                have g4 := totalS_nonneg sn
                by_cases c1 : s.n < lo
                · simp -dsimp [h1, h2, h3, c1]
                  refine ⟨by omega, sn.length, by simp at hk1; omega, sn, true, ?_⟩
                  simp [h1, h2, hd, drop1, c1] at hlen ⊢
                  refine ⟨?_, by omega, ?_⟩
                  · rw [w64 (by omega) (by omega)]; omega
                  · simp at hle; omega
                · by_cases c3 : bud < totalS (s :: sn)
                  · simp -dsimp [h1, h2, h3, c1, c3]
                    refine ⟨by omega, sn.length, by simp at hk1; omega, sn, true, ?_⟩
                    simp [h1, h2, hd, drop1, c1, c3] at hlen ⊢
                    refine ⟨?_, by omega, ?_⟩
                    · rw [w64 (by omega) (by omega)]; omega
                    · simp at hle; omega
                  · simp -dsimp [h1, h2, h3, c1, c3]
                    refine ⟨(s :: sn).length, by simp [c3] at hk hlen ⊢; omega, lo, [], rc, s :: sn, sf, ?_⟩
                    simp [h1, h2, h3, hd, hlo, drop1, ev, c1, c3] at hlr ⊢
                    omega
        · have e1 : total (b :: recs) = b.length + total recs := by simp [total]
          have g3 := total_nonneg recs
          simp -dsimp [h1, h2, h3, wFix_by, hb]
          refine ⟨by omega, ?_⟩
          refine xL_by (by kernel_rfl) (fun k1 e H => ∃ sn sf, e 1 = .ptr 0 0 ∧ e 2 = .ptr 1 0 ∧ e 3 = .int .i64 (total recs + totalS sn) ∧
            H = [.live [.int .i64 bud, .int .i64 per, .int .i64 (lo + 1), .int .i64 top, .list (recs.map byV) true, .list (sn.map snV) sf], .live [.int .i64 0, .int .i64 0, .int .i64 0, .int .i64 0, .list [] true, .list [] true]] ∧
            drop1 (lo + 1) bud recs.isEmpty snaps = drop1 (lo + 1) bud recs.isEmpty sn ∧ totalS sn ≤ 1000000 ∧ sn.length ≤ snaps.length ∧ k1 = sn.length) snaps.length ?_ ?_
          · refine ⟨snaps, sc, ?_⟩
            simp -dsimp [h1, h2]
            refine ⟨?_, ?_, ht'⟩
            · rw [w64 (by omega) (by omega)]; omega
            · rw [w64 (by simp at hlr; omega) (by simp at hlr; omega)]
          · rintro k1 e H ⟨sn, sf, h1, h2, h3, rfl, hd, hts, hlen, hk1⟩
            rcases sn with _ | ⟨s, sn⟩
            · simp -dsimp [h1, h2, h3]
              refine ⟨recs.length, by simp at hk; omega, lo + 1, recs, true, [], sf, ?_⟩
              simp [h1, h2, h3] at hd ht hlr ⊢
              refine ⟨?_, by omega, by omega, by omega⟩
              rw [hr, ev, if_pos (by simpa using hb), hd]
              simp [drop1]
            · have e2 := totalS_cons s sn
              have g4 := totalS_nonneg sn
              by_cases c1 : s.n < lo + 1
              · simp -dsimp [h1, h2, h3, c1]
                refine ⟨by omega, sn.length, by simp at hk1; omega, sn, true, ?_⟩
                simp [h1, h2] at hlen ⊢
                refine ⟨?_, ?_, by omega, by omega⟩
                · rw [w64 (by omega) (by omega)]; omega
                · rw [hd, drop1, if_pos (by simp [c1])]
              · by_cases c2 : recs = []
                · subst c2
                  by_cases c3 : bud < totalS (s :: sn)
                  · simp -dsimp [h1, h2, h3, c1, c3]
                    refine ⟨by omega, sn.length, by simp at hk1; omega, sn, true, ?_⟩
                    simp [h1, h2] at hlen ⊢
                    refine ⟨?_, ?_, by omega, by omega⟩
                    · rw [w64 (by omega) (by omega)]; omega
                    · simp at hd
                      rw [hd, drop1, if_pos (by simp [c3])]
                  · simp -dsimp [h1, h2, h3, c1, c3]
                    refine ⟨(s :: sn).length, by simp at hk hlen ⊢; omega, lo + 1, [], true, s :: sn, sf, ?_⟩
                    simp [h1, h2, h3] at hd hlr hlen ⊢
                    refine ⟨?_, by omega, by omega, by omega⟩
                    rw [hr]
                    conv => lhs; rw [ev, if_pos hb]
                    simp [hd, drop1, c1, c3, ev]
                · simp -dsimp [h1, h2, h3, c1, c2]
                  refine ⟨recs.length + (s :: sn).length, by simp at hk hlen ⊢; omega, lo + 1, recs, true, s :: sn, sf, ?_⟩
                  simp [h1, h2, h3] at hd hlr hlen ⊢
                  refine ⟨?_, by omega, by omega, by omega, by omega⟩
                  rw [hr, ev, if_pos hb]
                  simp [hd, drop1, c1, c2]
      · simp -dsimp [h1, h2, h3, hb, wFix_by]
        have : ev bud lo recs snaps = (lo, recs, snaps) := by
          cases recs with
          | nil => simp [ev] at hb ⊢; omega
          | cons b recs => rw [ev, if_neg hb]
        simp [hr, this]

end Fz.H
