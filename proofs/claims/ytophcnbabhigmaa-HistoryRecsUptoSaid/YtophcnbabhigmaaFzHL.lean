import Derived.Test.YtophcnbabhigmaaFzHK
set_option maxRecDepth 100000
namespace Fz.H
open Go
def evS (bud : Int) : List Sn → List Sn
  | [] => []
  | s :: r => if bud < totalS (s :: r) then evS bud r else s :: r
def evA (bud : Int) : Int → List (List Int) → List Sn → Int × List (List Int) × List Sn
  | lo, [], snaps => (lo, [], evS bud snaps)
  | lo, b :: recs, snaps => if bud < total (b :: recs) + totalS snaps then evA bud (lo + 1) recs (snaps.filter fun s => decide (lo + 1 ≤ s.n)) else (lo, b :: recs, snaps)

theorem totalS_filter (l : List Sn) (f : Sn → Bool) : totalS (l.filter f) ≤ totalS l := by
  induction l with
  | nil => simp
  | cons a l ih =>
    rw [List.filter_cons]
    split
    · rw [totalS_cons, totalS_cons]; omega
    · rw [totalS_cons]; omega

theorem revict (h : Hi) (ho : h.ok) (hb : 0 ≤ h.bud) (r : Int × List (List Int) × List Sn) (hr : r = evA h.bud h.lo h.recs h.snaps) :
    Comes p 32 [hiV h] (hiV { h with lo := r.1, recs := r.2.1, snaps := r.2.2 }) := by
  obtain ⟨bud, per, lo, top, recs, snaps⟩ := h
  obtain ⟨h, hl, h', hl', hlo, hlo', ht, ht'⟩ := ho
  simp only at *
  refine Comes_of w32 rfl rfl k32 ?_ ?_ ?_ ?_
  · simp
  · simp
  · simp
  · simp only [hiV, recsV, snapsV]
    simp -dsimp [w32]
    refine xL_by (by kernel_rfl) (fun k e H => ∃ lo recs rc snaps sc J, e 1 = .ptr 0 0 ∧ e 2 = .ptr 1 0 ∧
      H = .live [.int .i64 bud, .int .i64 per, .int .i64 lo, .int .i64 top, .list (recs.map byV) rc, .list (snaps.map snV) sc] :: .live [.int .i64 0, .int .i64 0, .int .i64 0, .int .i64 0, .list [] true, .list [] true] :: J ∧
      r = evA bud lo recs snaps ∧ total recs ≤ 1000000 ∧ recs.length ≤ 1000 ∧ snaps.length ≤ 1000 ∧ totalS snaps ≤ 1000000 ∧ 0 ≤ lo ∧ lo + recs.length ≤ 1001000 ∧ k = recs.length + snaps.length) (recs.length + snaps.length) ?_ ?_
    · refine ⟨lo, recs, false, snaps, false, [], ?_⟩
      simp [hr, h, h', hlo, hl, hl']
      omega
    · rintro k e H ⟨lo, recs, rc, snaps, sc, J, e1, e2, rfl, hr, ht, htl, hsl, ht', hlo, hlr, hk⟩
      have hs : ∀ (H : List Ob) (K : V → Prop), xQuiet p 13 [.agg [.int .i64 bud, .int .i64 per, .int .i64 lo, .int .i64 top, .list (recs.map byV) rc, .list (snaps.map snV) sc]] H K = K (.int .i64 (total recs + totalS snaps)) := fun H K =>
        quiet_nrm rfl (by simp) (by simp [hiV, recsV, snapsV]) (rsize ⟨bud, per, lo, top, recs, snaps⟩ ⟨ht, htl, ht', hsl⟩)
      have g1 := total_nonneg recs
      have g2 := totalS_nonneg snaps
      by_cases hbd : bud < total recs + totalS snaps
      · rcases recs with _ | ⟨b, recs⟩
        · rcases snaps with _ | ⟨s, snaps⟩
          · simp at hbd; omega
          · simp at hbd hs
            have q := totalS_cons s snaps
            simp -dsimp [e1, e2, hs, hbd]
            refine ⟨snaps.length, by simp at hk; omega, lo, [], rc, snaps, sc, J, ?_⟩
            simp [hr, evA, evS, hbd, e1, e2] at hlr hsl ⊢
            omega
        · simp only [List.map_cons] at hs
          simp -dsimp [e1, e2, hs, hbd]
          simp at hlr htl hk
          have q := total_cons b recs
          have hw : IntKind.i64.wrap (lo + 1) = lo + 1 := w64 (by omega) (by omega)
          rw [hw]
          refine xL_by (by kernel_rfl) (fun k1 e H => ∃ i v J, i ≤ snaps.length ∧ k1 = snaps.length - i ∧ e 1 = .ptr 0 0 ∧ e 2 = .ptr 1 0 ∧ e 3 = v ∧ e 4 = .int .i64 i ∧ Acc 2 2 J v (((snaps.take i).filter fun s => decide (lo + 1 ≤ s.n)).map snV) ∧
            H = .live [.int .i64 bud, .int .i64 per, .int .i64 (lo + 1), .int .i64 top, .list (recs.map byV) rc, .list (snaps.map snV) sc] :: .live [.int .i64 0, .int .i64 0, .int .i64 0, .int .i64 0, .list [] true, .list [] true] :: J) snaps.length ?_ ?_
          · refine ⟨0, .list [] true, J, ?_⟩
            simp [e1, e2]
            exact acc_nil (by decide)
          · rintro k1 e H ⟨i, v, J, hi, hk1, e1, e2, e3, e4, hacc, rfl⟩
            by_cases hlt : i < snaps.length
            · have hsn := List.take_succ_eq_append_getElem hlt
              by_cases hge : lo + 1 ≤ snaps[i].n
              · simp -dsimp [e1, e2, e3, e4, hlt, hge]
                have hfl : ((snaps.take i).filter fun s => decide (lo + 1 ≤ s.n)).length ≤ 1000 := Nat.le_trans (List.length_filter_le _ _) (by simp; omega)
                refine app_acc 2 (m := [snV snaps[i]]) (by simpa using acc_ext hacc _) (by simp) (by simp [flat]) rfl (by simp) (by simp) (by simp [capOk]; omega) ?_
                intro v' J' hacc'
                simp -dsimp [e1, e2, e4]
                refine ⟨snaps.length - (i + 1), by omega, i + 1, v', J', by omega, rfl, ?_⟩
                simp -dsimp [e1, e2]
                refine ⟨w64 (by omega) (by omega), ?_⟩
                rw [hsn, List.filter_append]
                simpa [hge] using hacc'
              · simp -dsimp [e1, e2, e3, e4, hlt, hge]
                refine ⟨snaps.length - (i + 1), by omega, i + 1, v, J, by omega, rfl, ?_⟩
                simp -dsimp [e1, e2, e3]
                refine ⟨w64 (by omega) (by omega), ?_⟩
                rw [hsn, List.filter_append]
                simpa [hge] using hacc
            · simp -dsimp [e1, e2, e3, e4, hlt]
              have : i = snaps.length := by omega
              subst this
              rw [List.take_length] at hacc
              refine fix_acc 2 (by simpa using hacc) (by simp [List.all_flatMap]) (.inr ⟨by decide, by intro v hv; obtain ⟨x, _, rfl⟩ := List.mem_map.1 hv; exact ⟨_, rfl⟩⟩) ?_
              intro H' c hH hHl
              have hH' := (List.take_append_drop 2 H').symm
              rw [hH] at hH'
              generalize H'.drop 2 = J2 at hH'
              subst hH'
              have hfs := totalS_filter snaps fun s => decide (lo + 1 ≤ s.n)
              have hfl := List.length_filter_le (fun s : Sn => decide (lo + 1 ≤ s.n)) snaps
              simp -dsimp [e1, e2]
              refine ⟨recs.length + (snaps.filter fun s => decide (lo + 1 ≤ s.n)).length, by omega, lo + 1, recs, rc, snaps.filter fun s => decide (lo + 1 ≤ s.n), c, J2, ?_⟩
              simp [e1, e2, hr, evA, hbd]
              omega
      · simp -dsimp [e1, e2, hs, hbd, wFix_by]
        have : evA bud lo recs snaps = (lo, recs, snaps) := by
          cases recs with
          | nil => cases snaps <;> simp [evA, evS] at hbd ⊢; omega
          | cons b recs => rw [evA, if_neg hbd]
        simp [hr, this]
end Fz.H
