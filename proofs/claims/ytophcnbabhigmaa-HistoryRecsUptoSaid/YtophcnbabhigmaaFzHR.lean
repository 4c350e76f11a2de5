import Derived.Test.YtophcnbabhigmaaFzHQ
set_option maxRecDepth 100000
namespace Fz.H
open Go
@[simp] theorem allU8_map (b : List Int) : allU8 (b.map (V.int .u8)) = b.all fun x => decide (0 ≤ x) && decide (x < 256) := by
  unfold allU8; rw [List.all_map]; rfl
theorem U8.all {b : List Int} (h : U8 b) : (b.all fun x => decide (0 ≤ x) && decide (x < 256)) = true := by
  rw [List.all_eq_true]; intro x hx; have := h x hx; simp; omega

theorem hsame (h : Hi) (hr : ∀ b ∈ h.recs, U8 b) (hs : ∀ s ∈ h.snaps, U8 s.b) (hl : h.recs.length ≤ 1000 ∧ h.snaps.length ≤ 1000) : Comes p 11 [hiV h, hiV h] (.bool true) := by
  obtain ⟨bud, per, lo, top, recs, snaps⟩ := h
  obtain ⟨hl1, hl2⟩ := hl
  simp only at *
  refine Comes_of w11 rfl rfl k11 ?_ ?_ ?_ ?_
  · simp
  · simp
  · simp
  · simp -dsimp [w11, hiV, recsV, snapsV]
    refine xL_by (by kernel_rfl) (fun k e H => ∃ i : Nat, i ≤ recs.length ∧ k = recs.length - i ∧ e 2 = .ptr 0 0 ∧ e 3 = .ptr 1 0 ∧ e 5 = .int .i64 i ∧
      H = [.live [.int .i64 bud, .int .i64 per, .int .i64 lo, .int .i64 top, recsV recs, snapsV snaps], .live [.int .i64 bud, .int .i64 per, .int .i64 lo, .int .i64 top, recsV recs, snapsV snaps]]) recs.length ?_ ?_
    · exact ⟨0, by simp [recsV, snapsV]⟩
    · rintro k e H ⟨i, hi, hk, e2, e3, e5, rfl⟩
      by_cases hlt : i < recs.length
      · have hu := (hr _ (List.getElem_mem hlt)).all
        simp -dsimp [e2, e3, e5, hlt]
        refine ⟨by simpa [U8] using hr _ (List.getElem_mem hlt), ?_⟩
        refine ⟨recs.length - (i + 1), by omega, i + 1, by omega, rfl, ?_⟩
        simp -dsimp [e2, e3]
        exact w64 (by omega) (by omega)
      · simp -dsimp [e2, e3, e5, hlt]
        refine xL_by (by kernel_rfl) (fun k e H => ∃ i : Nat, i ≤ snaps.length ∧ k = snaps.length - i ∧ e 2 = .ptr 0 0 ∧ e 3 = .ptr 1 0 ∧ e 6 = .int .i64 i ∧
          H = [.live [.int .i64 bud, .int .i64 per, .int .i64 lo, .int .i64 top, recsV recs, snapsV snaps], .live [.int .i64 bud, .int .i64 per, .int .i64 lo, .int .i64 top, recsV recs, snapsV snaps]]) snaps.length ?_ ?_
        · exact ⟨0, by simp [e2, e3]⟩
        · rintro k e H ⟨i, hi, hk, e2, e3, e6, rfl⟩
          by_cases hlt : i < snaps.length
          · simp -dsimp [e2, e3, e6, hlt]
            refine ⟨by simpa [U8] using hs _ (List.getElem_mem hlt), ?_⟩
            refine ⟨snaps.length - (i + 1), by omega, i + 1, by omega, rfl, ?_⟩
            simp -dsimp [e2, e3]
            exact w64 (by omega) (by omega)
          · simp -dsimp [e2, e3, e6, hlt, wFix_by]

theorem lmay (bud per : Int) (l : List Op) : Comes p 8 [.int .i64 bud, .int .i64 per, opsV l] (.bool (decide (0 ≤ bud ∧ 1 ≤ per ∧ per ≤ 1024 ∧ l.length ≤ 40))) := by
  have hn := rnew bud per
  refine Comes_of w8 rfl rfl k8 ?_ ?_ ?_ ?_
  · simp
  · simp
  · simp
  · by_cases h1 : bud < 0 ∨ per < 1 ∨ 1024 < per
    · rw [if_pos h1] at hn
      simp -dsimp [w8, call_by hn, quiet_by hn, wFix_by, hiV]
      omega
    · rw [if_neg h1] at hn
      have h2 : 0 ≤ bud ∧ 1 ≤ per ∧ per ≤ 1024 := by omega
      simp -dsimp [w8, call_by hn, quiet_by hn, wFix_by, hiV, h2]
      try omega
theorem comes_closed {p : AP} {f : FuncId} {v : V} (n : Nat) (hi : p.inl f = false) (hg : gr v = true) (hv : nrm v = v) (h : (acall p n f [] []).map (fun x => (x.1, x.2.length)) = some (.ret v, 0)) : Comes p f [] v := by
  cases hc : acall p n f [] [] with
  | none => rw [hc] at h; cases h
  | some x =>
    rw [hc] at h
    obtain ⟨r, H⟩ := x
    simp at h
    obtain ⟨rfl, rfl⟩ := h
    exact ⟨rfl, hg, by simp, n, v, [], hc, .inr ⟨hi, v, [], by unfold gr at hg; rw [Bool.and_eq_true] at hg; exact freeze_gr _ _ _ hg.1 hg.2, hv⟩⟩
theorem lawake : Comes p 7 [] (.bool true) := by
  have h : (acall p 60 7 [] []).map (fun x => x.1) = some (.ret (.bool true)) := by kernel_rfl
  cases hc : acall p 60 7 [] [] with
  | none => rw [hc] at h; cases h
  | some x =>
    rw [hc] at h
    obtain ⟨r, H⟩ := x
    simp at h
    subst h
    exact ⟨rfl, by simp, by simp, 60, _, H, hc, .inr ⟨rfl, .bool true, H, freeze_gr _ _ _ rfl rfl, by simp⟩⟩
def yes : CR → List Ob → Prop := fun r _ => r = .ret (.bool true)
@[simp] theorem yes_ret {v : V} {H : List Ob} : yes (.ret v) H = (v = .bool true) := by simp [yes]
end Fz.H
