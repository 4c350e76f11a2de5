import Derived.Test.YtophcnbabhigmaaFzHI
set_option maxRecDepth 100000
namespace Fz.H
open Go
/-- Is the last state one of this step? -/
def lastIs (snaps : List Sn) (top : Int) : Bool := match snaps.getLast? with
  | some s => decide (s.n = top)
  | none => false
/-- Behind a state. -/
def keepH (h : Hi) (b : List Int) : Hi :=
  if h.top.tmod h.per ≠ 0 ∨ lastIs h.snaps h.top = true then h else
    let r := ev h.bud h.lo h.recs (h.snaps ++ [⟨h.top, b⟩])
    { h with lo := r.1, recs := r.2.1, snaps := r.2.2 }
theorem hkeep (h : Hi) (b : List Int) (ho : Hi.ok { h with snaps := h.snaps ++ [⟨h.top, b⟩] }) (hp : 1 ≤ h.per) : Comes p 22 [hiV h, byV b] (hiV (keepH h b)) := by
  have he := hevict _ ho _ rfl
  obtain ⟨bud, per, lo, top, recs, snaps⟩ := h
  obtain ⟨h, hl, h', hl', hlo, hlo', ht, ht'⟩ := ho
  simp only at *
  have hp0 : per ≠ 0 := by omega
  refine Comes_of w22 rfl rfl k22 ?_ ?_ ?_ ?_
  · simp
  · simp
  · simp
  · by_cases c1 : top.tmod per = 0
    · by_cases c2 : lastIs snaps top = true
      · have hk : keepH ⟨bud, per, lo, top, recs, snaps⟩ b = ⟨bud, per, lo, top, recs, snaps⟩ := by simp [keepH, c2]
        rw [hk]
        rcases List.eq_nil_or_concat snaps with rfl | ⟨ini, s, rfl⟩
        · simp [lastIs] at c2
        · simp [lastIs] at c2
          have hw : IntKind.i64.wrap (ini.length : Int) = ini.length := by simp at hl'; exact w64 (by omega) (by omega)
          simp -dsimp [w22, wFix_by, hp0, c1, c2, hw, hiV, recsV, snapsV]
      · have hk : keepH ⟨bud, per, lo, top, recs, snaps⟩ b = { (⟨bud, per, lo, top, recs, snaps⟩ : Hi) with lo := (ev bud lo recs (snaps ++ [⟨top, b⟩])).1, recs := (ev bud lo recs (snaps ++ [⟨top, b⟩])).2.1, snaps := (ev bud lo recs (snaps ++ [⟨top, b⟩])).2.2 } := by simp [keepH, c1, c2]
        rw [hk]
        generalize ev bud lo recs (snaps ++ [⟨top, b⟩]) = r at he ⊢
        have hf := length_fm (n := 2) (c := fun s : Sn => [V.int .i64 s.n, byV s.b]) (fun _ => rfl) snaps
        have hl3 : snaps.length < 1000 := by simp at hl'; omega
        have hck : ∀ (K : List V → Prop), wChunk 2 (snaps.length + 1) (snaps.flatMap (fun s : Sn => [V.int .i64 s.n, byV s.b]) ++ [V.int .i64 top, byV b]) K = K ((snaps ++ [(⟨top, b⟩ : Sn)]).map snV) := fun K => by
          rw [← wChunk_fm (n := 2) (m := snaps.length + 1) (by decide) (f := snV) (c := fun s => [.int .i64 s.n, byV s.b]) (l := snaps ++ [(⟨top, b⟩ : Sn)]) (K := K) (fun _ => rfl) (fun _ => rfl) (by simp)]
          simp
        have hnr : (nrm ∘ snV) = snV := snV.nrc
        simp only [hiV, recsV, snapsV] at he ⊢
        rcases List.eq_nil_or_concat snaps with hs | ⟨ini, s, hs⟩
        · have hc := clip2 snaps false
          subst hs
          simp at hc hck he
          simp -dsimp [w22, wFix_by, hp0, c1, quiet_by hc]
          refine ⟨by simp [capOk]; try omega, ?_⟩
          refine call_frz (by simp) ?_
          simp -dsimp [hck, callN_by he, wFix_by]
        · rw [List.concat_eq_append] at hs
          have hc := clip2 snaps false
          have hl2 : ini.length + 1 < 1000 := by rw [hs] at hl3; simpa using hl3
          have hw : IntKind.i64.wrap (ini.length : Int) = ini.length := w64 (by omega) (by omega)
          subst hs
          have c3 : ¬ s.n = top := by simpa [lastIs] using c2
          simp at hc hck hf he
          simp -dsimp [w22, wFix_by, hp0, c1, c3, hw, quiet_by hc]
          refine ⟨by simp [capOk]; try omega, ?_⟩
          refine call_frz (by simp) ?_
          have htk : (ini.flatMap (fun s => [V.int .i64 s.n, byV s.b]) ++ [V.int .i64 s.n, byV s.b, V.int .i64 top, byV b]).take ((ini.length + 1 + 1) * 2) = (ini.flatMap (fun s => [V.int .i64 s.n, byV s.b]) ++ [V.int .i64 s.n, byV s.b, V.int .i64 top, byV b]) :=
            List.take_of_length_le (by simp; omega)
          simp -dsimp [hck, htk, callN_by he, wFix_by, List.map_flatMap]

          omega
    · have hk : keepH ⟨bud, per, lo, top, recs, snaps⟩ b = ⟨bud, per, lo, top, recs, snaps⟩ := by simp [keepH, c1]
      rw [hk]
      simp -dsimp [w22, wFix_by, hp0, c1, hiV, recsV, snapsV]
end Fz.H
