import Derived.Test.YtophcnbabhigmaaFzHL
set_option maxRecDepth 100000
namespace Fz.H
open Go
def addR (h : Hi) (b : List Int) : Hi := let r := evA h.bud h.lo (h.recs ++ [b]) h.snaps
  { h with top := h.top + 1, lo := r.1, recs := r.2.1, snaps := r.2.2 }
theorem radd (h : Hi) (b : List Int) (ho : Hi.ok { h with top := h.top + 1, recs := h.recs ++ [b] }) (hb : 0 ≤ h.bud) : Comes p 24 [hiV h, byV b] (hiV (addR h b)) := by
  have he := revict _ ho hb _ rfl
  obtain ⟨bud, per, lo, top, recs, snaps⟩ := h
  obtain ⟨h, hl, h', hl', hlo, hlo', ht, ht'⟩ := ho
  simp only [addR] at *
  have hw : IntKind.i64.wrap (top + 1) = top + 1 := w64 (by omega) (by omega)
  refine Comes_of w24 rfl rfl k24 ?_ ?_ ?_ ?_
  · simp
  · simp
  · simp
  · simp only [hiV, recsV, snapsV] at he ⊢
    simp at he hl
    rcases recs with _ | ⟨b0, recs⟩
    · simp -dsimp [w24]
      refine ⟨by simp [capOk], ?_⟩
      rw [hw]
      refine call_frz (by simp) ?_
      simp at he
      simp -dsimp [callN_by he, wFix_by]
    · simp at hl
      simp at he
      simp -dsimp [w24]
      refine ⟨by simp [capOk]; omega, ?_⟩
      refine ⟨by simp [capOk]; omega, ?_⟩
      rw [hw]
      refine call_frz (by simp) ?_
      simp -dsimp [callN_by he, wFix_by, List.take_append_of_le_length, List.take_of_length_le]

def keepR (h : Hi) (b : List Int) : Hi :=
  if h.top.tmod h.per ≠ 0 ∨ lastIs h.snaps h.top = true then h else
    let r := evA h.bud h.lo h.recs (h.snaps ++ [⟨h.top, b⟩])
    { h with lo := r.1, recs := r.2.1, snaps := r.2.2 }
theorem rkeep (h : Hi) (b : List Int) (ho : Hi.ok { h with snaps := h.snaps ++ [⟨h.top, b⟩] }) (hp : 1 ≤ h.per) (hb : 0 ≤ h.bud) : Comes p 23 [hiV h, byV b] (hiV (keepR h b)) := by
  have he := revict _ ho hb _ rfl
  obtain ⟨bud, per, lo, top, recs, snaps⟩ := h
  obtain ⟨h, hl, h', hl', hlo, hlo', ht, ht'⟩ := ho
  simp only at *
  have hp0 : per ≠ 0 := by omega
  refine Comes_of w23 rfl rfl k23 ?_ ?_ ?_ ?_
  · simp
  · simp
  · simp
  · by_cases c1 : top.tmod per = 0
    · by_cases c2 : lastIs snaps top = true
      · have hk : keepR ⟨bud, per, lo, top, recs, snaps⟩ b = ⟨bud, per, lo, top, recs, snaps⟩ := by simp [keepR, c2]
        rw [hk]
        rcases List.eq_nil_or_concat snaps with rfl | ⟨ini, s, rfl⟩
        · simp [lastIs] at c2
        · simp [lastIs] at c2
          have hw : IntKind.i64.wrap (ini.length : Int) = ini.length := by simp at hl'; exact w64 (by omega) (by omega)
          simp -dsimp [w23, wFix_by, hp0, c1, c2, hw, hiV, recsV, snapsV]
      · have hk : keepR ⟨bud, per, lo, top, recs, snaps⟩ b = { (⟨bud, per, lo, top, recs, snaps⟩ : Hi) with lo := (evA bud lo recs (snaps ++ [⟨top, b⟩])).1, recs := (evA bud lo recs (snaps ++ [⟨top, b⟩])).2.1, snaps := (evA bud lo recs (snaps ++ [⟨top, b⟩])).2.2 } := by simp [keepR, c1, c2]
        rw [hk]
        generalize evA bud lo recs (snaps ++ [⟨top, b⟩]) = r at he ⊢
        have hf := length_fm (n := 2) (c := fun s : Sn => [V.int .i64 s.n, byV s.b]) (fun _ => rfl) snaps
        have hl3 : snaps.length < 1000 := by simp at hl'; omega
        have hck : ∀ (K : List V → Prop), wChunk 2 (snaps.length + 1) (snaps.flatMap (fun s : Sn => [V.int .i64 s.n, byV s.b]) ++ [V.int .i64 top, byV b]) K = K ((snaps ++ [(⟨top, b⟩ : Sn)]).map snV) := fun K => by
          rw [← wChunk_fm (n := 2) (m := snaps.length + 1) (by decide) (f := snV) (c := fun s => [.int .i64 s.n, byV s.b]) (l := snaps ++ [(⟨top, b⟩ : Sn)]) (K := K) (fun _ => rfl) (fun _ => rfl) (by simp)]
          simp
        simp only [hiV, recsV, snapsV] at he ⊢
        rcases List.eq_nil_or_concat snaps with hs | ⟨ini, s, hs⟩
        · subst hs
          simp at hck he
          simp -dsimp [w23, wFix_by, hp0, c1]
          refine ⟨by simp [capOk]; try omega, ?_⟩
          refine call_frz (by simp) ?_
          simp -dsimp [hck, callN_by he, wFix_by]
        · rw [List.concat_eq_append] at hs
          have hl2 : ini.length + 1 < 1000 := by rw [hs] at hl3; simpa using hl3
          have hw : IntKind.i64.wrap (ini.length : Int) = ini.length := w64 (by omega) (by omega)
          subst hs
          have c3 : ¬ s.n = top := by simpa [lastIs] using c2
          simp at hck hf he
          simp -dsimp [w23, wFix_by, hp0, c1, c3, hw]
          refine ⟨by simp [capOk]; try omega, ?_⟩
          have htk : (ini.flatMap (fun s => [V.int .i64 s.n, byV s.b]) ++ [V.int .i64 s.n, byV s.b, V.int .i64 top, byV b]).take ((ini.length + 1 + 1) * 2) = (ini.flatMap (fun s => [V.int .i64 s.n, byV s.b]) ++ [V.int .i64 s.n, byV s.b, V.int .i64 top, byV b]) :=
            List.take_of_length_le (by simp; omega)
          have htk2 : (ini.flatMap (fun s => [V.int .i64 s.n, byV s.b]) ++ [V.int .i64 s.n, byV s.b]).take ((ini.length + 1) * 2) = (ini.flatMap (fun s => [V.int .i64 s.n, byV s.b]) ++ [V.int .i64 s.n, byV s.b]) :=
            List.take_of_length_le (by simp; omega)
          rw [htk2, List.append_assoc]
          refine ⟨⟨by omega, by simp [capOk]; try omega⟩, ?_⟩
          simp only [List.cons_append, List.nil_append]
          refine call_frz (by simp) ?_
          simp -dsimp [hck, htk, callN_by he, wFix_by, List.map_flatMap]
          omega
    · have hk : keepR ⟨bud, per, lo, top, recs, snaps⟩ b = ⟨bud, per, lo, top, recs, snaps⟩ := by simp [keepR, c1]
      rw [hk]
      simp -dsimp [w23, wFix_by, hp0, c1, hiV, recsV, snapsV]
end Fz.H
