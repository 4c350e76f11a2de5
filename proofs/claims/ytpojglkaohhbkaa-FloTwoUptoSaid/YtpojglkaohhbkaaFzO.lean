/- What is made to stay stays what it was. -/
import Derived.Test.YtpojglkaohhbkaaFzN
namespace Fz
open Go

theorem mapS_sound {f : V → List Ob → Option (V × List Ob)} {β : Bi} {w : World}
    (hf : ∀ v H v' H', f v H = some (v', H') → ∀ K c, Inv K β H w → VR K β v c → ∃ K', Inv K' β H' w ∧ Ev K β H w K' β H' w ∧ VR K' β v' c) :
    ∀ (l : List V) (H : List Ob) (l' : List V) (H' : List Ob), mapS f l H = some (l', H') → ∀ K cs, Inv K β H w → LR K β l cs → ∃ K', Inv K' β H' w ∧ Ev K β H w K' β H' w ∧ LR K' β l' cs := by
  intro l
  induction l with
  | nil =>
    intro H l' H' h K cs hI hl
    simp [mapS] at h
    obtain ⟨rfl, rfl⟩ := h
    exact ⟨K, hI, .refl K β H w, hl⟩
  | cons v l ih =>
    intro H l' H' h K cs hI hl
    simp only [mapS] at h
    split at h
    · cases h
    · rename_i v1 H1 hv1
      split at h
      · cases h
      · rename_i l2 H2 hl2
        cases h
        obtain ⟨c, r, rfl, g1, g2⟩ := hl.head
        obtain ⟨K1, i1, e1, r1⟩ := hf v H v1 H1 hv1 K c hI g1
        obtain ⟨K2, i2, e2, r2⟩ := ih _ _ _ hl2 K1 r i1 (g2.mono e1.k fun _ _ h => h)
        exact ⟨K2, i2, e1.trans e2, .cons (r1.mono e2.k fun _ _ h => h) r2⟩

theorem flat_chunks (n : Nat) : ∀ (k : Nat) (l : List V), l.length = k * n → flat (chunks n k l) = l ∧ (chunks n k l).length = k ∧ ∀ v ∈ chunks n k l, (cellsOf v).length = n
  | 0, l, h => by
    have : l = [] := List.eq_nil_of_length_eq_zero (by omega)
    subst this
    simp [chunks, flat]
  | k + 1, l, h => by
    rw [Nat.add_mul] at h
    obtain ⟨h1, h2, h3⟩ := flat_chunks n k (l.drop n) (by simp; omega)
    simp only [chunks]
    refine ⟨?_, by simp [h2], ?_⟩
    · simp only [flat, List.flatMap_cons, cellsOf] at h1 ⊢
      rw [h1, List.take_append_drop]
    · intro v hv
      rcases List.mem_cons.1 hv with rfl | hv
      · simp [cellsOf]; omega
      · exact h3 v hv
theorem flat_leafy : ∀ {l : List V}, l.all leafy = true → flat l = l ∧ ∀ v ∈ l, (cellsOf v).length = 1
  | [], _ => by simp [flat]
  | v :: l, h => by
    simp only [List.all_cons, Bool.and_eq_true] at h
    obtain ⟨h1, h2⟩ := flat_leafy h.2
    have hc : cellsOf v = [v] := by
      cases v <;> first | rfl | (have := h.1; simp [leafy] at this)
    refine ⟨?_, ?_⟩
    · simp only [flat, List.flatMap_cons, hc] at h1 ⊢
      rw [h1]; rfl
    · intro u hu
      rcases List.mem_cons.1 hu with rfl | hu
      · rw [hc]; rfl
      · exact h2 u hu
theorem chunk_flat {n len : Nat} {l : List V} (hl : l.length = len * n) (h : n ≠ 1 ∨ l.all leafy = true) :
    flat (chunk n len l) = l ∧ (chunk n len l).length = len ∧ ∀ v ∈ chunk n len l, (cellsOf v).length = n := by
  unfold chunk
  by_cases e : n = 1
  · subst e
    have hall := h.resolve_left (by simp)
    rw [if_pos rfl, List.take_of_length_le (by omega)]
    obtain ⟨h1, h2⟩ := flat_leafy hall
    exact ⟨h1, by omega, h2⟩
  · rw [if_neg e]; exact flat_chunks n len l hl

/-- Cells of a block that stays, as a list. -/
theorem list_of {K : Kn} {β : Bi} {b off len n cap : Nat} {cs : Array Value} {e : TypeId} {fr : Nat × Nat} {x : List V} (hb : K.fixed b = some (.cells cs e fr)) (hle : off + len * n ≤ cs.size) (hn : n ≠ 0) (hc : len ≤ cap)
    (hx : LR K β x ((cs.toList.drop off).take (len * n))) (h : n ≠ 1 ∨ x.all leafy = true) : VR K β (.list (chunk n len x) false) (.slice (some ⟨b, off, none⟩) len cap) := by
  have hxl : x.length = len * n := by rw [hx.1]; simp; omega
  obtain ⟨h1, h2, h3⟩ := chunk_flat hxl h
  have := VR.list (K := K) (β := β) (l := chunk n len x) (c := false) (b := b) (o := off) (n := n) (cap := cap) hb h3 hn (by rw [h2]; exact hle) (by rw [h2]; exact hc) (by simp) ?_
  · rw [h2] at this; exact this
  · intro i v hv
    rw [h1] at hv
    obtain ⟨c, hc', hvc⟩ := hx.get hv
    have hi : i < len * n := by rw [← hxl]; exact (List.getElem?_eq_some_iff.1 hv).1
    simp [List.getElem?_take, hi] at hc'
    simpa [Array.getD_eq_getD_getElem?, hc'] using hvc

theorem freezeV_sound {β : Bi} {w : World} : ∀ (k : Nat) (v : V) (H : List Ob) (v' : V) (H' : List Ob), freezeV k v H = some (v', H') → ∀ K c, Inv K β H w → VR K β v c →
    ∃ K', Inv K' β H' w ∧ Ev K β H w K' β H' w ∧ VR K' β v' c := by
  intro k
  induction k with
  | zero => intro v H v' H' h; simp [freezeV] at h
  | succ k ih =>
    intro v H v' H' h K c hI hv
    have hm := mapS_sound (f := freezeV k) (β := β) (w := w) ih
    unfold freezeV at h
    split at h
    · rename_i id off len n
      cases hv with
      | own hβ hz hl hz' hnn =>
        rename_i b cap z
        split at h
        · rename_i l ho
          split at h
          · rename_i hcond
            split at h
            · rename_i x H1 hx
              split at h <;> cases h
              rename_i hleaf
              obtain ⟨b', cs, e, g1, g2, g3, g4, g5⟩ := hI.obj id _ ho
              rw [hβ] at g1; cases g1
              have hK1 : K.le (fixK K b (.cells cs e (0, 0))) := fixK_le g2
              have hfx : (fixK K b (.cells cs e (0, 0))).fixed b = some (.cells cs e (0, 0)) := by simp [fixK]
              obtain ⟨f1, f2, f3⟩ := hI.fix (o' := .fixed l) ho rfl hβ g4 g2 rfl ⟨b, cs, e, (0, 0), hβ, hfx, g3, g5.mono hK1 fun _ _ h => h⟩
              have hlr := seen_of (w := w) (b := b) (o := off) (n := len * n) (k := 0) g4 (by have := g5.1; omega) (by simpa using g5.2) off (by omega) hcond.1
              obtain ⟨K2, q1, q2, q3⟩ := hm _ _ _ _ hx _ _ f2 (hlr.rel.mono hK1 fun _ _ h => h)
              refine ⟨K2, q1, f3.trans q2, list_of (q2.k.1 _ _ hfx) (by have := g5.1; omega) hcond.2 hl q3 hleaf⟩
            · cases h
          · cases h
        · rename_i l ho
          split at h
          · rename_i hcond
            split at h
            · rename_i x H1 hx
              split at h <;> cases h
              rename_i hleaf
              obtain ⟨b', cs, e, fr, g1, g2, g3, g5⟩ := hI.obj id _ ho
              rw [hβ] at g1; cases g1
              have hlr := seen_of (w := w) (b := b) (o := off) (n := len * n) (k := 0) (hI.fixed _ _ g2) (by have := g5.1; omega) (by simpa using g5.2) off (by omega) hcond.1
              obtain ⟨K2, q1, q2, q3⟩ := hm _ _ _ _ hx _ _ hI hlr.rel
              exact ⟨K2, q1, q2, list_of (q2.k.1 _ _ g2) (by have := g5.1; omega) hcond.2 hl q3 hleaf⟩
            · cases h
          · cases h
        · cases h
    · rename_i id
      cases hv with
      | mref hβ =>
        rename_i b
        split at h
        · rename_i ks vs ho
          cases h
          obtain ⟨b', es, clock, g1, g2, g3, g4, g5, g6, g7⟩ := hI.obj id _ ho
          rw [hβ] at g1; cases g1
          obtain ⟨f1, f2, f3⟩ := hI.fix (o' := .dead) ho rfl hβ g3 g2 rfl trivial
          have hfx : (fixK K b (.map es clock)).fixed b = some (.map es clock) := by simp [fixK]
          exact ⟨_, f2, f3, .map hfx g4 g5 (fun i v hv => (g6 i v hv).mono f1 fun _ _ h => h) fun i v hv => (g7 i v hv).mono f1 fun _ _ h => h⟩
        · cases h
    · cases hv with
      | agg hl hc =>
        simp only [Option.map_eq_some_iff] at h
        obtain ⟨⟨x, H1⟩, hx, h⟩ := h
        cases h
        obtain ⟨K2, q1, q2, q3⟩ := hm _ _ _ _ hx _ _ hI (LR.of_arr hl hc)
        exact ⟨K2, q1, q2, .agg q3.to_arr.1 q3.to_arr.2⟩
    · cases hv with
      | tuple hl hc =>
        simp only [Option.map_eq_some_iff] at h
        obtain ⟨⟨x, H1⟩, hx, h⟩ := h
        cases h
        obtain ⟨K2, q1, q2, q3⟩ := hm _ _ _ _ hx _ _ hI (LR.of_arr hl hc)
        exact ⟨K2, q1, q2, .tuple q3.to_arr.1 q3.to_arr.2⟩
    · cases h
      exact ⟨K, hI, .refl K β H w, hv⟩

/-- An object told in other words. -/
theorem Inv.retell {K : Kn} {β : Bi} {H : List Ob} {w : World} (h : Inv K β H w) {id : Nat} {l l' : List V} (hi : H[id]? = some (.live l))
    (hl : ∀ b cs e fr, β id = some b → w.heap[b]? = some (.cells cs e fr) → CsR K β l' cs) : Inv K β (H.set id (.live l')) w ∧ Ev K β H w K β (H.set id (.live l')) w := by
  obtain ⟨b, cs, e, g1, g2, g3, g4, g5⟩ := h.obj id _ hi
  refine h.put hi g1 g4 rfl (hl b cs e _ g1 g4) (fun x => ?_) rfl rfl rfl rfl
  by_cases ex : x = b
  · subst ex; rw [if_pos rfl]; exact g4
  · rw [if_neg ex]

theorem freezeObs_sound {β : Bi} {w : World} {K0 : Kn} {H0 : List Ob} (h0 : Inv K0 β H0 w) : ∀ (os : List Ob) (i : Nat) (H H' : List Ob), freezeObs i os H = some H' → (∀ j o, os[j]? = some o → H0[i + j]? = some o) →
    ∀ K, K0.le K → Inv K β H w → ∃ K', Inv K' β H' w ∧ Ev K β H w K' β H' w := by
  intro os
  induction os with
  | nil => intro i H H' h _ K _ hI; simp [freezeObs] at h; subst h; exact ⟨K, hI, .refl K β H w⟩
  | cons o os ih =>
    intro i H H' h hos K hK hI
    have hos' : ∀ j o', os[j]? = some o' → H0[i + 1 + j]? = some o' := fun j o' hj => by
      have := hos (j + 1) o' (by simpa using hj)
      rwa [show i + 1 + j = i + (j + 1) from by omega]
    have hi0 := hos 0 o (by simp)
    simp only [Nat.add_zero] at hi0
    have skip : ∀ {H2}, freezeObs (i + 1) os H2 = some H' → ∀ K2, Inv K2 β H2 w → Ev K β H w K2 β H2 w → ∃ K', Inv K' β H' w ∧ Ev K β H w K' β H' w := by
      intro H2 h2 K2 i2 e2
      obtain ⟨K3, i3, e3⟩ := ih (i + 1) H2 H' h2 hos' K2 (Kn.le_trans hK e2.k) i2
      exact ⟨K3, i3, e2.trans e3⟩
    cases o with
    | live l =>
      simp only [freezeObs] at h
      split at h
      · rename_i l' H1 hm
        obtain ⟨b, cs, e, g1, g2, g3, g4, g5⟩ := h0.obj i _ hi0
        have hlr : LR K0 β l (cs.toList.take l.length) := by
          refine ⟨by have := g5.1; simp; omega, fun j v hv => ?_⟩
          have hil : j < l.length := (List.getElem?_eq_some_iff.1 hv).1
          have := g5.2 j v hv
          simpa [List.getD, List.getElem?_take, hil, Array.getD_eq_getD_getElem?] using this
        obtain ⟨K1, i1, e1, r1⟩ := mapS_sound (f := freezeV depthF) (β := β) (w := w) (freezeV_sound depthF) _ _ _ _ hm K _ hI (hlr.mono hK fun _ _ h => h)
        split at h
        · rename_i l2 ho2
          obtain ⟨i2, e2⟩ := i1.retell (l' := l') ho2 (fun b' cs' e' fr' hb hw => by
            rw [g1] at hb; cases hb
            rw [g4] at hw; cases hw
            refine ⟨by rw [r1.1]; simp; omega, fun j v hv => ?_⟩
            obtain ⟨c, hc, hvc⟩ := r1.get hv
            have hj : j < l.length := by
              have := (List.getElem?_eq_some_iff.1 hv).1
              rw [r1.1] at this; simp at this; omega
            simp [List.getElem?_take, hj] at hc
            simpa [Array.getD_eq_getD_getElem?, hc] using hvc)
          exact skip h K1 i2 (e1.trans e2)
        · exact skip h K1 i1 e1
      · cases h
    | fixed l => exact skip (by simpa [freezeObs] using h) K hI (.refl K β H w)
    | dead => exact skip (by simpa [freezeObs] using h) K hI (.refl K β H w)
    | mlive ks vs => exact skip (by simpa [freezeObs] using h) K hI (.refl K β H w)
    | iter s p => exact skip (by simpa [freezeObs] using h) K hI (.refl K β H w)
end Fz
