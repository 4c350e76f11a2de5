/- A call goes by the objects that can be come to from its arguments alone. -/
import Derived.Test.YtpojglkaohhbkaaFzO
namespace Fz
open Go

/-- What is found: each is there, none twice, and what they name is among them. -/
theorem reach_sound {H : List Ob} : ∀ (k : Nat) (todo seen ids : List Nat), reach H k todo seen = some ids → seen.Nodup → (∀ i ∈ seen, i < H.length) →
    (∀ i ∈ seen, ∀ o, H[i]? = some o → ∀ j ∈ refsOb o, j ∈ seen ∨ j ∈ todo) →
    ids.Nodup ∧ (∀ i ∈ ids, i < H.length) ∧ (∀ i ∈ ids, ∀ o, H[i]? = some o → ∀ j ∈ refsOb o, j ∈ ids) ∧ (∀ i ∈ seen, i ∈ ids) ∧ (∀ i ∈ todo, i ∈ ids) := by
  intro k
  induction k with
  | zero => intro todo seen ids h; simp [reach] at h
  | succ k ih =>
    intro todo seen ids h hnd hlt hcl
    cases todo with
    | nil =>
      simp [reach] at h; subst h
      exact ⟨hnd, hlt, fun i hi o ho j hj => (hcl i hi o ho j hj).resolve_right (by simp), fun _ h => h, by simp⟩
    | cons i todo =>
      simp only [reach] at h
      split at h
      · rename_i hc
        have hi : i ∈ seen := by simpa using hc
        obtain ⟨g1, g2, g3, g4, g5⟩ := ih todo seen ids h hnd hlt fun a ha o ho j hj => by
          rcases hcl a ha o ho j hj with h | h
          · exact .inl h
          · rcases List.mem_cons.1 h with rfl | h
            · exact .inl hi
            · exact .inr h
        refine ⟨g1, g2, g3, g4, fun a ha => ?_⟩
        rcases List.mem_cons.1 ha with rfl | ha
        · exact g4 _ hi
        · exact g5 a ha
      · rename_i hc
        have hi : i ∉ seen := by simpa using hc
        split at h
        · rename_i o ho
          have hil : i < H.length := (List.getElem?_eq_some_iff.1 ho).1
          obtain ⟨g1, g2, g3, g4, g5⟩ := ih (todo ++ refsOb o) (seen ++ [i]) ids h
            (List.nodup_append.2 ⟨hnd, by simp, fun a ha b hb => by simp at hb; subst hb; rintro rfl; exact hi ha⟩)
            (fun a ha => by
              rcases List.mem_append.1 ha with ha | ha
              · exact hlt a ha
              · simp at ha; subst ha; exact hil)
            (fun a ha o' ho' j hj => by
              rcases List.mem_append.1 ha with ha | ha
              · rcases hcl a ha o' ho' j hj with h | h
                · exact .inl (List.mem_append_left _ h)
                · rcases List.mem_cons.1 h with rfl | h
                  · exact .inl (by simp)
                  · exact .inr (List.mem_append_left _ h)
              · simp at ha; subst ha
                rw [ho] at ho'; cases ho'
                exact .inr (List.mem_append_right _ hj))
          refine ⟨g1, g2, g3, fun a ha => g4 a (List.mem_append_left _ ha), fun a ha => ?_⟩
          rcases List.mem_cons.1 ha with rfl | ha
          · exact g4 _ (by simp)
          · exact g5 a (List.mem_append_left _ ha)
        · cases h

theorem renOb_live (g : Nat → Nat) (o : Ob) : (renOb g o).isLive = o.isLive := by cases o <;> rfl

theorem LR.ren {K K' : Kn} {β β' : Bi} {g : Nat → Nat} (hK : K.le K') {l : List V} {cs : List Value} (h : LR K β l cs) (hg : ∀ i ∈ refsL l, ∀ b, β i = some b → β' (g i) = some b) : LR K' β' (renL g l) cs := by
  rw [renL_eq]
  refine ⟨by simp [h.1], fun i v hv => ?_⟩
  rw [List.getElem?_map] at hv
  obtain ⟨u, hu, rfl⟩ := Option.map_eq_some_iff.1 hv
  exact (h.2 i u hu).ren hK fun j hj => hg j (by rw [refsL_eq]; exact List.mem_flatMap.2 ⟨u, List.mem_of_getElem? hu, hj⟩)

theorem ObR.ren {K K' : Kn} {β β' : Bi} {g : Nat → Nat} {w w' : World} (hK : K.le K') {i j : Nat} {o : Ob} (h : ObR K β w i o) (hb : ∀ b, o.isLive = true → β i = some b → β' j = some b) (hb' : ∀ b, o.isLive = false → β i = some b → β' j = some b)
    (hg : ∀ i ∈ refsOb o, ∀ b, β i = some b → β' (g i) = some b) (hf : ∀ b, o.isLive = true → β i = some b → K.fixed b = none → K'.fixed b = none ∧ w'.heap[b]? = w.heap[b]?) : ObR K' β' w' j (renOb g o) := by
  have cs : ∀ {l : List V} {cs : Array Value}, CsR K β l cs → (∀ i ∈ refsL l, ∀ b, β i = some b → β' (g i) = some b) → CsR K' β' (renL g l) cs := by
    intro l cs h hg
    rw [renL_eq]
    refine ⟨by simpa using h.1, fun i v hv => ?_⟩
    rw [List.getElem?_map] at hv
    obtain ⟨u, hu, rfl⟩ := Option.map_eq_some_iff.1 hv
    exact (h.2 i u hu).ren hK fun j hj => hg j (by rw [refsL_eq]; exact List.mem_flatMap.2 ⟨u, List.mem_of_getElem? hu, hj⟩)
  have vs : ∀ {l : List V} {f : Nat → Value}, (∀ i v, l[i]? = some v → VR K β v (f i)) → (∀ i ∈ refsL l, ∀ b, β i = some b → β' (g i) = some b) → ∀ i v, (renL g l)[i]? = some v → VR K' β' v (f i) := by
    intro l f h hg i v hv
    rw [renL_eq, List.getElem?_map] at hv
    obtain ⟨u, hu, rfl⟩ := Option.map_eq_some_iff.1 hv
    exact (h i u hu).ren hK fun j hj => hg j (by rw [refsL_eq]; exact List.mem_flatMap.2 ⟨u, List.mem_of_getElem? hu, hj⟩)
  cases o with
  | live l =>
    obtain ⟨b, c, e, h1, h2, h3, h4, h5⟩ := h
    obtain ⟨g1, g2⟩ := hf b rfl h1 h2
    exact ⟨b, c, e, hb b rfl h1, g1, hK.2 _ _ h3, g2.trans h4, cs h5 hg⟩
  | fixed l =>
    obtain ⟨b, c, e, fr, h1, h2, h3, h5⟩ := h
    exact ⟨b, c, e, fr, hb' b rfl h1, hK.1 _ _ h2, hK.2 _ _ h3, cs h5 hg⟩
  | dead => trivial
  | mlive ks us =>
    obtain ⟨b, es, clock, h1, h2, h4, h5, h6, h7, h8⟩ := h
    obtain ⟨g1, g2⟩ := hf b rfl h1 h2
    exact ⟨b, es, clock, hb b rfl h1, g1, g2.trans h4, by rw [renL_eq]; simpa using h5, by rw [renL_eq]; simpa using h6, vs h7 fun i hi => hg i (List.mem_append_left _ hi), vs h8 fun i hi => hg i (List.mem_append_right _ hi)⟩
  | iter s pos =>
    obtain ⟨b, h1, h2, h4⟩ := h
    obtain ⟨g1, g2⟩ := hf b rfl h1 h2
    exact ⟨b, hb b rfl h1, g1, g2.trans h4⟩

/-- The numbers of a call's own heap, in the caller's. -/
def locB (β : Bi) (ids : List Nat) : Bi := fun j => (ids[j]?).bind β

theorem idx_get {ids : List Nat} {i : Nat} (h : i ∈ ids) : ids[ids.idxOf i]? = some i := by
  have hl := List.idxOf_lt_length_of_mem h
  rw [List.getElem?_eq_getElem hl, List.getElem_idxOf hl]

theorem local_inv {K : Kn} {β : Bi} {H : List Ob} {w : World} (hI : Inv K β H w) {ids : List Nat} (hnd : ids.Nodup) (hlt : ∀ i ∈ ids, i < H.length) (hcl : ∀ i ∈ ids, ∀ o, H[i]? = some o → ∀ j ∈ refsOb o, j ∈ ids) :
    Inv K (locB β ids) (ids.map fun i => renOb (fun i => ids.idxOf i) (H[i]?.getD .dead)) w := by
  have get : ∀ (j : Nat) (o : Ob), (ids.map fun i => renOb (fun i => ids.idxOf i) (H[i]?.getD .dead))[j]? = some o → ∃ (i : Nat) (o' : Ob), ids[j]? = some i ∧ H[i]? = some o' ∧ o = renOb (fun i => ids.idxOf i) o' := by
    intro j o ho
    rw [List.getElem?_map] at ho
    obtain ⟨i, hi, rfl⟩ := Option.map_eq_some_iff.1 ho
    have hil := hlt i (List.mem_of_getElem? hi)
    exact ⟨i, H[i], hi, List.getElem?_eq_getElem hil, by rw [List.getElem?_eq_getElem hil]; rfl⟩
  refine ⟨hI.fixed, hI.size, fun j b hj => ?_, fun j o ho => ?_, fun j k b hj hk h1 h2 => ?_⟩
  · unfold locB at hj
    obtain ⟨i, hi, _⟩ := Option.bind_eq_some_iff.1 hj
    simpa using (List.getElem?_eq_some_iff.1 hi).1
  · obtain ⟨i, o', hi, ho', rfl⟩ := get j o ho
    have himem := List.mem_of_getElem? hi
    refine (hI.obj i o' ho').ren K.le_refl ?_ ?_ ?_ ?_
    · intro b _ hb; simp [locB, hi, hb]
    · intro b _ hb; simp [locB, hi, hb]
    · intro q hq b hb
      have := hcl i himem o' ho' q hq
      simp [locB, idx_get this, hb]
    · intro b _ _ hf; exact ⟨hf, rfl⟩
  · obtain ⟨o1, ho1, hl1⟩ := hj
    obtain ⟨o2, ho2, hl2⟩ := hk
    obtain ⟨i1, o1', hi1, ho1', rfl⟩ := get j o1 ho1
    obtain ⟨i2, o2', hi2, ho2', rfl⟩ := get k o2 ho2
    simp only [locB, hi1, Option.bind_some] at h1
    simp only [locB, hi2, Option.bind_some] at h2
    rw [renOb_live] at hl1 hl2
    have := hI.inj i1 i2 b ⟨_, ho1', hl1⟩ ⟨_, ho2', hl2⟩ h1 h2
    subst this
    have e1 := (List.getElem?_eq_some_iff.1 hi1)
    have e2 := (List.getElem?_eq_some_iff.1 hi2)
    obtain ⟨q1, q2⟩ := e1
    obtain ⟨q3, q4⟩ := e2
    have hp := List.pairwise_iff_getElem.1 hnd
    rcases Nat.lt_trichotomy j k with h | h | h
    · exact absurd (q2.trans q4.symm) (hp j k q1 q3 h)
    · exact h
    · exact absurd (q4.trans q2.symm) (hp k j q3 q1 h)

theorem setAll_length : ∀ (is : List Nat) (os : List Ob) (H : List Ob), (setAll H is os).length = H.length
  | [], os, H => by cases os <;> rfl
  | i :: is, [], H => rfl
  | i :: is, o :: os, H => by simp [setAll, setAll_length is os]
theorem setAll_other : ∀ (is : List Nat) (os : List Ob) (H : List Ob) (i : Nat), i ∉ is → (setAll H is os)[i]? = H[i]?
  | [], os, H, i, _ => by cases os <;> rfl
  | j :: is, [], H, i, _ => rfl
  | j :: is, o :: os, H, i, h => by
    simp only [setAll]
    rw [setAll_other is os _ i (fun hi => h (by simp [hi])), set_get (fun hh => h (by simp [hh]))]
theorem setAll_at : ∀ (is : List Nat) (os : List Ob) (H : List Ob), is.Nodup → is.length = os.length → (∀ i ∈ is, i < H.length) → ∀ (j i : Nat), is[j]? = some i → (setAll H is os)[i]? = os[j]?
  | [], os, H, _, _, _, j, i, h => by simp at h
  | k :: is, [], H, _, hl, _, j, i, h => by simp at hl
  | k :: is, o :: os, H, hnd, hl, hlt, j, i, h => by
    simp only [setAll]
    obtain ⟨h1, h2⟩ := List.nodup_cons.1 hnd
    cases j with
    | zero =>
      simp at h; subst h
      rw [setAll_other is os _ k h1, List.getElem?_set]
      simp [hlt k (by simp)]
    | succ j =>
      exact setAll_at is os (H.set k o) h2 (by simpa using hl) (fun i hi => by simpa using hlt i (by simp [hi])) j i (by simpa using h)

/-- The caller's numbers behind a call. -/
def backN (ids : List Nat) (n : Nat) (j : Nat) : Nat := if j < ids.length then ids[j]?.getD 0 else n + (j - ids.length)
def backB (β β2 : Bi) (ids : List Nat) (n : Nat) (keep : Bool) : Bi := fun i => if i < n then β i else if keep then β2 (ids.length + (i - n)) else none

theorem back_inv {K K3 : Kn} {β β2 : Bi} {H Hl3 : List Ob} {w w2 : World} (hI : Inv K β H w) {ids : List Nat} (hnd : ids.Nodup) (hlt : ∀ i ∈ ids, i < H.length) {Hl : List Ob} (hHl : Hl = ids.map fun i => renOb (fun i => ids.idxOf i) (H[i]?.getD .dead))
    (hI3 : Inv K3 β2 Hl3 w2) (hE3 : Ev K (locB β ids) Hl w K3 β2 Hl3 w2) (keep : Bool)
    (hkeep : keep = false → ∀ o ∈ Hl3.take ids.length, ∀ j ∈ refsOb o, j < ids.length) :
    let β' := backB β β2 ids H.length keep
    let H' := setAll H ids ((Hl3.take ids.length).map (renOb (backN ids H.length))) ++ (if keep then (Hl3.drop ids.length).map (renOb (backN ids H.length)) else [])
    Inv K3 β' H' w2 ∧ Ev K β H w K3 β' H' w2 ∧ ∀ j, (keep = false → j < ids.length) → ∀ b, β2 j = some b → β' (backN ids H.length j) = some b := by
  intro β' H'
  have hm : Hl.length = ids.length := by rw [hHl]; simp
  have hm3 : ids.length ≤ Hl3.length := by rw [← hm]; exact hE3.hl
  have hβ' : ∀ i, i < H.length → β' i = β i := fun i hi => if_pos hi
  have hβn : keep = true → ∀ k, β' (H.length + k) = β2 (ids.length + k) := by
    intro hk k
    show (if H.length + k < H.length then _ else if keep = true then _ else _) = _
    rw [if_neg (by omega), if_pos hk, show H.length + k - H.length = k from by omega]
  have hβ2 : ∀ j i, ids[j]? = some i → β2 j = β i := by
    intro j i hj
    have hjl : j < Hl.length := by rw [hm]; exact (List.getElem?_eq_some_iff.1 hj).1
    rw [hE3.bx j hjl]; simp [locB, hj]
  have hmap : ∀ j, (keep = false → j < ids.length) → ∀ b, β2 j = some b → β' (backN ids H.length j) = some b := by
    intro j hj b hb
    unfold backN
    by_cases h : j < ids.length
    · rw [if_pos h, List.getElem?_eq_getElem h, Option.getD_some, hβ' _ (hlt _ (List.getElem_mem h)), ← hβ2 j _ (List.getElem?_eq_getElem h)]
      exact hb
    · rw [if_neg h]
      have hk : keep = true := by cases keep with | true => rfl | false => exact absurd (hj rfl) h
      rw [hβn hk, show ids.length + (j - ids.length) = j from by omega]; exact hb
  have hlen0 : (setAll H ids ((Hl3.take ids.length).map (renOb (backN ids H.length)))).length = H.length := setAll_length _ _ _
  have holen : ids.length = ((Hl3.take ids.length).map (renOb (backN ids H.length))).length := by simp; omega
  -- the objects
  have objs : ∀ i o, H'[i]? = some o → (i ∉ ids ∧ i < H.length ∧ H[i]? = some o) ∨
      (∃ j o3, Hl3[j]? = some o3 ∧ o = renOb (backN ids H.length) o3 ∧ i = backN ids H.length j ∧ (j < ids.length ∨ keep = true)) := by
    intro i o ho
    by_cases hi : i < H.length
    · rw [List.getElem?_append_left (by rw [hlen0]; exact hi)] at ho
      by_cases hmem : i ∈ ids
      · right
        have hj := idx_get hmem
        have hjl := (List.getElem?_eq_some_iff.1 hj).1
        rw [setAll_at ids _ H hnd holen hlt _ i hj, List.getElem?_map, List.getElem?_take, if_pos hjl] at ho
        obtain ⟨o3, ho3, rfl⟩ := Option.map_eq_some_iff.1 ho
        exact ⟨ids.idxOf i, o3, ho3, rfl, by simp [backN, hjl, hj], .inl hjl⟩
      · left
        rw [setAll_other ids _ H i hmem] at ho
        exact ⟨hmem, hi, ho⟩
    · right
      rw [List.getElem?_append_right (by rw [hlen0]; omega), hlen0] at ho
      cases hk : keep with
      | false => simp [hk] at ho
      | true =>
        rw [hk, if_pos rfl, List.getElem?_map, List.getElem?_drop] at ho
        obtain ⟨o3, ho3, rfl⟩ := Option.map_eq_some_iff.1 ho
        exact ⟨ids.length + (i - H.length), o3, ho3, rfl, by unfold backN; rw [if_neg (by omega)]; omega, .inr rfl⟩
  have hliveOld : ∀ i, i ∉ ids → liveAt H i → ∀ b, β i = some b → ¬ liveB Hl (locB β ids) b := by
    rintro i hi hl b hb ⟨j, ⟨o, ho, hol⟩, hj⟩
    rw [hHl, List.getElem?_map] at ho
    obtain ⟨q, hq, rfl⟩ := Option.map_eq_some_iff.1 ho
    have hqm := List.mem_of_getElem? hq
    rw [List.getElem?_eq_getElem (hlt q hqm), Option.getD_some, renOb_live] at hol
    simp only [locB, hq, Option.bind_some] at hj
    have := hI.inj i q b hl ⟨_, List.getElem?_eq_getElem (hlt q hqm), hol⟩ hb hj
    subst this; exact hi hqm
  have hsizeOld : ∀ i, liveAt H i → ∀ b, β i = some b → b < w.heap.size ∧ K.fixed b = none := by
    rintro i ⟨o, ho, hl⟩ b hb
    obtain ⟨b', q1, q2, q3⟩ := (hI.obj i o ho).lt hl
    rw [hb] at q1; cases q1; exact ⟨q2, q3⟩
  have hlocal : ∀ b, liveB Hl (locB β ids) b → liveB H β b := by
    rintro b ⟨j, ⟨o, ho, hol⟩, hj⟩
    rw [hHl, List.getElem?_map] at ho
    obtain ⟨q, hq, rfl⟩ := Option.map_eq_some_iff.1 ho
    have hqm := List.mem_of_getElem? hq
    rw [List.getElem?_eq_getElem (hlt q hqm), Option.getD_some, renOb_live] at hol
    simp only [locB, hq, Option.bind_some] at hj
    exact ⟨q, ⟨_, List.getElem?_eq_getElem (hlt q hqm), hol⟩, hj⟩
  -- a live object behind the call: an old one, or one of the call's
  have lives : ∀ i, liveAt H' i → (i ∉ ids ∧ liveAt H i) ∨ ∃ j, i = backN ids H.length j ∧ liveAt Hl3 j ∧ (j < ids.length ∨ keep = true) := by
    rintro i ⟨o, ho, hl⟩
    rcases objs i o ho with ⟨h1, _, h3⟩ | ⟨j, o3, h1, rfl, h3, h4⟩
    · exact .inl ⟨h1, o, h3, hl⟩
    · rw [renOb_live] at hl; exact .inr ⟨j, h3, ⟨o3, h1, hl⟩, h4⟩
  have hβback : ∀ j, (j < ids.length ∨ keep = true) → j < Hl3.length → β' (backN ids H.length j) = β2 j := by
    intro j hj hjl
    unfold backN
    by_cases h : j < ids.length
    · rw [if_pos h, List.getElem?_eq_getElem h, Option.getD_some, hβ' _ (hlt _ (List.getElem_mem h)), hβ2 j _ (List.getElem?_eq_getElem h)]
    · rw [if_neg h, hβn (hj.resolve_left h), show ids.length + (j - ids.length) = j from by omega]
  have hInvOld : ∀ i, i < H.length → ∀ x, β' i = some x → β i = some x := fun i hi x hx => by rw [hβ' i hi] at hx; exact hx
  refine ⟨⟨hI3.fixed, hI3.size, ?_, ?_, ?_⟩, ⟨hE3.k, ?_, ?_, ?_, hE3.size, hE3.os, hE3.tape, hE3.output, ?_, ?_, hβ'⟩, hmap⟩
  · intro i b hb
    show i < (_ ++ _ : List Ob).length
    rw [List.length_append, hlen0]
    by_cases hi : i < H.length
    · omega
    · have hb' : (if keep = true then β2 (ids.length + (i - H.length)) else none) = some b := by
        have : β' i = if keep = true then β2 (ids.length + (i - H.length)) else none := if_neg hi
        rw [← this]; exact hb
      cases hk : keep with
      | false => rw [hk] at hb'; cases hb'
      | true =>
        rw [hk, if_pos rfl] at hb'
        have := hI3.dom _ _ hb'
        simp; omega
  · intro i o ho
    rcases objs i o ho with ⟨h1, h2, h3⟩ | ⟨j, o3, h1, rfl, rfl, h4⟩
    · refine (hI.obj i o h3).mono hE3.k (fun q x hq => by rw [hβ' q (hI.dom q x hq)]; exact hq) fun b hl hb hf => ?_
      have hn := hliveOld i h1 ⟨o, h3, hl⟩ b hb
      have hs := (hsizeOld i ⟨o, h3, hl⟩ b hb).1
      refine ⟨?_, hE3.frame b hs hn⟩
      cases hf3 : K3.fixed b with
      | none => rfl
      | some x =>
        rcases hE3.fix b x hf3 with h | h | h
        · rw [hf] at h; cases h
        · exact absurd h hn
        · omega
    · have hj3 := (List.getElem?_eq_some_iff.1 h1).1
      refine (hI3.obj j o3 h1).ren (Kn.le_refl _) ?_ ?_ ?_ ?_
      · intro b _ hb; rw [hβback j h4 hj3]; exact hb
      · intro b _ hb; rw [hβback j h4 hj3]; exact hb
      · intro q hq b hb
        refine hmap q (fun hk => ?_) b hb
        rcases h4 with h4 | h4
        · exact hkeep hk o3 (List.mem_of_getElem? (i := j) (by rw [List.getElem?_take, if_pos h4]; exact h1)) q hq
        · rw [hk] at h4; cases h4
      · intro b _ _ hf; exact ⟨hf, rfl⟩
  · intro i1 i2 b h1 h2 hb1 hb2
    rcases lives i1 h1 with ⟨n1, l1⟩ | ⟨j1, rfl, l1, k1⟩
    · have hb1' := hInvOld i1 (liveAt_lt l1) b hb1
      rcases lives i2 h2 with ⟨n2, l2⟩ | ⟨j2, rfl, l2, k2⟩
      · exact hI.inj i1 i2 b l1 l2 hb1' (hInvOld i2 (liveAt_lt l2) b hb2)
      · rw [hβback j2 k2 (liveAt_lt l2)] at hb2
        have hs := (hsizeOld i1 l1 b hb1').1
        rcases hE3.live b ⟨j2, l2, hb2⟩ with h | h
        · exact absurd h (hliveOld i1 n1 l1 b hb1')
        · omega
    · rw [hβback j1 k1 (liveAt_lt l1)] at hb1
      rcases lives i2 h2 with ⟨n2, l2⟩ | ⟨j2, rfl, l2, k2⟩
      · have hb2' := hInvOld i2 (liveAt_lt l2) b hb2
        have hs := (hsizeOld i2 l2 b hb2').1
        rcases hE3.live b ⟨j1, l1, hb1⟩ with h | h
        · exact absurd h (hliveOld i2 n2 l2 b hb2')
        · omega
      · rw [hβback j2 k2 (liveAt_lt l2)] at hb2
        rw [hI3.inj j1 j2 b l1 l2 hb1 hb2]
  · intro i x hx; rw [hβ' i (hI.dom i x hx)]; exact hx
  · show H.length ≤ (_ ++ _ : List Ob).length
    rw [List.length_append, hlen0]; omega
  · intro x hx hn
    exact hE3.frame x hx fun h => hn (hlocal x h)
  · rintro x ⟨i, hl, hb⟩
    rcases lives i hl with ⟨n1, l1⟩ | ⟨j, rfl, l1, k1⟩
    · exact .inl ⟨i, l1, hInvOld i (liveAt_lt l1) x hb⟩
    · rw [hβback j k1 (liveAt_lt l1)] at hb
      exact (hE3.live x ⟨j, l1, hb⟩).imp (hlocal x) id
  · intro x o hx
    rcases hE3.fix x o hx with h | h | h
    · exact .inl h
    · exact .inr (.inl (hlocal x h))
    · exact .inr (.inr h)
end Fz
