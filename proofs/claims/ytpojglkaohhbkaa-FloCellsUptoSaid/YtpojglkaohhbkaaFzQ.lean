/- A call is carried out as the abstract interpreter says; operations in turn. -/
import Derived.Test.YtpojglkaohhbkaaFzP
namespace Fz
open Go

def CRel (K : Kn) (β : Bi) : CR → Ending → Prop
  | .ret v, .returned c => VR K β v c
  | .panic v, .panicked chain => ∃ c, chain = [{ v := c, recovered := false }] ∧ VR K β v c
  | _, _ => False

theorem LR.nrm {K : Kn} {β : Bi} {l : List V} {cs : List Value} (h : LR K β l cs) : LR K β (l.map Fz.nrm) cs := by
  refine ⟨by simp [h.1], fun i v hv => ?_⟩
  rw [List.getElem?_map] at hv
  obtain ⟨u, hu, rfl⟩ := Option.map_eq_some_iff.1 hv
  exact (h.2 i u hu).nrm

/-- A call in the model: a value at once, or a function that is entered. -/
def DoesOk (P : Program) (f : FuncId) (cargs : Array Value) (w : World) (R : Ending → World → Prop) : Prop :=
  (∃ c w', (callFunc f cargs).run P w = .ok (.value c) w' ∧ R (.returned c) w') ∨ (∃ g gs, (callFunc f cargs).run P w = .ok (.enter g gs) w ∧ Calls P g gs w R)

theorem DoesOk.mono {P : Program} {f : FuncId} {cargs : Array Value} {w : World} {R R' : Ending → World → Prop} (h : DoesOk P f cargs w R) (hr : ∀ e w', R e w' → R' e w') : DoesOk P f cargs w R' := by
  rcases h with ⟨c, w', h1, h2⟩ | ⟨g, gs, h1, h2⟩
  · exact .inl ⟨c, w', h1, hr _ _ h2⟩
  · exact .inr ⟨g, gs, h1, h2.mono hr⟩

def CallPost (K : Kn) (β : Bi) (H : List Ob) (w : World) (r : CR) (H' : List Ob) : Ending → World → Prop :=
  fun e w' => ∃ K' β', CRel K' β' r e ∧ Inv K' β' H' w' ∧ Ev K β H w K' β' H' w'

def CallOk (P : Program) (call : CallT) : Prop :=
  ∀ f args H r H', call f args H = some (r, H') → ∀ K β w (cargs : Array Value), Inv K β H w → LR K β args cargs.toList → DoesOk P f cargs w (CallPost K β H w r H')

theorem CRel.mono {K K' : Kn} {β β' : Bi} {r : CR} {e : Ending} (h : CRel K β r e) (hK : K.le K') (hβ : ∀ i b, β i = some b → β' i = some b) : CRel K' β' r e := by
  cases r <;> cases e <;> first | exact h.elim | exact VR.mono hK hβ h | (obtain ⟨c, h1, h2⟩ := h; exact ⟨c, h1, h2.mono hK hβ⟩)

theorem settleR_sound {K : Kn} {β : Bi} {H : List Ob} {w : World} {m : Nat} {r r' : CR} {H' : List Ob} {e : Ending} (h : settleR m r H = some (r', H')) (hI : Inv K β H w) (hr : CRel K β r e) :
    ∃ K', Inv K' β H' w ∧ Ev K β H w K' β H' w ∧ CRel K' β r' e := by
  unfold settleR at h
  split at h
  · cases h
  · rename_i H1 hf
    obtain ⟨K1, i1, e1⟩ := freezeObs_sound hI (H.take m) 0 H H1 hf (fun j o hj => by
      rw [Nat.zero_add]
      by_cases hjm : j < m
      · rwa [List.getElem?_take, if_pos hjm] at hj
      · rw [List.getElem?_take, if_neg hjm] at hj; cases hj) K (Kn.le_refl _) hI
    cases r with
    | ret v =>
      simp only [Option.map_eq_some_iff] at h
      obtain ⟨⟨v', H2⟩, hv, h⟩ := h
      cases h
      cases e with
      | returned c =>
        obtain ⟨K2, i2, e2, r2⟩ := freezeV_sound depthF v H1 v' _ hv K1 c i1 (VR.mono e1.k (fun _ _ h => h) hr)
        exact ⟨K2, i2, e1.trans e2, VR.nrm r2⟩
      | _ => exact hr.elim
    | panic v =>
      cases h
      exact ⟨K1, i1, e1, hr.mono e1.k fun _ _ h => h⟩

theorem refs_crV {K K' : Kn} {β β' : Bi} {g : Nat → Nat} {r : CR} {e : Ending} (h : CRel K β r e) (hK : K.le K') (hg : ∀ j ∈ refs (crV r), ∀ b, β j = some b → β' (g j) = some b) : CRel K' β' (renR g r) e := by
  cases r <;> cases e <;> first
    | exact h.elim
    | exact VR.ren hK h hg
    | (obtain ⟨c, h1, h2⟩ := h; exact ⟨c, h1, h2.ren hK hg⟩)

theorem doCall_sound {P : Program} {call : CallT} (hcall : CallOk P call) {inl : FuncId → Bool} {f : FuncId} {args : List V} {H H' : List Ob} {r : CR} (h : doCall call inl f args H = some (r, H'))
    {K : Kn} {β : Bi} {w : World} {cargs : Array Value} (hI : Inv K β H w) (ha : LR K β args cargs.toList) : DoesOk P f cargs w (CallPost K β H w r H') := by
  unfold doCall at h
  split at h
  · cases h
  · rename_i args1 H1 hfr
    obtain ⟨K1, i1, e1, a1⟩ : ∃ K1, Inv K1 β H1 w ∧ Ev K β H w K1 β H1 w ∧ LR K1 β args1 cargs.toList := by
      split at hfr
      · cases hfr; exact ⟨K, hI, .refl K β H w, ha⟩
      · obtain ⟨q, hq, h⟩ := Option.map_eq_some_iff.1 hfr
        cases h
        obtain ⟨K1, i1, e1, a1⟩ := mapS_sound (f := freezeV depthF) (β := β) (w := w) (freezeV_sound depthF) _ _ _ _ hq K _ hI ha
        exact ⟨K1, i1, e1, a1.nrm⟩
    split at h
    · cases h
    · rename_i ids hre
      obtain ⟨nd, lt, cl, _, ins⟩ := reach_sound 1000 _ _ _ hre List.nodup_nil (by simp) (by simp)
      have iL := local_inv i1 nd lt cl
      have aL : LR K1 (locB β ids) (renL (fun i => ids.idxOf i) args1) cargs.toList := a1.ren (Kn.le_refl _) fun i hi b hb => by
        simp [locB, idx_get (ins i hi), hb]
      simp only [] at h
      split at h
      · cases h
      · rename_i r2 Hl hc
        refine (hcall f _ _ r2 Hl hc K1 _ w cargs iL aL).mono ?_
        rintro e w2 ⟨K2, β2, c2, i2, e2⟩
        split at h
        · cases h
        · rename_i r3 Hl3 hse
          obtain ⟨K3, i3, e3, c3⟩ : ∃ K3, Inv K3 β2 Hl3 w2 ∧ Ev K2 β2 Hl w2 K3 β2 Hl3 w2 ∧ CRel K3 β2 r3 e := by
            split at hse
            · cases hse; exact ⟨K2, i2, .refl K2 β2 _ w2, c2⟩
            · exact settleR_sound hse i2 c2
          split at h
          · rename_i hlen
            split at h
            · cases h
              obtain ⟨q1, q2, q3⟩ := back_inv i1 nd lt rfl i3 (e2.trans e3) true (fun h => by cases h)
              refine ⟨K3, _, refs_crV c3 (Kn.le_refl _) fun j _ b hb => q3 j (fun h => by cases h) b hb, ?_, ?_⟩
              · exact q1
              · exact e1.trans q2
            · rename_i hany
              cases h
              have hno : ∀ j ∈ refs (crV r3) ++ (Hl3.take ids.length).flatMap refsOb, j < ids.length := by
                intro j hj
                have := List.any_eq_false.1 (Bool.eq_false_iff.2 hany) j hj
                simpa using this
              obtain ⟨q1, q2, q3⟩ := back_inv i1 nd lt rfl i3 (e2.trans e3) false (fun _ o ho j hj => hno j (List.mem_append_right _ (List.mem_flatMap.2 ⟨o, ho, hj⟩)))
              refine ⟨K3, _, refs_crV c3 (Kn.le_refl _) fun j hj b hb => q3 j (fun _ => hno j (List.mem_append_left _ hj)) b hb, ?_, ?_⟩
              · rw [if_neg (by simp), List.append_nil] at q1; exact q1
              · rw [if_neg (by simp), List.append_nil] at q2; exact e1.trans q2
          · cases h
end Fz
