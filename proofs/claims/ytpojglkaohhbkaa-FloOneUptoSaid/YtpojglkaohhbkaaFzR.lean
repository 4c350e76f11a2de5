/- Operations in turn are carried out as the abstract interpreter says. -/
import Derived.Test.YtpojglkaohhbkaaFzQ
namespace Fz
open Go

def XR (K : Kn) (β : Bi) : X → Exit → Prop
  | .normal, .normal => True
  | .exit i, .exit j => i = j
  | .ret, .ret => True
  | .panic v, .panic chain => ∃ c, chain = [{ v := c, recovered := false }] ∧ VR K β v c
  | _, _ => False

def Post (K : Kn) (β : Bi) (H : List Ob) (w : World) (nt : Nat) (x : X) (e' : Env) (H' : List Ob) (ds : List Deferred) : Exit → Act → World → Prop :=
  fun ex a' w' => ∃ K' β', XR K' β' x ex ∧ ER K' β' nt e' a' ∧ Inv K' β' H' w' ∧ Ev K β H w K' β' H' w' ∧ a'.defers = ds

theorem vr_uv (K : Kn) (β : Bi) : VR K β uv Go.undef := .tuple rfl fun i v h => by simp at h

theorem put_defers (a : Act) (d : Option Tmp) (v : Value) : (a.put d v).defers = a.defers := by cases d <;> rfl

/-- One operation, whatever comes behind it. -/
theorem op_wp {P : Program} {call : CallT} (hcall : CallOk P call) {inl : FuncId → Bool} {nt : Nat} {o : Oper} {op : AOp} {e : Env} {H : List Ob} {r : OR} (hc : cOp P o = some op) (hr : evOp (evO e) H op = some r)
    {K : Kn} {β : Bi} {a : Act} {w : World} (hI : Inv K β H w) (hE : ER K β nt e a) {next : Act → World → Prop} {Q : Exit → Act → World → Prop}
    (hv : ∀ v H', (r = .val v H' ∨ (r = .skip H' ∧ v = uv) ∨ ∃ f args, r = .call f args ∧ doCall call inl f args H = some (.ret v, H')) → ∀ c K' β' w', VR K' β' v c → Inv K' β' H' w' → Ev K β H w K' β' H' w' → next (a.put o.dst c) w')
    (hp : ∀ v H', (r = .panic v H' ∨ ∃ f args, r = .call f args ∧ doCall call inl f args H = some (.panic v, H')) → ∀ c K' β' w', VR K' β' v c → Inv K' β' H' w' → Ev K β H w K' β' H' w' → Q (.panic [{ v := c, recovered := false }]) a w')
    (hs : ∀ f args, r = .call f args → ∃ x, doCall call inl f args H = some x) : o.wp P a w next Q := by
  have h := evOp_sound (P := P) hI hE hc hr
  unfold Oper.wp
  cases r with
  | val v H' =>
    obtain ⟨c, w', K', β', h1, h2, h3, h4⟩ := h
    rw [h1, Oper.upon_value]
    exact hv v H' (.inl rfl) c K' β' w' h2 h3 h4
  | skip H' =>
    obtain ⟨w', K', β', h1, h3, h4⟩ := h
    rw [h1, Oper.upon_skip]
    exact hv uv H' (.inr (.inl ⟨rfl, rfl⟩)) _ K' β' w' (vr_uv K' β') h3 h4
  | panic v H' =>
    obtain ⟨c, w', K', β', h1, h2, h3, h4⟩ := h
    rw [h1, Oper.upon_panic]
    exact hp v H' (.inl rfl) c K' β' w' h2 h3 h4
  | call f args =>
    obtain ⟨cargs, h1, h2⟩ := h
    obtain ⟨⟨r', H'⟩, hd⟩ := hs f args rfl
    rcases doCall_sound hcall hd hI h2 with ⟨c, w', g1, K', β', g2, g3, g4⟩ | ⟨g, gs, g1, g2⟩
    · rw [h1, g1, Oper.upon_value]
      cases r' with
      | ret v => exact hv v H' (.inr (.inr ⟨f, args, rfl, hd⟩)) c K' β' w' g2 g3 g4
      | panic v => exact g2.elim
    · rw [h1, g1, Oper.upon_enter]
      refine g2.mono ?_
      rintro en w' ⟨K', β', q2, q3, q4⟩
      cases en with
      | returned c =>
        cases r' with
        | ret v => exact hv v H' (.inr (.inr ⟨f, args, rfl, hd⟩)) c K' β' w' q2 q3 q4
        | panic v => exact q2.elim
      | panicked chain =>
        cases r' with
        | ret v => exact q2.elim
        | panic v =>
          obtain ⟨c, rfl, q2⟩ := q2
          exact hp v H' (.inr ⟨f, args, rfl, hd⟩) c K' β' w' q2 q3 q4
      | outgrown => cases r' <;> exact q2.elim

/-- A guard, in the model and here. -/
theorem guard_sound {P : Program} {ops : Array Oper} {o : Oper} {ao : AO} (hc : ∃ ao', cOper P ops o = some ao' ∧ ao'.guard = ao.guard) {K : Kn} {β : Bi} {nt : Nat} {e : Env} {a : Act} (hE : ER K β nt e a) :
    (ao.guard = none → Region.wanted o (yielded ops a.tmps) = true) ∧
    (∀ t want, ao.guard = some (t, want) → (∀ b, e t = .bool b → Region.wanted o (yielded ops a.tmps) = (b == want)) ∧ (e t = .tuple [] → Region.wanted o (yielded ops a.tmps) = false)) := by
  obtain ⟨ao', hc, he⟩ := hc
  rw [← he]
  clear he
  unfold cOper at hc
  split at hc <;> cases hc
  rename_i op g hop hg
  cases hgo : o.guard with
  | none =>
    rw [hgo] at hg
    simp [cGuard] at hg; subst hg
    refine ⟨fun _ => by simp [Region.wanted, hgo], fun t want h => by cases h⟩
  | some jw =>
    obtain ⟨j, want⟩ := jw
    rw [hgo] at hg
    simp only [cGuard] at hg
    split at hg <;> cases hg
    rename_i d hd
    refine ⟨fun h => (by cases h), fun t want' h => ?_⟩
    cases h
    have hv := hE.val d
    refine ⟨fun b hb => ?_, fun hb => ?_⟩
    · rw [hb] at hv
      have : a.tmps[d]? = some (.bool b) := by
        cases hq : a.tmps[d]? with
        | none => rw [Array.getD_eq_getD_getElem?, hq] at hv; cases hv
        | some c => rw [Array.getD_eq_getD_getElem?, hq] at hv; cases hv; rfl
      have hy : yielded ops a.tmps j = some b := by simp only [yielded, hd, Option.bind_some, this]
      simp [Region.wanted, hgo, hy]
    · rw [hb] at hv
      have : yielded ops a.tmps j = none := by
        simp only [yielded, hd, Option.bind_some]
        cases hq : a.tmps[d]? with
        | none => rfl
        | some c =>
          rw [Array.getD_eq_getD_getElem?, hq] at hv
          cases hv; rfl
      simp [Region.wanted, hgo, this]

theorem cOper_op {P : Program} {ops : Array Oper} {o : Oper} {ao : AO} (hc : cOper P ops o = some ao) : cOp P o = some ao.op ∧ ao.dst = o.dst := by
  unfold cOper at hc
  split at hc <;> cases hc
  exact ⟨‹_›, rfl⟩

/-- An operation, as it is compiled; its notes may be gone. -/
def Made (P : Program) (ops : Array Oper) (o : Oper) (ao : AO) : Prop := cOp P o = some ao.op ∧ ao.dst = o.dst ∧ ∃ ao', cOper P ops o = some ao' ∧ ao'.guard = ao.guard
theorem made_bare {P : Program} {ops : Array Oper} {o : Oper} {ao : AO} (hc : cOper P ops o = some ao) : Made P ops o ao.bare := ⟨(cOper_op hc).1, (cOper_op hc).2, ao, hc, rfl⟩

theorem runOps_sound {P : Program} {call : CallT} (hcall : CallOk P call) {inl : FuncId → Bool} {ops : Array Oper} {nt : Nat} {x : X} {e' : Env} {H' : List Ob} {Q : Exit → Act → World → Prop} :
    ∀ (l : List AO) (i : Nat), (∀ (j : Nat) (ao : AO), l[j]? = some ao → ∃ o, ops[i + j]? = some o ∧ Made P ops o ao) → (∀ ao ∈ l, ∀ t, ao.dst = some t → t < nt) →
    ∀ (e : Env) (H : List Ob), runOps call inl l e H = some (x, e', H') → ∀ (K : Kn) (β : Bi) (a : Act) (w : World), Inv K β H w → ER K β nt e a →
      (∀ ex a' w', Post K β H w nt x e' H' a.defers ex a' w' → Q ex a' w') → wpOps P ops Q (List.range' i l.length) a w := by
  intro l
  induction l with
  | nil =>
    intro i _ _ e H h K β a w hI hE hQ
    simp [runOps] at h
    obtain ⟨rfl, rfl, rfl⟩ := h
    exact hQ _ _ _ ⟨K, β, trivial, hE, hI, .refl K β H w, rfl⟩
  | cons ao l ih =>
    intro i hops hdst e H h K β a w hI hE hQ
    obtain ⟨o, ho, hco⟩ := hops 0 ao (by simp)
    rw [Nat.add_zero] at ho
    obtain ⟨hop, hd, hgd⟩ := hco
    have hops' : ∀ (j : Nat) (ao' : AO), l[j]? = some ao' → ∃ o, ops[i + 1 + j]? = some o ∧ Made P ops o ao' := fun j ao' hj => by
      have := hops (j + 1) ao' (by simpa using hj)
      rwa [show i + 1 + j = i + (j + 1) from by omega]
    have hdst' : ∀ ao' ∈ l, ∀ t, ao'.dst = some t → t < nt := fun ao' h' => hdst ao' (by simp [h'])
    have hdo : ∀ t, o.dst = some t → t < nt := by rw [← hd]; exact hdst ao (by simp)
    have hrange : List.range' i (ao :: l).length = i :: List.range' (i + 1) l.length := by simp [List.range'_succ]
    rw [hrange, wpOps_cons]
    unfold wpOp
    simp only [ho]
    -- behind a value
    have step : ∀ (v : V) (H1 : List Ob), runOps call inl l (putE e ao.dst v) H1 = some (x, e', H') → ∀ c K1 β1 w1, VR K1 β1 v c → Inv K1 β1 H1 w1 → Ev K β H w K1 β1 H1 w1 →
        wpOps P ops Q (List.range' (i + 1) l.length) (a.put o.dst c) w1 := by
      intro v H1 hrun c K1 β1 w1 hv i1 e1
      refine ih (i + 1) hops' hdst' _ _ hrun K1 β1 _ w1 i1 ?_ ?_
      · rw [hd]; exact (hE.mono e1.k e1.b).put hdo hv
      · rintro ex a' w' ⟨K2, β2, q1, q2, q3, q4, q5⟩
        exact hQ _ _ _ ⟨K2, β2, q1, q2, q3, e1.trans q4, by rw [q5, put_defers]⟩
    have skip : runOps call inl l (putE e ao.dst uv) H = some (x, e', H') → wpOps P ops Q (List.range' (i + 1) l.length) (a.put o.dst Go.undef) w :=
      fun hrun => step uv H hrun _ K β w (vr_uv K β) hI (.refl K β H w)
    -- the operation carried out
    have go : (match evOp (evO e) H ao.op with
      | none => none
      | some (.val v H') => runOps call inl l (putE e ao.dst v) H'
      | some (.skip H') => runOps call inl l (putE e ao.dst uv) H'
      | some (.panic v H') => some (.panic v, e, H')
      | some (.call f args) => match doCall call inl f args H with
        | none => none
        | some (.ret v, H') => runOps call inl l (putE e ao.dst v) H'
        | some (.panic v, H') => some (.panic v, e, H')) = some (x, e', H') →
        o.wp P a w (wpOps P ops Q (List.range' (i + 1) l.length)) Q := by
      intro hgo
      cases hr : evOp (evO e) H ao.op with
      | none => rw [hr] at hgo; cases hgo
      | some r =>
        rw [hr] at hgo
        refine op_wp hcall (inl := inl) hop hr hI hE ?_ ?_ ?_
        · rintro v H1 (rfl | ⟨rfl, rfl⟩ | ⟨f, args, rfl, hdc⟩) c K1 β1 w1 hv i1 e1
          · exact step v H1 hgo c K1 β1 w1 hv i1 e1
          · exact step uv H1 hgo c K1 β1 w1 hv i1 e1
          · simp only [hdc] at hgo
            exact step v H1 hgo c K1 β1 w1 hv i1 e1
        · rintro v H1 (rfl | ⟨f, args, rfl, hdc⟩) c K1 β1 w1 hv i1 e1
          · cases hgo
            exact hQ _ _ _ ⟨K1, β1, ⟨c, rfl, hv⟩, hE.mono e1.k e1.b, i1, e1, rfl⟩
          · simp only [hdc] at hgo
            cases hgo
            exact hQ _ _ _ ⟨K1, β1, ⟨c, rfl, hv⟩, hE.mono e1.k e1.b, i1, e1, rfl⟩
        · rintro f args rfl
          cases hdc : doCall call inl f args H with
          | none => simp only [hdc] at hgo; cases hgo
          | some y => exact ⟨y, rfl⟩
    obtain ⟨g1, g2⟩ := guard_sound hgd hE
    simp only [runOps] at h
    cases hg : ao.guard with
    | none =>
      rw [hg] at h
      rw [if_pos (g1 hg)]
      exact .inl (go h)
    | some tw =>
      obtain ⟨t, want⟩ := tw
      rw [hg] at h
      obtain ⟨g3, g4⟩ := g2 t want hg
      simp only [] at h
      split at h
      · rename_i b hb
        split at h
        · rename_i hbw
          rw [g3 b hb, if_pos (by simpa using hbw)]
          exact .inl (go h)
        · rename_i hbw
          rw [g3 b hb, if_neg (by simpa using hbw)]
          exact skip h
      · rename_i hb
        rw [g4 hb, if_neg (by simp)]
        exact skip h
      · cases h
end Fz
