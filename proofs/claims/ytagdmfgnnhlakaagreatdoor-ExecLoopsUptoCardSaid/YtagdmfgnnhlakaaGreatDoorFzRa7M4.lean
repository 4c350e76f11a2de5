import Derived.Test.YtagdmfgnnhlakaaGreatDoorFzRa7M3
set_option linter.all false
set_option linter.unusedVariables false
set_option linter.unusedSimpArgs false
set_option linter.unnecessarySimpa false
namespace Fz
open Go
def Sees (H H' : List Ob) : Prop := ∀ i : Nat, match H[i]? with
  | some (.live l) => H'[i]? = some (.live l) ∨ H'[i]? = some (.fixed l)
  | some .dead => True
  | some o => H'[i]? = some o
  | none => True
theorem Sees.refl (H : List Ob) : Sees H H := by
  intro i
  cases h : H[i]? with
  | none => trivial
  | some o => cases o <;> simp
theorem Sees.trans {A B C : List Ob} (h : Sees A B) (g : Sees B C) : Sees A C := by
  intro i
  have h1 := h i
  have h2 := g i
  cases ho : A[i]? with
  | none => trivial
  | some o =>
    rw [ho] at h1
    cases o with
    | live l =>
      rcases h1 with h1 | h1
      · rw [h1] at h2; exact h2
      · rw [h1] at h2; exact .inr h2
    | dead => trivial
    | _ => rw [show B[i]? = _ from h1] at h2; exact h2
theorem Sees.app (H G : List Ob) : Sees H (H ++ G) := by
  intro i
  cases ho : H[i]? with
  | none => trivial
  | some o =>
    have : (H ++ G)[i]? = some o := by rw [List.getElem?_append_left (List.getElem?_eq_some_iff.1 ho).1]; exact ho
    cases o <;> simp [this]
theorem Sees.set {H : List Ob} {i : Nat} {l : List V} (h : H[i]? = some (.live l)) : Sees H (H.set i (.fixed l)) := by
  intro j
  rw [List.getElem?_set]
  by_cases e : i = j
  · subst e
    rw [h, if_pos rfl, if_pos (List.getElem?_eq_some_iff.1 h).1]
    exact .inr rfl
  · rw [if_neg e]
    cases ho : H[j]? with
    | none => trivial
    | some o => cases o <;> simp
theorem peek_see {H : List Ob} {n : Nat} {v : V} {l : List V} {H' : List Ob} (G : Sees H H') (h : peek H n v = some l) : peek (H') n v = some l := by
  cases v with
  | ref x => exact h
  | ptr id off =>
    simp only [peek] at h ⊢
    cases ho : H[id]? with
    | none => rw [ho] at h; cases h
    | some o =>
      have hs := G id
      rw [ho] at h hs
      cases o with
      | live x => rcases hs with hs | hs <;> (rw [hs]; exact h)
      | fixed x => rw [show H'[id]? = _ from hs]; exact h
      | _ => cases h
  | _ => cases h
theorem elems_see {H : List Ob} {n : Nat} {v : V} {l : List V × Nat} {H' : List Ob} (G : Sees H H') (h : elems H n v = some l) : elems (H') n v = some l := by
  cases v with
  | own id off len m =>
    simp only [elems] at h ⊢
    split at h
    · rename_i hm
      rw [if_pos hm]
      obtain ⟨x, hx, hh⟩ := Option.map_eq_some_iff.1 h
      rw [peek_see G hx, Option.map_some, hh]
    · cases h
  | _ => exact h
theorem lend_see {H : List Ob} {H' : List Ob} (G : Sees H H') : ∀ (k : Nat) (v v' : V), lendV H k v = some v' → lendV (H') k v = some v' := by
  intro k
  induction k with
  | zero => intro v v' h; cases h
  | succ k ih =>
    have hm : ∀ (l x : List V), mapOpt (lendV H k) l = some x → mapOpt (lendV (H') k) l = some x := by
      intro l
      induction l with
      | nil => intro x h; exact h
      | cons v l ihl =>
        intro x h
        simp only [mapOpt] at h ⊢
        split at h <;> cases h
        rename_i a b ha hb
        rw [ih _ _ ha, ihl _ hb]
    intro v v' h
    cases v with
    | own id off len n =>
      simp only [lendV] at h ⊢
      split at h
      · cases h
      · rename_i hn
        rw [if_neg hn]
        split at h
        · rename_i l hl
          rw [peek_see G hl]
          dsimp only
          split at h
          · rename_i x hx; rw [hm _ _ hx]; exact h
          · cases h
        · cases h
    | agg l =>
      simp only [lendV] at h ⊢
      obtain ⟨x, hx, hh⟩ := Option.map_eq_some_iff.1 h
      rw [hm _ _ hx, Option.map_some, hh]
    | tuple l =>
      simp only [lendV] at h ⊢
      obtain ⟨x, hx, hh⟩ := Option.map_eq_some_iff.1 h
      rw [hm _ _ hx, Option.map_some, hh]
    | _ => exact h
theorem lends_see {H : List Ob} {H' : List Ob} (G : Sees H H') (k : Nat) : ∀ (l x : List V), mapOpt (lendV H k) l = some x → mapOpt (lendV (H') k) l = some x := by
  intro l
  induction l with
  | nil => intro x h; exact h
  | cons v l ihl =>
    intro x h
    simp only [mapOpt] at h ⊢
    split at h <;> cases h
    rename_i a b ha hb
    rw [lend_see G _ _ _ ha, ihl _ hb]
theorem mapOf_see {H : List Ob} {H' : List Ob} (G : Sees H H') {m : V} {x : List V × List V} (h : mapOf H m = some x) : mapOf (H') m = some x := by
  unfold mapOf at h ⊢
  split at h <;> try (cases h; done)
  · exact h
  · exact h
  · rename_i id
    split at h <;> cases h
    rename_i ho
    have hs := G id
    rw [ho] at hs
    rw [show H'[id]? = _ from hs]
theorem rd_see {H : List Ob} {H' : List Ob} (G : Sees H H') {k : RK} {l : List V} {v : V} (h : rdV H k l = some v) : rdV (H') k l = some v := by
  unfold rdV at h ⊢
  split at h
  · rename_i kk z ok m k
    cases hm : mapOf H m with
    | none => rw [hm] at h; cases h
    | some x => rw [hm] at h; rw [mapOf_see G hm]; exact h
  · cases h
theorem evOp_see {ρ : Opd → V} {op : AOp} (hp : pureOp op = true) {H : List Ob} {H' : List Ob} (G : Sees H H') {v : V} {H1 : List Ob} (h : evOp ρ H op = some (.val v H1)) :
    ∃ H2, evOp ρ (H') op = some (.val v H2) := by
  by_cases hf : heapFree op = true
  · exact ⟨_, evOp_free hf H (H') h⟩
  · cases op with
    | rd k l =>
      simp only [evOp, ans] at h ⊢
      obtain ⟨u, hu, h⟩ := Option.map_eq_some_iff.1 h
      rw [rd_see G hu]; cases h; exact ⟨_, rfl⟩
    | load agg n x =>
      simp only [evOp] at h ⊢
      cases hl : peek H n (ρ x) with
      | none => rw [hl] at h; cases h
      | some l =>
        rw [hl] at h
        rw [peek_see G hl]
        dsimp only at h ⊢
        split at h
        · rename_i ha; cases h; exact ⟨_, if_pos ha⟩
        · rename_i ha
          rw [if_neg ha]
          split at h
          · cases h; exact ⟨_, rfl⟩
          · cases h
    | conv k x =>
      cases k with
      | b2s =>
        simp only [evOp] at h ⊢
        cases hx : ρ x with
        | list l c =>
          rw [hx] at h
          dsimp only at h ⊢
          obtain ⟨q, hq, h⟩ := Option.bind_eq_some_iff.1 h
          rw [elems_see G hq, Option.bind_some]
          split at h <;> cases h
          rename_i hc
          exact ⟨_, if_pos hc⟩
        | own a b c d =>
          rw [hx] at h
          dsimp only at h ⊢
          obtain ⟨q, hq, h⟩ := Option.bind_eq_some_iff.1 h
          rw [elems_see G hq, Option.bind_some]
          split at h <;> cases h
          rename_i hc
          exact ⟨_, if_pos hc⟩
        | _ => rw [hx] at h; cases h
      | _ => exact absurd rfl hf
    | slice k x lo hi mx =>
      cases k with
      | arr alen n =>
        simp only [evOp, ans] at h ⊢
        obtain ⟨u, hu, hh⟩ := Option.map_eq_some_iff.1 h
        refine ⟨H', ?_⟩
        have : sliceV (H') (.arr alen n) (ρ x) (lo.map ρ) (hi.map ρ) (mx.map ρ) = some u := by
          unfold sliceV at hu ⊢
          split at hu
          · cases hu
          · rename_i hc
            rw [if_neg hc]
            cases hx : ρ x with
            | ptr id off =>
              rw [hx] at hu
              dsimp only at hu ⊢
              split at hu
              · rename_i h1 h2 h3 h4
                rw [h1, h2, h3, peek_see G h4]
                exact hu
              · cases hu
            | _ => rw [hx] at hu; cases hu
        rw [this]
        cases hh
        rfl
      | _ => exact absurd rfl hf
    | _ => first | (exact absurd rfl hf) | (cases hp)
theorem quiet_see {call : CallT} {inl : FuncId → Bool} {e : Env} {o : AO} {H : List Ob} {H' : List Ob} (G : Sees H H') {v : V} (h : quietOp call inl e H o = some v) :
    quietOp call inl e (H') o = some v := by
  have go : ∀ (hh : (match evOp (evO e) H o.op with
    | some (.val v _) => if pureOp o.op then some v else none
    | some (.call k args) => match mapOpt (lendV H depthF) args with
      | some l => if groundL l then (match doCall call inl k l [] with
        | some (.ret v, []) => if ground v && (listFree v || groundL args) then some v else none
        | _ => none) else none
      | none => none
    | _ => none) = some v), (match evOp (evO e) (H') o.op with
    | some (.val v _) => if pureOp o.op then some v else none
    | some (.call k args) => match mapOpt (lendV (H') depthF) args with
      | some l => if groundL l then (match doCall call inl k l [] with
        | some (.ret v, []) => if ground v && (listFree v || groundL args) then some v else none
        | _ => none) else none
      | none => none
    | _ => none) = some v := by
    intro hh
    cases hv : evOp (evO e) H o.op with
    | none => rw [hv] at hh; cases hh
    | some q =>
      cases q with
      | val u H1 =>
        rw [hv] at hh
        dsimp only at hh
        have hp : pureOp o.op = true := by
          split at hh
          · assumption
          · cases hh
        obtain ⟨H2, h2⟩ := evOp_see hp G hv
        rw [h2]
        exact hh
      | skip _ => rw [hv] at hh; cases hh
      | panic _ _ => rw [hv] at hh; cases hh
      | call k args =>
        have hc : evOp (evO e) (H') o.op = some (.call k args) := by
          generalize o.op = op at hv
          cases op with
          | call f l => exact hv
          | callv f l => exact hv
          | conv kk x =>
            exfalso
            cases kk with
            | b2s =>
              simp only [evOp] at hv
              split at hv
              · obtain ⟨a, _, hv⟩ := Option.bind_eq_some_iff.1 hv
                split at hv <;> cases hv
              · obtain ⟨a, _, hv⟩ := Option.bind_eq_some_iff.1 hv
                split at hv <;> cases hv
              · cases hv
            | _ =>
              simp only [evOp] at hv
              first
              | (cases hv; done)
              | (split at hv <;> cases hv)
          | append n b z s x =>
            exfalso
            simp only [evOp] at hv
            repeat' split at hv
            all_goals cases hv
          | mem k l =>
            exfalso
            simp only [evOp] at hv
            exact memV_nocall hv
          | _ =>
            exfalso
            simp only [evOp, ans] at hv
            repeat' split at hv
            all_goals first | (cases hv; done) | (obtain ⟨_, _, hv⟩ := Option.map_eq_some_iff.1 hv; cases hv)
        rw [hc]
        rw [hv] at hh
        dsimp only at hh ⊢
        split at hh
        · rename_i l hl
          rw [lends_see G _ _ _ hl]
          exact hh
        · cases hh
  unfold quietOp at h ⊢
  dsimp only at h ⊢
  cases hg : o.guard with
  | none => rw [hg] at h; exact go h
  | some tw =>
    rw [hg] at h
    obtain ⟨t', w⟩ := tw
    dsimp only at h ⊢
    cases he : e t' with
    | bool b =>
      simp only [he] at h ⊢
      by_cases hb : b = w
      · simp only [hb, if_true] at h ⊢; exact go h
      · simp only [hb, if_false] at h ⊢; exact h
    | tuple l =>
      simp only [he] at h ⊢
      cases l with
      | nil => exact h
      | cons _ _ => cases h
    | _ => simp only [he] at h; cases h
def wExt (p : AP) (Q : X → Env → List Ob → Prop) (H0 : List Ob) : List AO → Env → List Ob → Prop
  | [], e, H => Q .normal e H
  | o :: r, e, H => if o.eff = true then
      wGuard e o.guard (wAct p e H (fun v H' => Sees H0 H' ∧ wExt p Q H0 r (putE e o.dst v) H') (fun _ _ => False) o.op) (wExt p Q H0 r (putE e o.dst uv) H)
    else wGuard e o.guard (wQ p e H0 (fun v => wExt p Q H0 r (putE e o.dst v) H) o.op) (wExt p Q H0 r (putE e o.dst uv) H)
def AtH (call : CallT) (inl : FuncId → Bool) (H0 : List Ob) : List AO → List (Env × Nat × V) → Prop
  | [], [] => True
  | o :: r, (e, _, v) :: t => (o.eff = true ∨ quietOp call inl e H0 o = some v) ∧ AtH call inl H0 r t
  | _, _ => False
theorem AtH_mono {f g : CallT} (h : LeC f g) {inl : FuncId → Bool} {H0 : List Ob} : ∀ {r : List AO} {t : List (Env × Nat × V)}, AtH f inl H0 r t → AtH g inl H0 r t
  | [], [], _ => trivial
  | o :: r, (e, k, v) :: t, ⟨h1, h2⟩ => ⟨h1.imp id (quietOp_mono h inl e H0 o v), AtH_mono h h2⟩
  | [], _ :: _, h => h.elim
  | _ :: _, [], h => h.elim
theorem AtH_steady {call : CallT} {inl : FuncId → Bool} {ops : List AO} {an : List (List Nat)} {H0 : List Ob} {hs : List (List Ob)} (hx : ∀ G ∈ hs, Sees H0 G) : ∀ (r : List AO) (s : Nat) (t : List (Env × Nat × V)), AtH call inl H0 r t → steadyAll call inl ops an hs (r.zipIdx s) t = true
  | [], s, [], _ => rfl
  | o :: r, s, (e, k, v) :: t, ⟨h1, h2⟩ => by
    rw [List.zipIdx_cons]
    unfold steadyAll
    rw [Bool.and_eq_true]
    refine ⟨?_, AtH_steady hx r (s + 1) t h2⟩
    rw [Bool.or_eq_true]
    refine h1.imp id fun hq => ?_
    have : ∀ l : List (List Ob), (∀ G ∈ l, Sees H0 G) → steady call inl e v o l = true := by
      intro l
      induction l with
      | nil => intro _; rfl
      | cons H' l ihl =>
        intro hl'
        have J := hl' H' (List.mem_cons_self ..)
        unfold steady
        rw [quiet_see J hq, Bool.and_eq_true]
        exact ⟨veq_refl v, ihl fun G hG => hl' G (List.mem_cons_of_mem _ hG)⟩
    exact this _ fun G hG => hx G (List.mem_of_mem_drop (List.mem_of_mem_take hG))
  | [], _, _ :: _, h => h.elim
  | _ :: _, _, [], h => h.elim
theorem wExt_trace {p : AP} {Q : X → Env → List Ob → Prop} {H0 : List Ob} (ops : List AO) : ∀ (e : Env) (H : List Ob) (hs : List (List Ob)), wExt p Q H0 ops e H → hs.getLast? = some H → (Sees H0 H) → (∀ G ∈ hs, Sees H0 G) →
    ∃ n t hs' e' H', trace (acall p n) p.inlY ops e hs = some (t, hs', e') ∧ hs'.getLast? = some H' ∧ (∀ G ∈ hs', Sees H0 G) ∧ AtH (acall p n) p.inlY H0 ops t ∧ Q .normal e' H' := by
  induction ops with
  | nil => intro e H hs h hl hJ ha; exact ⟨0, _, _, _, H, rfl, hl, ha, trivial, h⟩
  | cons o r ih =>
    intro e H hs h hl hJ ha
    unfold wExt at h
    unfold trace
    rw [hl]
    dsimp only
    have ha' : ∀ H', (Sees H0 H') → ∀ G ∈ hs ++ [H'], Sees H0 G := by
      intro H' hH' G hG
      rcases List.mem_append.1 hG with h | h
      · exact ha G h
      · rw [List.mem_singleton.1 h]; exact hH'
    by_cases he : o.eff = true
    · rw [if_pos he] at h
      simp only [if_pos he]
      rcases wEff_ok h with ⟨n, v, H1, h1, hG, h2⟩ | ⟨h1, h2⟩
      · have hJ' : Sees H0 H1 := hG
        obtain ⟨m, t, hs', e', H2, h3, h4, h5, h6, h7⟩ := ih _ _ (hs ++ [H1]) h2 (by simp) hJ' (ha' _ hJ')
        refine ⟨max n m, (e, hs.length - 1, v) :: t, hs', e', H2, ?_, h4, h5, ⟨.inl he, AtH_mono (acall_le p (Nat.le_max_right n m)) h6⟩, h7⟩
        rw [effOp_mono (acall_le p (Nat.le_max_left n m)) _ _ _ _ _ h1]
        dsimp only
        rw [trace_mono (acall_le p (Nat.le_max_right n m)) _ _ _ _ _ h3]
        rfl
      · obtain ⟨m, t, hs', e', H2, h3, h4, h5, h6, h7⟩ := ih _ _ (hs ++ [H]) h2 (by simp) hJ (ha' _ hJ)
        refine ⟨m, (e, hs.length - 1, uv) :: t, hs', e', H2, ?_, h4, h5, ⟨.inl he, h6⟩, h7⟩
        rw [h1]
        dsimp only
        rw [h3]
        rfl
    · rw [if_neg he] at h
      simp only [if_neg he]
      rcases wQuiet_ok h with ⟨n, v, h1, h2⟩ | ⟨h1, h2⟩
      · obtain ⟨m, t, hs', e', H2, h3, h4, h5, h6, h7⟩ := ih _ _ hs h2 hl hJ ha
        refine ⟨max n m, (e, hs.length - 1, v) :: t, hs', e', H2, ?_, h4, h5, ⟨.inr (quietOp_mono (acall_le p (Nat.le_max_left n m)) _ _ _ _ _ h1), AtH_mono (acall_le p (Nat.le_max_right n m)) h6⟩, h7⟩
        rw [quiet_see hJ (quietOp_mono (acall_le p (Nat.le_max_left n m)) _ _ _ _ _ h1)]
        dsimp only
        rw [trace_mono (acall_le p (Nat.le_max_right n m)) _ _ _ _ _ h3]
        rfl
      · obtain ⟨m, t, hs', e', H2, h3, h4, h5, h6, h7⟩ := ih _ _ hs h2 hl hJ ha
        refine ⟨m, (e, hs.length - 1, uv) :: t, hs', e', H2, ?_, h4, h5, ⟨.inr (h1 m), h6⟩, h7⟩
        rw [quiet_see hJ (h1 m)]
        dsimp only
        rw [h3]
        rfl
theorem WDraw_see {p : AP} {ops : List AO} (hc : okDraw ops = true) {e : Env} {H R : List Ob} {Q : X → Env → List Ob → Prop} (hR : Sees R H) (h : wExt p Q R ops e H) : WDraw p ops e H Q := by
  obtain ⟨n, t, hs', e', H', h1, h2, h3, h4, h5⟩ := wExt_trace ops e H [H] h rfl hR (fun G hG => by rw [List.mem_singleton.1 hG]; exact hR)
  refine ⟨n, .normal, e', H', ?_, h5⟩
  refine runDraw_of ?_
  unfold runDrawN
  rw [h1]
  dsimp only
  rw [hc, AtH_steady h3 ops 0 t h4, h2]
  rfl
section
variable {p : AP} {Q : X → Env → List Ob → Prop} {e : Env} {H H0 : List Ob}
@[simp ↓] theorem wExt_nil : wExt p Q H0 [] e H = Q .normal e H := (rfl)
@[simp ↓] theorem wExt_eff {d : Option Nat} {op : AOp} {af : List Nat} {r : List AO} :
    wExt p Q H0 (⟨d, op, none, af, true⟩ :: r) e H = wAct p e H (fun v H' => Sees H0 H' ∧ wVal v fun v => wExt p Q H0 r (putE e d v) H') (fun _ _ => False) op := (rfl)
@[simp ↓] theorem wExt_effG {d : Option Nat} {op : AOp} {t : Nat} {w : Bool} {af : List Nat} {r : List AO} :
    wExt p Q H0 (⟨d, op, some (t, w), af, true⟩ :: r) e H = wGuardV (e t) w (wAct p e H (fun v H' => Sees H0 H' ∧ wVal v fun v => wExt p Q H0 r (putE e d v) H') (fun _ _ => False) op) (wExt p Q H0 r (putE e d uv) H) := (rfl)
@[simp ↓] theorem wExt_q {d : Option Nat} {op : AOp} {af : List Nat} {r : List AO} :
    wExt p Q H0 (⟨d, op, none, af, false⟩ :: r) e H = wQ p e H0 (fun v => wVal v fun v => wExt p Q H0 r (putE e d v) H) op := (rfl)
@[simp ↓] theorem wExt_qG {d : Option Nat} {op : AOp} {t : Nat} {w : Bool} {af : List Nat} {r : List AO} :
    wExt p Q H0 (⟨d, op, some (t, w), af, false⟩ :: r) e H = wGuardV (e t) w (wQ p e H0 (fun v => wVal v fun v => wExt p Q H0 r (putE e d v) H) op) (wExt p Q H0 r (putE e d uv) H) := (rfl)
def see1 : Ob → Ob → Prop
  | .live l, o => o = .live l ∨ o = .fixed l
  | .dead, _ => True
  | x, o => o = x
@[simp] theorem see1_live {l m : List V} : see1 (.live l) (.live m) = (m = l) := by simp [see1]
@[simp] theorem see1_lf {l m : List V} : see1 (.live l) (.fixed m) = (m = l) := by simp [see1]
@[simp] theorem see1_dead {o : Ob} : see1 .dead o = True := (rfl)
@[simp] theorem see1_fixed {l m : List V} : see1 (.fixed l) (.fixed m) = (m = l) := by simp [see1]
@[simp] theorem sees_nil {H : List Ob} : Sees [] H = True := eq_true fun i => by simp
@[simp] theorem sees_cons {o o' : Ob} {R H : List Ob} : Sees (o :: R) (o' :: H) = (see1 o o' ∧ Sees R H) := by
  refine propext ⟨fun h => ⟨?_, fun i => ?_⟩, fun h i => ?_⟩
  · have := h 0
    cases o <;> simpa [see1] using this
  · have := h (i + 1)
    simpa only [List.getElem?_cons_succ] using this
  · cases i with
    | zero => have := h.1; cases o <;> simpa [see1] using this
    | succ i => have := h.2 i; simpa only [List.getElem?_cons_succ] using this
@[simp] theorem sees_self {H : List Ob} : Sees H H = True := eq_true (Sees.refl H)
@[simp] theorem sees_app {H G : List Ob} : Sees H (H ++ G) = True := eq_true (Sees.app H G)
end
end Fz
namespace Fz
open Go
@[simp] theorem ex3 {α β γ : Type} {x : α} {y : β} {z : γ} {K : α → β → γ → Prop} : (∃ a b c, (x = a ∧ y = b ∧ z = c) ∧ K a b c) = K x y z :=
  propext ⟨fun ⟨_, _, _, ⟨rfl, rfl, rfl⟩, h⟩ => h, fun h => ⟨x, y, z, ⟨rfl, rfl, rfl⟩, h⟩⟩
theorem reach_go {H : List Ob} {k i : Nat} {todo seen : List Nat} {o : Ob} (hs : seen.contains i = false) (ho : H[i]? = some o) : reach H (k + 1) (i :: todo) seen = reach H k (todo ++ refsOb o) (seen ++ [i]) := by
  conv => lhs; unfold reach
  rw [if_neg (by rw [hs]; exact Bool.false_ne_true), ho]
theorem reach_end {H : List Ob} {k : Nat} {seen : List Nat} : reach H (k + 1) [] seen = some seen := by
  unfold reach; rfl
def roundQ (id : Nat) (Q : CR → List Ob → Prop) : QX := fun x _ H2 => ∃ k2 ts2 l2, H2[id]? = some (.loop k2 ts2 l2 .busy) ∧ match x with
  | .normal => Q (.ret (.bool true)) (H2.set id (.loop k2 ts2 l2 .ready))
  | .ret => Q (.ret (.bool false)) (H2.set id (.loop k2 ts2 l2 (.done .ret)))
  | .exit i => Q (.ret (.bool false)) (H2.set id (.loop k2 ts2 l2 (.done (.exit i))))
  | _ => False
def assignQ (p : AP) (cb : WC) (id : Nat) (Q : CR → List Ob → Prop) : QX := fun x e1 H1 => match x with
  | .normal => ∃ k1 ts1 l1, H1[id]? = some (.loop k1 ts1 l1 .ready) ∧ wx p cb e1 (H1.set id (.loop k1 ts1 l1 .busy)) (roundQ id Q)
  | _ => False
end Fz
namespace Fz
open Go
def Has (n : Nat) (H : List Ob) (v : V) (l : List V) : Prop :=
  uni n l = true ∧ n ≠ 0 ∧ ((∃ c, v = .list l c) ∨ ∃ id cells, v = .own id 0 l.length n ∧ (H[id]? = some (.live cells) ∨ H[id]? = some (.fixed cells)) ∧ l.length * n ≤ cells.length ∧ cells.take (l.length * n) = flat l)
theorem Has.list {n : Nat} {H : List Ob} {l : List V} {c : Bool} (hu : uni n l = true) (hn : n ≠ 0) : Has n H (.list l c) l := ⟨hu, hn, .inl ⟨c, rfl⟩⟩
end Fz
namespace Fz
open Go
def gho (n m : Nat) (H : List Ob) : List Ob := (H.set n .dead).set m .dead
end Fz
namespace Fz
open Go
end Fz
namespace Fz
open Go
def roundL (p : AP) (b : WC) (Q : QX) : QX := fun x e H => match x with
  | .normal => xL p b e H Q
  | .mayRet => False
  | x => Q x e H
theorem xL_one {p : AP} {b : WC} {Q : QX} {e : Env} {H : List Ob} (hc : okW b = true) (h : wx p b e H (roundL p b Q)) : xL p b e H Q := by
  show WX p (.loop (toA b)) e H Q
  obtain ⟨n, x, e', H', h1, h2⟩ := wx_ok b e H _ hc h
  cases x with
  | normal =>
    obtain ⟨m, x, e'', H'', h3, h4⟩ := (show WX p (.loop (toA b)) e' H' Q from h2)
    refine ⟨max n m + 1, x, e'', H'', ?_, h4⟩
    rw [exec, exec_le p (Nat.le_max_left n m) _ _ _ _ h1]
    exact exec_le p (Nat.le_max_right n m) _ _ _ _ h3
  | mayRet => cases h2
  | _ => exact ⟨n + 1, _, _, _, by rw [exec, h1], h2⟩
end Fz
namespace Fz
open Go
def liftE (g : List V → Option V) : List V → List Ob → Option (V × List Ob) := fun args H => match H with
  | [] => (g args).map fun v => (v, [])
  | _ => none
theorem proved_own {P : Program} {p : AP} (hp : APOk P p) {f : FuncId} {g : List V → List Ob → Option (V × List Ob)} (hg : ∀ args H v H', g args H = some (v, H') → H = [] ∧ ∃ n, acall p n f args [] = some (.ret v, H'))
    (args : List V) (H : List Ob) (v : V) (H' : List Ob) (h : g args H = some (v, H')) (K : Kn) (β : Bi) (w : World) (cargs : Array Value) (hL : K.lp = lpOf P p) (hI : Inv K β H w) (ha : LR K β args cargs.toList) : DoesOk P f cargs w (CallPost K β H w (.ret v) H') := by
  obtain ⟨rfl, n, h2⟩ := hg _ _ _ _ h
  exact acall_sound hp n f args [] _ H' h2 K β w cargs hL hI ha
def stiff : V → Bool
  | .bool _ => true
  | .int _ _ => true
  | .str _ => true
  | _ => false
end Fz
namespace Fz
open Go
theorem frz_acgQ (b : Nat) {H : List Ob} {n k : Nat} {v : V} {l : List V} {K : V → List Ob → Prop} (ha : Ac n b (H.drop b) v l) (hg : (flat l).all (gk k) = true)
    (hl : (n = 1 ∧ l.all leafy = true) ∨ (n ≠ 1 ∧ ∀ v ∈ l, ∃ c, v = .agg c)) (hK : ∀ H', H'.take b = H.take b → H'.length = H.length → K (.list (l.map nrm) false) H') : xFrz (k + 1) v H K := by
  obtain ⟨h1, h2, h3⟩ := ha
  rcases h3 with ⟨rfl, rfl⟩ | ⟨j, cells, rfl, h4, h5, h6⟩
  · rw [frz_gk (by rw [gk_list]; rfl)]
    exact hK H rfl rfl
  · rw [List.getElem?_drop] at h4
    rw [frz_own, wOb_at h4]
    refine ⟨⟨by omega, h2⟩, ?_⟩
    rw [wVal_eq, wSetOb_eq]
    have e1 : (cells.drop 0).take (l.length * n) = flat l := by rw [List.drop_zero, h6]
    rw [e1, frzL_gk hg, wVal_eq]
    have e3 : ∀ H', (H.set (b + j) (.fixed cells)) = H' → H'.take b = H.take b ∧ H'.length = H.length := by
      rintro H' rfl
      refine ⟨?_, by simp⟩
      rw [List.take_set_of_le (by omega)]
    obtain ⟨q1, q2⟩ := e3 _ rfl
    generalize H.set (b + j) (.fixed cells) = H' at q1 q2 ⊢
    rcases hl with ⟨rfl, hl⟩ | ⟨hn, hl⟩
    · rw [wChunk_one]
      obtain ⟨f1, _⟩ := flat_leafy hl
      rw [f1]
      refine ⟨by rw [leafy_nrm]; exact hl, ?_⟩
      show K _ _
      rw [List.take_of_length_le (by simp)]
      exact hK _ q1 q2
    · refine ⟨.inl hn, ?_⟩
      have : chunk n l.length ((flat l).map nrm) = l.map nrm := by
        rw [← chunk_nrm]
        unfold chunk
        rw [if_neg hn, chunk_of h1 hn hl]
      rw [this]
      exact hK _ q1 q2
end Fz
namespace Fz
open Go
def panOk (ops : List AO) (q : Nat) : Bool := okDraw ops && okDraw (ops.take q) && lateOk ops q && (match ops[q]? with | some o => o.eff && o.guard.isNone | none => false)
end Fz
