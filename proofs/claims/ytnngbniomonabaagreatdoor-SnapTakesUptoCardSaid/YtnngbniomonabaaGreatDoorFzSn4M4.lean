import Derived.Test.YtnngbniomonabaaGreatDoorFzSn4M3
import Derived.Test.YtnngbniomonabaaGreatDoorProg
set_option linter.all false
set_option linter.unusedVariables false
set_option linter.unusedSimpArgs false
set_option linter.unnecessarySimpa false
namespace Fz
open Go
def Sees (H H' : List Ob) : Prop := ∀ i : Nat, match H[i]? with
  | some (.live l) => H'[i]? = some (.live l) ∨ H'[i]? = some (.fixed l)
  | some .dead => True
  | some o => H'[i]? = some o
  | none => True
theorem Sees.refl (H : List Ob) : Sees H H := by
  intro i
  cases h : H[i]? with
  | none => trivial
  | some o => cases o <;> simp
theorem Sees.trans {A B C : List Ob} (h : Sees A B) (g : Sees B C) : Sees A C := by
  intro i
  have h1 := h i
  have h2 := g i
  cases ho : A[i]? with
  | none => trivial
  | some o =>
    rw [ho] at h1
    cases o with
    | live l =>
      rcases h1 with h1 | h1
      · rw [h1] at h2; exact h2
      · rw [h1] at h2; exact .inr h2
    | dead => trivial
    | _ => rw [show B[i]? = _ from h1] at h2; exact h2
theorem Sees.app (H G : List Ob) : Sees H (H ++ G) := by
  intro i
  cases ho : H[i]? with
  | none => trivial
  | some o =>
    have : (H ++ G)[i]? = some o := by rw [List.getElem?_append_left (List.getElem?_eq_some_iff.1 ho).1]; exact ho
    cases o <;> simp [this]
theorem Sees.set {H : List Ob} {i : Nat} {l : List V} (h : H[i]? = some (.live l)) : Sees H (H.set i (.fixed l)) := by
  intro j
  rw [List.getElem?_set]
  by_cases e : i = j
  · subst e
    rw [h, if_pos rfl, if_pos (List.getElem?_eq_some_iff.1 h).1]
    exact .inr rfl
  · rw [if_neg e]
    cases ho : H[j]? with
    | none => trivial
    | some o => cases o <;> simp
theorem peek_see {H : List Ob} {n : Nat} {v : V} {l : List V} {H' : List Ob} (G : Sees H H') (h : peek H n v = some l) : peek (H') n v = some l := by
  cases v with
  | ref x => exact h
  | ptr id off =>
    simp only [peek] at h ⊢
    cases ho : H[id]? with
    | none => rw [ho] at h; cases h
    | some o =>
      have hs := G id
      rw [ho] at h hs
      cases o with
      | live x => rcases hs with hs | hs <;> (rw [hs]; exact h)
      | fixed x => rw [show H'[id]? = _ from hs]; exact h
      | _ => cases h
  | _ => cases h
theorem elems_see {H : List Ob} {n : Nat} {v : V} {l : List V × Nat} {H' : List Ob} (G : Sees H H') (h : elems H n v = some l) : elems (H') n v = some l := by
  cases v with
  | own id off len m =>
    simp only [elems] at h ⊢
    split at h
    · rename_i hm
      rw [if_pos hm]
      obtain ⟨x, hx, hh⟩ := Option.map_eq_some_iff.1 h
      rw [peek_see G hx, Option.map_some, hh]
    · cases h
  | _ => exact h
theorem lend_see {H : List Ob} {H' : List Ob} (G : Sees H H') : ∀ (k : Nat) (v v' : V), lendV H k v = some v' → lendV (H') k v = some v' := by
  intro k
  induction k with
  | zero => intro v v' h; cases h
  | succ k ih =>
    have hm : ∀ (l x : List V), mapOpt (lendV H k) l = some x → mapOpt (lendV (H') k) l = some x := by
      intro l
      induction l with
      | nil => intro x h; exact h
      | cons v l ihl =>
        intro x h
        simp only [mapOpt] at h ⊢
        split at h <;> cases h
        rename_i a b ha hb
        rw [ih _ _ ha, ihl _ hb]
    intro v v' h
    cases v with
    | own id off len n =>
      simp only [lendV] at h ⊢
      split at h
      · cases h
      · rename_i hn
        rw [if_neg hn]
        split at h
        · rename_i l hl
          rw [peek_see G hl]
          dsimp only
          split at h
          · rename_i x hx; rw [hm _ _ hx]; exact h
          · cases h
        · cases h
    | agg l =>
      simp only [lendV] at h ⊢
      obtain ⟨x, hx, hh⟩ := Option.map_eq_some_iff.1 h
      rw [hm _ _ hx, Option.map_some, hh]
    | tuple l =>
      simp only [lendV] at h ⊢
      obtain ⟨x, hx, hh⟩ := Option.map_eq_some_iff.1 h
      rw [hm _ _ hx, Option.map_some, hh]
    | _ => exact h
theorem lends_see {H : List Ob} {H' : List Ob} (G : Sees H H') (k : Nat) : ∀ (l x : List V), mapOpt (lendV H k) l = some x → mapOpt (lendV (H') k) l = some x := by
  intro l
  induction l with
  | nil => intro x h; exact h
  | cons v l ihl =>
    intro x h
    simp only [mapOpt] at h ⊢
    split at h <;> cases h
    rename_i a b ha hb
    rw [lend_see G _ _ _ ha, ihl _ hb]
theorem mapOf_see {H : List Ob} {H' : List Ob} (G : Sees H H') {m : V} {x : List V × List V} (h : mapOf H m = some x) : mapOf (H') m = some x := by
  unfold mapOf at h ⊢
  split at h <;> try (cases h; done)
  · exact h
  · exact h
  · rename_i id
    split at h <;> cases h
    rename_i ho
    have hs := G id
    rw [ho] at hs
    rw [show H'[id]? = _ from hs]
theorem rd_see {H : List Ob} {H' : List Ob} (G : Sees H H') {k : RK} {l : List V} {v : V} (h : rdV H k l = some v) : rdV (H') k l = some v := by
  unfold rdV at h ⊢
  split at h
  · rename_i kk z ok m k
    cases hm : mapOf H m with
    | none => rw [hm] at h; cases h
    | some x => rw [hm] at h; rw [mapOf_see G hm]; exact h
  · cases h
theorem evOp_see {ρ : Opd → V} {op : AOp} (hp : pureOp op = true) {H : List Ob} {H' : List Ob} (G : Sees H H') {v : V} {H1 : List Ob} (h : evOp ρ H op = some (.val v H1)) :
    ∃ H2, evOp ρ (H') op = some (.val v H2) := by
  by_cases hf : heapFree op = true
  · exact ⟨_, evOp_free hf H (H') h⟩
  · cases op with
    | rd k l =>
      simp only [evOp, ans] at h ⊢
      obtain ⟨u, hu, h⟩ := Option.map_eq_some_iff.1 h
      rw [rd_see G hu]; cases h; exact ⟨_, rfl⟩
    | load agg n x =>
      simp only [evOp] at h ⊢
      cases hl : peek H n (ρ x) with
      | none => rw [hl] at h; cases h
      | some l =>
        rw [hl] at h
        rw [peek_see G hl]
        dsimp only at h ⊢
        split at h
        · rename_i ha; cases h; exact ⟨_, if_pos ha⟩
        · rename_i ha
          rw [if_neg ha]
          split at h
          · cases h; exact ⟨_, rfl⟩
          · cases h
    | conv k x =>
      cases k with
      | b2s =>
        simp only [evOp] at h ⊢
        cases hx : ρ x with
        | list l c =>
          rw [hx] at h
          dsimp only at h ⊢
          obtain ⟨q, hq, h⟩ := Option.bind_eq_some_iff.1 h
          rw [elems_see G hq, Option.bind_some]
          split at h <;> cases h
          rename_i hc
          exact ⟨_, if_pos hc⟩
        | own a b c d =>
          rw [hx] at h
          dsimp only at h ⊢
          obtain ⟨q, hq, h⟩ := Option.bind_eq_some_iff.1 h
          rw [elems_see G hq, Option.bind_some]
          split at h <;> cases h
          rename_i hc
          exact ⟨_, if_pos hc⟩
        | _ => rw [hx] at h; cases h
      | _ => exact absurd rfl hf
    | slice k x lo hi mx =>
      cases k with
      | arr alen n =>
        simp only [evOp, ans] at h ⊢
        obtain ⟨u, hu, hh⟩ := Option.map_eq_some_iff.1 h
        refine ⟨H', ?_⟩
        have : sliceV (H') (.arr alen n) (ρ x) (lo.map ρ) (hi.map ρ) (mx.map ρ) = some u := by
          unfold sliceV at hu ⊢
          split at hu
          · cases hu
          · rename_i hc
            rw [if_neg hc]
            cases hx : ρ x with
            | ptr id off =>
              rw [hx] at hu
              dsimp only at hu ⊢
              split at hu
              · rename_i h1 h2 h3 h4
                rw [h1, h2, h3, peek_see G h4]
                exact hu
              · cases hu
            | _ => rw [hx] at hu; cases hu
        rw [this]
        cases hh
        rfl
      | _ => exact absurd rfl hf
    | _ => first | (exact absurd rfl hf) | (cases hp)
theorem quiet_see {call : CallT} {inl : FuncId → Bool} {e : Env} {o : AO} {H : List Ob} {H' : List Ob} (G : Sees H H') {v : V} (h : quietOp call inl e H o = some v) :
    quietOp call inl e (H') o = some v := by
  have go : ∀ (hh : (match evOp (evO e) H o.op with
    | some (.val v _) => if pureOp o.op then some v else none
    | some (.call k args) => match mapOpt (lendV H depthF) args with
      | some l => if groundL l then (match doCall call inl k l [] with
        | some (.ret v, []) => if ground v && (listFree v || groundL args) then some v else none
        | _ => none) else none
      | none => none
    | _ => none) = some v), (match evOp (evO e) (H') o.op with
    | some (.val v _) => if pureOp o.op then some v else none
    | some (.call k args) => match mapOpt (lendV (H') depthF) args with
      | some l => if groundL l then (match doCall call inl k l [] with
        | some (.ret v, []) => if ground v && (listFree v || groundL args) then some v else none
        | _ => none) else none
      | none => none
    | _ => none) = some v := by
    intro hh
    cases hv : evOp (evO e) H o.op with
    | none => rw [hv] at hh; cases hh
    | some q =>
      cases q with
      | val u H1 =>
        rw [hv] at hh
        dsimp only at hh
        have hp : pureOp o.op = true := by
          split at hh
          · assumption
          · cases hh
        obtain ⟨H2, h2⟩ := evOp_see hp G hv
        rw [h2]
        exact hh
      | skip _ => rw [hv] at hh; cases hh
      | panic _ _ => rw [hv] at hh; cases hh
      | call k args =>
        have hc : evOp (evO e) (H') o.op = some (.call k args) := by
          generalize o.op = op at hv
          cases op with
          | call f l => exact hv
          | callv f l => exact hv
          | conv kk x =>
            exfalso
            cases kk with
            | b2s =>
              simp only [evOp] at hv
              split at hv
              · obtain ⟨a, _, hv⟩ := Option.bind_eq_some_iff.1 hv
                split at hv <;> cases hv
              · obtain ⟨a, _, hv⟩ := Option.bind_eq_some_iff.1 hv
                split at hv <;> cases hv
              · cases hv
            | _ =>
              simp only [evOp] at hv
              first
              | (cases hv; done)
              | (split at hv <;> cases hv)
          | append n b z s x =>
            exfalso
            simp only [evOp] at hv
            repeat' split at hv
            all_goals cases hv
          | mem k l =>
            exfalso
            simp only [evOp] at hv
            exact memV_nocall hv
          | _ =>
            exfalso
            simp only [evOp, ans] at hv
            repeat' split at hv
            all_goals first | (cases hv; done) | (obtain ⟨_, _, hv⟩ := Option.map_eq_some_iff.1 hv; cases hv)
        rw [hc]
        rw [hv] at hh
        dsimp only at hh ⊢
        split at hh
        · rename_i l hl
          rw [lends_see G _ _ _ hl]
          exact hh
        · cases hh
  unfold quietOp at h ⊢
  dsimp only at h ⊢
  cases hg : o.guard with
  | none => rw [hg] at h; exact go h
  | some tw =>
    rw [hg] at h
    obtain ⟨t', w⟩ := tw
    dsimp only at h ⊢
    cases he : e t' with
    | bool b =>
      simp only [he] at h ⊢
      by_cases hb : b = w
      · simp only [hb, if_true] at h ⊢; exact go h
      · simp only [hb, if_false] at h ⊢; exact h
    | tuple l =>
      simp only [he] at h ⊢
      cases l with
      | nil => exact h
      | cons _ _ => cases h
    | _ => simp only [he] at h; cases h
def wExt (p : AP) (Q : X → Env → List Ob → Prop) (H0 : List Ob) : List AO → Env → List Ob → Prop
  | [], e, H => Q .normal e H
  | o :: r, e, H => if o.eff = true then
      wGuard e o.guard (wAct p e H (fun v H' => Sees H0 H' ∧ wExt p Q H0 r (putE e o.dst v) H') (fun _ _ => False) o.op) (wExt p Q H0 r (putE e o.dst uv) H)
    else wGuard e o.guard (wQ p e H0 (fun v => wExt p Q H0 r (putE e o.dst v) H) o.op) (wExt p Q H0 r (putE e o.dst uv) H)
def AtH (call : CallT) (inl : FuncId → Bool) (H0 : List Ob) : List AO → List (Env × Nat × V) → Prop
  | [], [] => True
  | o :: r, (e, _, v) :: t => (o.eff = true ∨ quietOp call inl e H0 o = some v) ∧ AtH call inl H0 r t
  | _, _ => False
theorem AtH_mono {f g : CallT} (h : LeC f g) {inl : FuncId → Bool} {H0 : List Ob} : ∀ {r : List AO} {t : List (Env × Nat × V)}, AtH f inl H0 r t → AtH g inl H0 r t
  | [], [], _ => trivial
  | o :: r, (e, k, v) :: t, ⟨h1, h2⟩ => ⟨h1.imp id (quietOp_mono h inl e H0 o v), AtH_mono h h2⟩
  | [], _ :: _, h => h.elim
  | _ :: _, [], h => h.elim
theorem AtH_steady {call : CallT} {inl : FuncId → Bool} {ops : List AO} {an : List (List Nat)} {H0 : List Ob} {hs : List (List Ob)} (hx : ∀ G ∈ hs, Sees H0 G) : ∀ (r : List AO) (s : Nat) (t : List (Env × Nat × V)), AtH call inl H0 r t → steadyAll call inl ops an hs (r.zipIdx s) t = true
  | [], s, [], _ => rfl
  | o :: r, s, (e, k, v) :: t, ⟨h1, h2⟩ => by
    rw [List.zipIdx_cons]
    unfold steadyAll
    rw [Bool.and_eq_true]
    refine ⟨?_, AtH_steady hx r (s + 1) t h2⟩
    rw [Bool.or_eq_true]
    refine h1.imp id fun hq => ?_
    have : ∀ l : List (List Ob), (∀ G ∈ l, Sees H0 G) → steady call inl e v o l = true := by
      intro l
      induction l with
      | nil => intro _; rfl
      | cons H' l ihl =>
        intro hl'
        have J := hl' H' (List.mem_cons_self ..)
        unfold steady
        rw [quiet_see J hq, Bool.and_eq_true]
        exact ⟨veq_refl v, ihl fun G hG => hl' G (List.mem_cons_of_mem _ hG)⟩
    exact this _ fun G hG => hx G (List.mem_of_mem_drop (List.mem_of_mem_take hG))
  | [], _, _ :: _, h => h.elim
  | _ :: _, _, [], h => h.elim
theorem wExt_trace {p : AP} {Q : X → Env → List Ob → Prop} {H0 : List Ob} (ops : List AO) : ∀ (e : Env) (H : List Ob) (hs : List (List Ob)), wExt p Q H0 ops e H → hs.getLast? = some H → (Sees H0 H) → (∀ G ∈ hs, Sees H0 G) →
    ∃ n t hs' e' H', trace (acall p n) p.inlY ops e hs = some (t, hs', e') ∧ hs'.getLast? = some H' ∧ (∀ G ∈ hs', Sees H0 G) ∧ AtH (acall p n) p.inlY H0 ops t ∧ Q .normal e' H' := by
  induction ops with
  | nil => intro e H hs h hl hJ ha; exact ⟨0, _, _, _, H, rfl, hl, ha, trivial, h⟩
  | cons o r ih =>
    intro e H hs h hl hJ ha
    unfold wExt at h
    unfold trace
    rw [hl]
    dsimp only
    have ha' : ∀ H', (Sees H0 H') → ∀ G ∈ hs ++ [H'], Sees H0 G := by
      intro H' hH' G hG
      rcases List.mem_append.1 hG with h | h
      · exact ha G h
      · rw [List.mem_singleton.1 h]; exact hH'
    by_cases he : o.eff = true
    · rw [if_pos he] at h
      simp only [if_pos he]
      rcases wEff_ok h with ⟨n, v, H1, h1, hG, h2⟩ | ⟨h1, h2⟩
      · have hJ' : Sees H0 H1 := hG
        obtain ⟨m, t, hs', e', H2, h3, h4, h5, h6, h7⟩ := ih _ _ (hs ++ [H1]) h2 (by simp) hJ' (ha' _ hJ')
        refine ⟨max n m, (e, hs.length - 1, v) :: t, hs', e', H2, ?_, h4, h5, ⟨.inl he, AtH_mono (acall_le p (Nat.le_max_right n m)) h6⟩, h7⟩
        rw [effOp_mono (acall_le p (Nat.le_max_left n m)) _ _ _ _ _ h1]
        dsimp only
        rw [trace_mono (acall_le p (Nat.le_max_right n m)) _ _ _ _ _ h3]
        rfl
      · obtain ⟨m, t, hs', e', H2, h3, h4, h5, h6, h7⟩ := ih _ _ (hs ++ [H]) h2 (by simp) hJ (ha' _ hJ)
        refine ⟨m, (e, hs.length - 1, uv) :: t, hs', e', H2, ?_, h4, h5, ⟨.inl he, h6⟩, h7⟩
        rw [h1]
        dsimp only
        rw [h3]
        rfl
    · rw [if_neg he] at h
      simp only [if_neg he]
      rcases wQuiet_ok h with ⟨n, v, h1, h2⟩ | ⟨h1, h2⟩
      · obtain ⟨m, t, hs', e', H2, h3, h4, h5, h6, h7⟩ := ih _ _ hs h2 hl hJ ha
        refine ⟨max n m, (e, hs.length - 1, v) :: t, hs', e', H2, ?_, h4, h5, ⟨.inr (quietOp_mono (acall_le p (Nat.le_max_left n m)) _ _ _ _ _ h1), AtH_mono (acall_le p (Nat.le_max_right n m)) h6⟩, h7⟩
        rw [quiet_see hJ (quietOp_mono (acall_le p (Nat.le_max_left n m)) _ _ _ _ _ h1)]
        dsimp only
        rw [trace_mono (acall_le p (Nat.le_max_right n m)) _ _ _ _ _ h3]
        rfl
      · obtain ⟨m, t, hs', e', H2, h3, h4, h5, h6, h7⟩ := ih _ _ hs h2 hl hJ ha
        refine ⟨m, (e, hs.length - 1, uv) :: t, hs', e', H2, ?_, h4, h5, ⟨.inr (h1 m), h6⟩, h7⟩
        rw [quiet_see hJ (h1 m)]
        dsimp only
        rw [h3]
        rfl
theorem WDraw_see {p : AP} {ops : List AO} (hc : okDraw ops = true) {e : Env} {H R : List Ob} {Q : X → Env → List Ob → Prop} (hR : Sees R H) (h : wExt p Q R ops e H) : WDraw p ops e H Q := by
  obtain ⟨n, t, hs', e', H', h1, h2, h3, h4, h5⟩ := wExt_trace ops e H [H] h rfl hR (fun G hG => by rw [List.mem_singleton.1 hG]; exact hR)
  refine ⟨n, .normal, e', H', ?_, h5⟩
  unfold runDraw
  rw [h1]
  dsimp only
  rw [hc, AtH_steady h3 ops 0 t h4, h2]
  rfl
section
variable {p : AP} {Q : X → Env → List Ob → Prop} {e : Env} {H H0 : List Ob}
@[simp ↓] theorem wExt_nil : wExt p Q H0 [] e H = Q .normal e H := (rfl)
@[simp ↓] theorem wExt_eff {d : Option Nat} {op : AOp} {af : List Nat} {r : List AO} :
    wExt p Q H0 (⟨d, op, none, af, true⟩ :: r) e H = wAct p e H (fun v H' => Sees H0 H' ∧ wVal v fun v => wExt p Q H0 r (putE e d v) H') (fun _ _ => False) op := (rfl)
@[simp ↓] theorem wExt_effG {d : Option Nat} {op : AOp} {t : Nat} {w : Bool} {af : List Nat} {r : List AO} :
    wExt p Q H0 (⟨d, op, some (t, w), af, true⟩ :: r) e H = wGuardV (e t) w (wAct p e H (fun v H' => Sees H0 H' ∧ wVal v fun v => wExt p Q H0 r (putE e d v) H') (fun _ _ => False) op) (wExt p Q H0 r (putE e d uv) H) := (rfl)
@[simp ↓] theorem wExt_q {d : Option Nat} {op : AOp} {af : List Nat} {r : List AO} :
    wExt p Q H0 (⟨d, op, none, af, false⟩ :: r) e H = wQ p e H0 (fun v => wVal v fun v => wExt p Q H0 r (putE e d v) H) op := (rfl)
@[simp ↓] theorem wExt_qG {d : Option Nat} {op : AOp} {t : Nat} {w : Bool} {af : List Nat} {r : List AO} :
    wExt p Q H0 (⟨d, op, some (t, w), af, false⟩ :: r) e H = wGuardV (e t) w (wQ p e H0 (fun v => wVal v fun v => wExt p Q H0 r (putE e d v) H) op) (wExt p Q H0 r (putE e d uv) H) := (rfl)
def see1 : Ob → Ob → Prop
  | .live l, o => o = .live l ∨ o = .fixed l
  | .dead, _ => True
  | x, o => o = x
@[simp] theorem see1_live {l m : List V} : see1 (.live l) (.live m) = (m = l) := by simp [see1]
@[simp] theorem see1_lf {l m : List V} : see1 (.live l) (.fixed m) = (m = l) := by simp [see1]
@[simp] theorem see1_dead {o : Ob} : see1 .dead o = True := (rfl)
@[simp] theorem see1_fixed {l m : List V} : see1 (.fixed l) (.fixed m) = (m = l) := by simp [see1]
@[simp] theorem sees_nil {H : List Ob} : Sees [] H = True := eq_true fun i => by simp
@[simp] theorem sees_cons {o o' : Ob} {R H : List Ob} : Sees (o :: R) (o' :: H) = (see1 o o' ∧ Sees R H) := by
  refine propext ⟨fun h => ⟨?_, fun i => ?_⟩, fun h i => ?_⟩
  · have := h 0
    cases o <;> simpa [see1] using this
  · have := h (i + 1)
    simpa only [List.getElem?_cons_succ] using this
  · cases i with
    | zero => have := h.1; cases o <;> simpa [see1] using this
    | succ i => have := h.2 i; simpa only [List.getElem?_cons_succ] using this
@[simp] theorem sees_self {H : List Ob} : Sees H H = True := eq_true (Sees.refl H)
@[simp] theorem sees_app {H G : List Ob} : Sees H (H ++ G) = True := eq_true (Sees.app H G)
end
end Fz
namespace Fz
open Go
@[simp] theorem ex3 {α β γ : Type} {x : α} {y : β} {z : γ} {K : α → β → γ → Prop} : (∃ a b c, (x = a ∧ y = b ∧ z = c) ∧ K a b c) = K x y z :=
  propext ⟨fun ⟨_, _, _, ⟨rfl, rfl, rfl⟩, h⟩ => h, fun h => ⟨x, y, z, ⟨rfl, rfl, rfl⟩, h⟩⟩
theorem reach_go {H : List Ob} {k i : Nat} {todo seen : List Nat} {o : Ob} (hs : seen.contains i = false) (ho : H[i]? = some o) : reach H (k + 1) (i :: todo) seen = reach H k (todo ++ refsOb o) (seen ++ [i]) := by
  conv => lhs; unfold reach
  rw [if_neg (by rw [hs]; exact Bool.false_ne_true), ho]
theorem reach_skip {H : List Ob} {k i : Nat} {todo seen : List Nat} (hs : seen.contains i = true) : reach H (k + 1) (i :: todo) seen = reach H k todo seen := by
  conv => lhs; unfold reach
  rw [if_pos hs]
theorem reach_end {H : List Ob} {k : Nat} {seen : List Nat} : reach H (k + 1) [] seen = some seen := by
  unfold reach; rfl
def roundQ (id : Nat) (Q : CR → List Ob → Prop) : QX := fun x _ H2 => ∃ k2 ts2 l2, H2[id]? = some (.loop k2 ts2 l2 .busy) ∧ match x with
  | .normal => Q (.ret (.bool true)) (H2.set id (.loop k2 ts2 l2 .ready))
  | .ret => Q (.ret (.bool false)) (H2.set id (.loop k2 ts2 l2 (.done .ret)))
  | .exit i => Q (.ret (.bool false)) (H2.set id (.loop k2 ts2 l2 (.done (.exit i))))
  | _ => False
def assignQ (p : AP) (cb : WC) (id : Nat) (Q : CR → List Ob → Prop) : QX := fun x e1 H1 => match x with
  | .normal => ∃ k1 ts1 l1, H1[id]? = some (.loop k1 ts1 l1 .ready) ∧ wx p cb e1 (H1.set id (.loop k1 ts1 l1 .busy)) (roundQ id Q)
  | _ => False
theorem WFun_round {p : AP} {id k : Nat} {ts : List Nat} {l rest : List V} {ab : ABody} {H : List Ob} {Q : CR → List Ob → Prop} (ca cb : WC) (hb : p.body k = some ab) (hH : H[id]? = some (.loop k ts l .ready)) (hl : rest.length = ab.ps.length)
    (ha : ab.assign = toA ca) (hbd : ab.body = toA cb) (oa : okW ca = true) (ob : okW cb = true)
    (h : wx p ca (setPs (envT ts l) ab.ps rest) H (assignQ p cb id Q)) : WFun p YF (.yld id :: rest) H Q := by
  obtain ⟨n, x, e1, H1, h1, h2⟩ := wx_ok _ _ _ _ oa h
  cases x with
  | normal =>
    obtain ⟨k1, ts1, l1, h3, h4⟩ := h2
    obtain ⟨m, y, e2, H2, h5, h6⟩ := wx_ok _ _ _ _ ob h4
    obtain ⟨k2, ts2, l2, h7, h8⟩ := h6
    have g1 := exec_le p (Nat.le_max_left n m) _ _ _ _ h1
    have g2 := exec_le p (Nat.le_max_right n m) _ _ _ _ h5
    cases y with
    | normal => exact ⟨max n m, _, _, by simp only [acall, callW, if_true, roundW, hH, hb, hl, ha, g1, h3, hbd, g2, h7], h8⟩
    | ret => exact ⟨max n m, _, _, by simp only [acall, callW, if_true, roundW, hH, hb, hl, ha, g1, h3, hbd, g2, h7], h8⟩
    | exit i => exact ⟨max n m, _, _, by simp only [acall, callW, if_true, roundW, hH, hb, hl, ha, g1, h3, hbd, g2, h7], h8⟩
    | panic v => cases h8
    | mayRet => cases h8
  | _ => cases h2
theorem WRange_of {p : AP} {k : Nat} {ab : ABody} {g : FuncId} {first cap : List V} {e : Env} {H : List Ob} {Q : QX} {af : AFun} (hb : p.body k = some ab) (hg : g ≠ YF) (hp : p.prim g = none) (hf : p.fn g = some af) {ids : List Nat}
    (hr : reach (H ++ [Ob.loop k ab.keep (ab.keep.map e) .ready]) 1000 (refsL (first ++ [.yld H.length] ++ cap)) [] = some ids)
    (h : WFun p g (renL (fun i => ids.idxOf i) (first ++ [.yld H.length] ++ cap)) (ids.map fun i => renOb (fun i => ids.idxOf i) ((H ++ [Ob.loop k ab.keep (ab.keep.map e) .ready])[i]?.getD .dead)) fun r Hl =>
      ids.length ≤ Hl.length ∧ ∃ x e' H', endRange H.length e (some (renR (backK ids (H ++ [Ob.loop k ab.keep (ab.keep.map e) .ready]).length) r, backH ids r Hl (H ++ [Ob.loop k ab.keep (ab.keep.map e) .ready]))) = some (x, e', H') ∧ Q x e' H') :
    WRange p k (.fn (.func g) first cap) e H Q := by
  obtain ⟨n, r, Hl, h1, h2, h3⟩ := h
  refine ⟨ab, g, first, cap, hb, rfl, n, _, _, doCall_inl rfl hr (r := r) (Hl := Hl) ?_ h2, h3⟩
  rw [← h1]
  simp only [acall, callW, callE, if_neg hg, hp, hf]
end Fz
namespace Fz
open Go
def Has (n : Nat) (H : List Ob) (v : V) (l : List V) : Prop :=
  uni n l = true ∧ n ≠ 0 ∧ ((∃ c, v = .list l c) ∨ ∃ id cells, v = .own id 0 l.length n ∧ (H[id]? = some (.live cells) ∨ H[id]? = some (.fixed cells)) ∧ l.length * n ≤ cells.length ∧ cells.take (l.length * n) = flat l)
theorem Has.list {n : Nat} {H : List Ob} {l : List V} {c : Bool} (hu : uni n l = true) (hn : n ≠ 0) : Has n H (.list l c) l := ⟨hu, hn, .inl ⟨c, rfl⟩⟩
theorem has_see {n : Nat} {R H : List Ob} {v : V} {l : List V} (hs : Sees R H) (h : Has n R v l) : Has n H v l := by
  obtain ⟨h1, h2, h3⟩ := h
  refine ⟨h1, h2, ?_⟩
  rcases h3 with h3 | ⟨id, cells, h3, h4, h5⟩
  · exact .inl h3
  · have := hs id
    rcases h4 with h4 | h4
    · rw [h4] at this
      exact .inr ⟨id, cells, h3, this, h5⟩
    · rw [h4] at this
      exact .inr ⟨id, cells, h3, .inr this, h5⟩
theorem has_ac {n b : Nat} {H : List Ob} {v : V} {l : List V} (h : Ac n b (H.drop b) v l) : Has n H v l := by
  obtain ⟨h1, h2, h3⟩ := h
  refine ⟨h1, h2, ?_⟩
  rcases h3 with ⟨rfl, rfl⟩ | ⟨j, cells, h3, h4, h5⟩
  · exact .inl ⟨true, rfl⟩
  · rw [List.getElem?_drop] at h4
    exact .inr ⟨b + j, cells, h3, .inl h4, h5⟩
theorem drop_set_lt {α : Type} {H : List α} {n b : Nat} {x : α} (h : n < b) : (H.set n x).drop b = H.drop b := by
  apply List.ext_getElem?
  intro i
  rw [List.getElem?_drop, List.getElem?_drop, List.getElem?_set_ne (by omega)]
theorem sees_set {R H : List Ob} {n : Nat} {x : Ob} (hs : Sees R H) (hn : R[n]? = none ∨ R[n]? = some .dead) : Sees R (H.set n x) := by
  intro i
  by_cases e : n = i
  · subst e
    rcases hn with hn | hn <;> rw [hn] <;> trivial
  · rw [List.getElem?_set_ne e]; exact hs i
theorem sees_dead {H : List Ob} {n : Nat} {x : Ob} : Sees (H.set n .dead) (H.set n x) := by
  intro i
  by_cases e : n = i
  · subst e
    cases h : (H.set n .dead)[n]? with
    | none => trivial
    | some o =>
      have hlt : n < H.length := by have := (List.getElem?_eq_some_iff.1 h).1; simpa using this
      rw [List.getElem?_set_self hlt] at h
      cases h; trivial
  · rw [List.getElem?_set_ne e, List.getElem?_set_ne e]
    exact Sees.refl H i
theorem frz_has {H : List Ob} {n k : Nat} {v : V} {l : List V} {K : V → List Ob → Prop} (ha : Has n H v l) (hg : (flat l).all (gk k) = true) (hgr : l.all ground = true)
    (hl : (n = 1 ∧ l.all leafy = true) ∨ (n ≠ 1 ∧ ∀ v ∈ l, ∃ c, v = .agg c)) (hK : ∀ H', Sees H H' → H'.length = H.length → K (.list (l.map nrm) false) H') : xFrz (k + 1) v H K := by
  obtain ⟨h1, h2, h3⟩ := ha
  rcases h3 with ⟨c, rfl⟩ | ⟨id, cells, rfl, h4, h5, h6⟩
  · rw [frz_gk (by rw [gk_list]; exact hgr), nr_list]
    exact hK H (Sees.refl H) rfl
  · have e1 : (cells.drop 0).take (l.length * n) = flat l := by rw [List.drop_zero, h6]
    have fin : ∀ H' : List Ob, Sees H H' → H'.length = H.length → (n ≠ 1 ∨ ((flat l).map nrm).all leafy = true) ∧ K (.list (chunk n l.length ((flat l).map nrm)) false) H' := by
      intro H' q1 q2
      rcases hl with ⟨rfl, hl⟩ | ⟨hn, hl⟩
      · obtain ⟨f1, _⟩ := flat_leafy hl
        rw [f1]
        refine ⟨.inr (by rw [leafy_nrm]; exact hl), ?_⟩
        rw [chunk_one, List.take_of_length_le (by simp)]
        exact hK _ q1 q2
      · refine ⟨.inl hn, ?_⟩
        have : chunk n l.length ((flat l).map nrm) = l.map nrm := by
          rw [← chunk_nrm]
          unfold chunk
          rw [if_neg hn, chunk_of h1 hn hl]
        rw [this]
        exact hK _ q1 q2
    rw [frz_own]
    rcases h4 with h4 | h4
    · rw [wOb_at h4]
      refine ⟨⟨by omega, h2⟩, ?_⟩
      rw [wVal_eq, wSetOb_eq, e1, frzL_gk hg, wVal_eq]
      exact fin _ (Sees.set h4) (by simp)
    · rw [show ∀ L F : List V → Prop, wOb H id L F = F cells from fun L F => by simp [wOb, h4]]
      refine ⟨⟨by omega, h2⟩, ?_⟩
      rw [wVal_eq, e1, frzL_gk hg, wVal_eq]
      exact fin _ (Sees.refl H) rfl
end Fz
namespace Fz
open Go
def gho (n m : Nat) (H : List Ob) : List Ob := (H.set n .dead).set m .dead
theorem gho_see2 {n m : Nat} {H : List Ob} {x y : Ob} : Sees (gho n m H) ((H.set n x).set m y) := by
  refine Sees.trans ?_ (sees_dead (H := H.set n x) (n := m) (x := y))
  unfold gho
  by_cases e : n = m
  · subst e
    rw [List.set_set, List.set_set]; exact Sees.refl _
  · rw [List.set_comm _ _ e, List.set_comm _ _ e]
    exact sees_dead
theorem gho_set {n m : Nat} {H : List Ob} {x : Ob} : gho n m (H.set n x) = gho n m H := by
  unfold gho; rw [List.set_set]
theorem gho_app {n m : Nat} {H : List Ob} (J : List Ob) (hn : n < H.length) (hm : m < H.length) : Sees (gho n m H) (gho n m (H ++ J)) := by
  unfold gho
  rw [List.set_append_left _ _ hn, List.set_append_left _ _ (by simpa using hm)]
  exact Sees.app _ _
theorem has_next {n m w : Nat} {H : List Ob} {J : List Ob} {x : Ob} {v : V} {l : List V} (hn : n < H.length) (hm : m < H.length) (h : Has w (gho n m H) v l) : Has w (gho n m ((H ++ J).set n x)) v l := by
  rw [gho_set]; exact has_see (gho_app J hn hm) h
theorem has_new {n m w : Nat} {H : List Ob} {J : List Ob} {x : Ob} {v : V} {l : List V} (hn : n < H.length) (hm : m < H.length) (h : Ac w H.length J v l) : Has w (gho n m ((H ++ J).set n x)) v l := by
  rw [gho_set]
  refine has_ac (b := H.length) ?_
  unfold gho
  rw [drop_set_lt hm, drop_set_lt hn, List.drop_left]
  exact h
theorem has_fin {n m w : Nat} {H : List Ob} {x y : Ob} {v : V} {l : List V} (h : Has w (gho n m H) v l) : Has w ((H.set n x).set m y) v l := has_see gho_see2 h
theorem wLive_ne {H : List Ob} {n i : Nat} {x : Ob} {K : List V → Prop} (h : n ≠ i) : wLive (H.set n x) i K = wLive H i K := by
  unfold wLive; rw [List.getElem?_set_ne h]
theorem wMut_ne {H : List Ob} {n i : Nat} {x : Ob} {K : List V → Prop} (h : n ≠ i) : wMut (H.set n x) i K = wMut H i K := by
  unfold wMut; rw [List.getElem?_set_ne h]
theorem wLive_eq {H : List Ob} {n : Nat} {l : List V} {K : List V → Prop} (h : n < H.length) : wLive (H.set n (.live l)) n K = K l := wLive_at (by rw [List.getElem?_set_self h])
theorem wMut_eq {H : List Ob} {n : Nat} {l : List V} {K : List V → Prop} (h : n < H.length) : wMut (H.set n (.live l)) n K = K l := wMut_at (by rw [List.getElem?_set_self h])
theorem has_val {n : Nat} {H : List Ob} {v : V} {l : List V} (h : Has n H v l) : cellsOf v = [v] ∧ isAny v = false ∧ storable v = true := by
  obtain ⟨_, _, h3⟩ := h
  rcases h3 with ⟨c, rfl⟩ | ⟨j, c, rfl, _⟩ <;> exact ⟨rfl, rfl, rfl⟩
end Fz
namespace Fz
open Go
theorem wLive_sees {R H : List Ob} {i : Nat} {l : List V} {K : List V → Prop} (hs : Sees R H) (h : R[i]? = some (.live l)) : wLive H i K = K l := by
  have := hs i
  rw [h] at this
  rcases this with h | h <;> simp [wLive, h]
end Fz
namespace Fz
open Go
def roundL (p : AP) (b : WC) (Q : QX) : QX := fun x e H => match x with
  | .normal => xL p b e H Q
  | .mayRet => False
  | x => Q x e H
theorem xL_one {p : AP} {b : WC} {Q : QX} {e : Env} {H : List Ob} (hc : okW b = true) (h : wx p b e H (roundL p b Q)) : xL p b e H Q := by
  show WX p (.loop (toA b)) e H Q
  obtain ⟨n, x, e', H', h1, h2⟩ := wx_ok b e H _ hc h
  cases x with
  | normal =>
    obtain ⟨m, x, e'', H'', h3, h4⟩ := (show WX p (.loop (toA b)) e' H' Q from h2)
    refine ⟨max n m + 1, x, e'', H'', ?_, h4⟩
    rw [exec, exec_le p (Nat.le_max_left n m) _ _ _ _ h1]
    exact exec_le p (Nat.le_max_right n m) _ _ _ _ h3
  | mayRet => cases h2
  | _ => exact ⟨n + 1, _, _, _, by rw [exec, h1], h2⟩
end Fz
set_option maxRecDepth 100000
namespace Fz.D
open Go Go.Proofs
def w3 : WF := { nt := 24, results := [(4, none)], code :=
(.seq (.reg [ao 2 (.box (.t 0)),
ao 4 (.mov (.c (.bool false)))])
(.seq (.reg [ao 6 (.call 5 []),
mv 5 6])
(.seq (.seq (.reg [ao 7 (.load true 15 (.t 2)),
mv 8 1,
ao 9 (.call 6 [(.t 7), (.t 8)]),
ao 10 (.un .not (.t 9))])
(.cond (.t 10)
(.seq (.reg [mv 11 5,
mv 4 11])
.ret)
.skip))
(.seq (.calm [mv 12 5,
⟨(some 13), .mov (.t 12), none, [0], false⟩,
⟨(some 14), .load true 15 (.t 2), some (13, true), [1], false⟩,
⟨(some 15), .mov (.t 1), some (13, true), [1], false⟩,
⟨(some 16), .call 7 [(.t 14), (.t 15)], some (13, true), [2, 3, 1, 1], false⟩,
⟨(some 17), .conv .b2s (.t 16), some (13, true), [4, 1], false⟩,
⟨(some 18), .load true 15 (.t 2), some (13, true), [1], false⟩,
⟨(some 19), .mov (.t 1), some (13, true), [1], false⟩,
⟨(some 20), .call 8 [(.t 18), (.t 19)], some (13, true), [6, 7, 4, 1], false⟩,
⟨(some 21), .conv .b2s (.t 20), some (13, true), [8, 1], false⟩,
⟨(some 22), .bin .eql .no (.t 17) (.t 21), some (13, true), [5, 9, 1], false⟩,
⟨(some 23), .pick (.t 13) (.t 22) (.c (.bool false)), none, [1, 10], false⟩,
⟨(some 4), .mov (.t 23), none, [11, 8, 0, 1, 2, 3, 4, 5, 6, 7, 8, 9, 10, 11], false⟩])
.ret)))) }
def w4 : WF := { nt := 43, results := [(4, none)], code :=
(.seq (.reg [ao 4 (.mov (.c (.bool false)))])
(.seq (.reg [ao 10 (.call 5 []),
mv 5 10])
(.seq (.seq (.reg [mv 11 0,
ao 12 (.len (.t 11)),
ao 13 (.bin .gtr .no (.t 12) (.c (.int .i64 300))),
mv 14 13,
ag 15 (.mov (.t 1)) 14 false,
ag 16 (.len (.t 15)) 14 false,
ag 17 (.bin .gtr .no (.t 16) (.c (.int .i64 200))) 14 false,
ao 18 (.pick (.t 14) (.c (.bool true)) (.t 17))])
(.cond (.t 18)
(.seq (.reg [mv 19 5,
mv 4 19])
.ret)
.skip))
(.seq (.reg [mv 21 0,
mv 22 1,
ao 23 (.call 9 [(.t 21), (.t 22)]),
mv 20 23,
ao 24 (.extract 0 (.t 20)),
ao 25 (.extract 1 (.t 20)),
ao 6 (.alloc [(.list [] true), (.list [] true), (.list [] true), (.list [] true), (.list [] true), (.list [] true), (.list [] true), (.int .i64 0), (.int .i64 0), (.int .i64 0), (.int .i64 0), (.int .i64 0), (.int .i64 0), (.bool false), (.bool false)]),
an (.store 15 (.t 6) (.t 24)),
mv 7 25])
(.seq (.reg [mv 27 0,
mv 28 1,
ao 29 (.call 10 [(.t 27), (.t 28)]),
mv 26 29,
ao 30 (.extract 0 (.t 26)),
ao 31 (.extract 1 (.t 26)),
ao 8 (.alloc [(.list [] true), (.list [] true), (.list [] true), (.list [] true), (.list [] true), (.list [] true), (.list [] true), (.int .i64 0), (.int .i64 0), (.int .i64 0), (.int .i64 0), (.int .i64 0), (.int .i64 0), (.bool false), (.bool false)]),
an (.store 15 (.t 8) (.t 30)),
mv 9 31])
(.seq (.reg [mv 32 5,
mv 33 32,
ag 34 (.mov (.t 7)) 33 true,
ag 35 (.mov (.t 9)) 33 true,
ag 36 (.bin .eql .no (.t 34) (.t 35)) 33 true,
ao 37 (.pick (.t 33) (.t 36) (.c (.bool false))),
mv 38 37,
ag 39 (.load true 15 (.t 6)) 38 true,
ag 40 (.load true 15 (.t 8)) 38 true,
ag 41 (.call 11 [(.t 39), (.t 40)]) 38 true,
ao 42 (.pick (.t 38) (.t 41) (.c (.bool false))),
mv 4 42])
.ret)))))) }
def w5 : WF := { nt := 64, results := [(0, none)], code :=
(.seq (.reg [ao 0 (.mov (.c (.bool false)))])
(.seq (.reg [ao 8 (.makeSlice 1 1 [(.int .u8 0)] (.c (.int .i64 100)) (.c (.int .i64 100))),
mv 1 8])
(.seq (.reg [ao 9 (.makeSlice 1 1 [(.int .u8 0)] (.c (.int .i64 100)) (.c (.int .i64 100))),
ao 10 (.buildSlice 1 1 [(.int .i64 0)] [(0, 1, (.c (.int .i64 5)))]),
ao 11 (.buildSlice 1 1 [(.int .u8 0)] [(0, 1, (.c (.int .u8 120)))]),
ao 12 (.mem .mark [(.t 11)]),
ao 13 (.build [(.list [] true), (.list [] true), (.list [] true), (.list [] true), (.list [] true), (.list [] true), (.list [] true), (.int .i64 0), (.int .i64 0), (.int .i64 0), (.int .i64 0), (.int .i64 0), (.int .i64 0), (.bool false), (.bool false)] [(0, 1, (.t 9)), (1, 1, (.t 10)), (6, 1, (.t 12)), (8, 1, (.c (.int .i64 9)))]),
ao 2 (.alloc [(.list [] true), (.list [] true), (.list [] true), (.list [] true), (.list [] true), (.list [] true), (.list [] true), (.int .i64 0), (.int .i64 0), (.int .i64 0), (.int .i64 0), (.int .i64 0), (.int .i64 0), (.bool false), (.bool false)]),
an (.store 15 (.t 2) (.t 13))])
(.seq (.reg [ao 14 (.fieldAddr 0 (.t 2)),
ao 15 (.load false 1 (.t 14)),
ao 16 (.indexSl 1 (.t 15) (.c (.int .i64 70))),
an (.store 1 (.t 16) (.c (.int .u8 1)))])
(.seq (.reg [ao 17 (.load true 15 (.t 2)),
mv 18 1,
ao 19 (.call 7 [(.t 17), (.t 18)]),
mv 3 19])
(.seq (.reg [mv 21 3,
mv 22 1,
ao 23 (.call 9 [(.t 21), (.t 22)]),
mv 20 23,
ao 24 (.extract 0 (.t 20)),
ao 25 (.extract 1 (.t 20)),
ao 4 (.alloc [(.list [] true), (.list [] true), (.list [] true), (.list [] true), (.list [] true), (.list [] true), (.list [] true), (.int .i64 0), (.int .i64 0), (.int .i64 0), (.int .i64 0), (.int .i64 0), (.int .i64 0), (.bool false), (.bool false)]),
an (.store 15 (.t 4) (.t 24)),
mv 5 25])
(.seq (.reg [mv 27 3,
mv 28 3,
ao 29 (.len (.t 28)),
ao 30 (.bin .quo .no (.t 29) (.c (.int .i64 2))),
ao 31 (.slice (.sl 1) (.t 27) none (some (.t 30)) none),
mv 32 1,
ao 33 (.call 9 [(.t 31), (.t 32)]),
mv 26 33,
ao 34 (.extract 0 (.t 26)),
ao 35 (.extract 1 (.t 26)),
ao 6 (.alloc [(.list [] true), (.list [] true), (.list [] true), (.list [] true), (.list [] true), (.list [] true), (.list [] true), (.int .i64 0), (.int .i64 0), (.int .i64 0), (.int .i64 0), (.int .i64 0), (.int .i64 0), (.bool false), (.bool false)]),
an (.store 15 (.t 6) (.t 34)),
mv 7 35])
(.seq (.reg [mv 36 5,
ao 37 (.bin .eql .no (.t 36) (.c (.int .i64 0))),
mv 38 37,
ag 39 (.load true 15 (.t 2)) 38 true,
ag 40 (.load true 15 (.t 4)) 38 true,
ag 41 (.call 11 [(.t 39), (.t 40)]) 38 true,
ao 42 (.pick (.t 38) (.t 41) (.c (.bool false))),
mv 43 42,
ag 44 (.mov (.t 7)) 43 true,
ag 45 (.bin .neq .no (.t 44) (.c (.int .i64 0))) 43 true,
ao 46 (.pick (.t 43) (.t 45) (.c (.bool false))),
mv 47 46,
ag 48 (.mov (.t 3)) 47 true,
ag 49 (.len (.t 48)) 47 true,
ag 50 (.bin .gtr .no (.t 49) (.c (.int .i64 10))) 47 true,
ao 51 (.pick (.t 47) (.t 50) (.c (.bool false))),
mv 52 51,
ag 53 (.mov (.t 3)) 52 true,
ag 54 (.indexSl 1 (.t 53) (.c (.int .i64 0))) 52 true,
ag 55 (.load false 1 (.t 54)) 52 true,
ag 56 (.bin .eql .no (.t 55) (.c (.int .u8 2))) 52 true,
ao 57 (.pick (.t 52) (.t 56) (.c (.bool false))),
mv 58 57,
ag 59 (.mov (.t 3)) 58 true,
ag 60 (.indexSl 1 (.t 59) (.c (.int .i64 1))) 58 true,
ag 61 (.load false 1 (.t 60)) 58 true,
ag 62 (.bin .eql .no (.t 61) (.c (.int .u8 2))) 58 true,
ao 63 (.pick (.t 58) (.t 62) (.c (.bool false))),
mv 0 63])
.ret)))))))) }
def w6 : WF := { nt := 15, results := [(4, none)], code :=
(.seq (.reg [ao 2 (.box (.t 0)),
ao 4 (.mov (.c (.bool false)))])
(.seq (.reg [ao 5 (.load true 15 (.t 2)),
ao 6 (.call 12 [(.t 5)]),
mv 7 6,
ag 8 (.fieldAddr 0 (.t 2)) 7 true,
ag 9 (.load false 1 (.t 8)) 7 true,
ag 10 (.len (.t 9)) 7 true,
ag 11 (.mov (.t 1)) 7 true,
ag 12 (.len (.t 11)) 7 true,
ag 13 (.bin .eql .no (.t 10) (.t 12)) 7 true,
ao 14 (.pick (.t 7) (.t 13) (.c (.bool false))),
mv 4 14])
.ret)) }
def ca70 : WC := (.seq (.reg [mv 7 14])
(.reg [mv 8 15]))
def cb70 : WC :=
(.block 1 (.seq (.reg [mv 16 7,
ao 17 (.bin .mul .no (.t 16) (.c (.int .i64 64))),
mv 9 17])
(.seq (.reg [mv 18 8,
ao 19 (.load false 1 (.t 3)),
mv 20 9,
mv 21 9,
mv 22 8,
ao 23 (.len (.t 22)),
ao 24 (.bin .add .no (.t 21) (.t 23)),
ao 25 (.slice (.sl 1) (.t 19) (some (.t 20)) (some (.t 24)) none),
ao 26 (.call 14 [(.t 18), (.t 25)]),
ao 27 (.un .not (.t 26))])
(.cond (.t 27)
(.seq (.calm [ao 28 (.load false 1 (.t 5)),
mv 29 7,
⟨(some 30), .call 16 [(.t 29)], none, [1], false⟩,
mv 31 8,
⟨(some 32), .call 18 [(.t 31)], none, [3, 2], false⟩,
⟨(some 33), .call 17 [(.t 32)], none, [4, 4], false⟩,
⟨(some 34), .pur (.lst 1 3 [(.list [] true)] [(0, 1), (1, 1), (2, 1)]) [(.t 28), (.t 30), (.t 33)], none, [0, 2, 5], false⟩,
⟨(some 35), .call 15 [(.t 34)], none, [6, 5], true⟩,
⟨none, .store 1 (.t 5) (.t 35), none, [7, 7, 0, 1, 2, 3, 4, 5, 6, 7], true⟩])
(.reg [ao 36 (.load false 1 (.t 6)),
ao 37 (.bin .add .no (.t 36) (.c (.int .i64 1))),
an (.store 1 (.t 6) (.t 37))]))
.skip))))
def bd70 : ABody := { keep := [3, 5, 6], ps := [14, 15], assign := toA ca70, body := toA cb70 }
def w7 : WF := { nt := 53, results := [(4, none)], code :=
(.seq (.reg [ao 2 (.box (.t 0)),
ao 3 (.box (.t 1)),
ao 4 (.mov (.c (.list [] true)))])
(.seq (.reg [ao 5 (.alloc [(.list [] true)])])
(.seq (.reg [ao 6 (.alloc [(.int .i64 0)]),
an (.store 1 (.t 6) (.c (.int .i64 0)))])
(.seq (.seq (.reg [ao 11 (.fieldAddr 0 (.t 2)),
ao 12 (.load false 1 (.t 11)),
ao 13 (.call 13 [(.t 12)])])
(.block 0 (.range 70 (.t 13) [14, 15] ca70 cb70)))
(.seq (.reg [ao 38 (.load true 15 (.t 2)),
ao 39 (.call 21 [(.t 38)]),
ao 40 (.build [(.list [] true), (.list [] true), (.list [] true), (.list [] true), (.list [] true), (.list [] true), (.list [] true), (.int .i64 0), (.int .i64 0), (.int .i64 0), (.int .i64 0), (.int .i64 0), (.int .i64 0), (.bool false), (.bool false)] []),
ao 41 (.call 20 [(.t 39), (.t 40)]),
ao 42 (.call 19 [(.t 41)]),
mv 10 42])
(.seq (.calm [ao 43 (.load false 1 (.t 6)),
⟨(some 44), .call 16 [(.t 43)], none, [0], false⟩,
ao 45 (.load false 1 (.t 5)),
ao 46 (.fieldAddr 6 (.t 2)),
⟨(some 47), .load false 1 (.t 46), none, [3], false⟩,
⟨(some 48), .call 17 [(.t 47)], none, [4, 1], false⟩,
mv 49 10,
⟨(some 50), .call 17 [(.t 49)], none, [6, 5], false⟩,
⟨(some 51), .pur (.lst 1 4 [(.list [] true)] [(0, 1), (1, 1), (2, 1), (3, 1)]) [(.t 44), (.t 45), (.t 48), (.t 50)], none, [1, 2, 5, 7], false⟩,
⟨(some 52), .call 15 [(.t 51)], none, [8, 7], true⟩,
⟨(some 4), .mov (.t 52), none, [9, 9, 0, 1, 2, 3, 4, 5, 6, 7, 8, 9], false⟩])
.ret)))))) }
def w8 : WF := { nt := 62, results := [(4, none)], code :=
(.seq (.reg [ao 2 (.box (.t 0)),
ao 4 (.mov (.c (.list [] true)))])
(.seq (.reg [ao 5 (.mov (.c (.list [] true)))])
(.seq (.reg [ao 6 (.mov (.c (.int .i64 0)))])
(.seq (.seq (.reg [ao 7 (.mov (.c (.int .i64 0)))])
(.block 0 (.loop (.seq (.seq (.reg [mv 11 7,
mv 12 1,
ao 13 (.call 22 [(.t 12)]),
ao 14 (.bin .lss .no (.t 11) (.t 13))])
(.cond (.t 14)
.skip
(.exit 0)))
(.seq (.block 1 (.seq (.reg [ao 17 (.fieldAddr 0 (.t 2)),
ao 18 (.load false 1 (.t 17)),
mv 19 7,
ao 20 (.call 23 [(.t 18), (.t 19)]),
mv 8 20])
(.seq (.calm [mv 21 8,
⟨(some 22), .conv .b2s (.t 21), none, [0], false⟩,
mv 23 1,
mv 24 7,
⟨(some 25), .call 23 [(.t 23), (.t 24)], none, [2, 3], false⟩,
⟨(some 26), .conv .b2s (.t 25), none, [4], false⟩,
⟨(some 27), .bin .neq .no (.t 22) (.t 26), none, [1, 5], false⟩])
(.cond (.t 27)
(.seq (.reg [mv 28 5,
mv 29 7,
ao 30 (.call 24 [(.t 29)]),
ao 31 (.append 1 1 none (.t 28) (.t 30)),
mv 5 31])
(.seq (.reg [mv 32 5,
mv 33 8,
ao 34 (.call 26 [(.t 33)]),
ao 35 (.call 25 [(.t 34)]),
ao 36 (.append 1 1 none (.t 32) (.t 35)),
mv 5 36])
(.reg [mv 37 6,
ao 38 (.bin .add .no (.t 37) (.c (.int .i64 1))),
mv 6 38])))
.skip))))
(.reg [mv 15 7,
ao 16 (.bin .add .no (.t 15) (.c (.int .i64 1))),
mv 7 16]))))))
(.seq (.reg [ao 39 (.buildSlice 1 0 [(.int .u8 0)] []),
mv 40 6,
ao 41 (.call 24 [(.t 40)]),
ao 42 (.append 1 1 none (.t 39) (.t 41)),
mv 9 42])
(.seq (.reg [mv 43 9,
mv 44 5,
ao 45 (.append 1 1 none (.t 43) (.t 44)),
mv 9 45])
(.seq (.reg [mv 46 9,
ao 47 (.fieldAddr 6 (.t 2)),
ao 48 (.load false 1 (.t 47)),
ao 49 (.call 25 [(.t 48)]),
ao 50 (.append 1 1 none (.t 46) (.t 49)),
mv 9 50])
(.seq (.reg [ao 51 (.load true 15 (.t 2)),
ao 10 (.alloc [(.list [] true), (.list [] true), (.list [] true), (.list [] true), (.list [] true), (.list [] true), (.list [] true), (.int .i64 0), (.int .i64 0), (.int .i64 0), (.int .i64 0), (.int .i64 0), (.int .i64 0), (.bool false), (.bool false)]),
an (.store 15 (.t 10) (.t 51))])
(.seq (.reg [ao 52 (.fieldAddr 0 (.t 10)),
an (.store 1 (.t 52) (.c (.list [] true)))])
(.seq (.reg [ao 53 (.fieldAddr 6 (.t 10)),
an (.store 1 (.t 53) (.c (.list [] true)))])
(.seq (.reg [mv 54 9,
ao 55 (.load true 15 (.t 10)),
ao 56 (.build [(.list [] true), (.list [] true), (.list [] true), (.list [] true), (.list [] true), (.list [] true), (.list [] true), (.int .i64 0), (.int .i64 0), (.int .i64 0), (.int .i64 0), (.int .i64 0), (.int .i64 0), (.bool false), (.bool false)] []),
ao 57 (.call 28 [(.t 55), (.t 56)]),
ao 58 (.call 27 [(.t 57)]),
ao 59 (.call 25 [(.t 58)]),
ao 60 (.append 1 1 none (.t 54) (.t 59)),
mv 9 60])
(.seq (.reg [mv 61 9,
mv 4 61])
.ret)))))))))))) }
def w9 : WF := { nt := 44, results := [(4, some (true, 15)), (5, some (false, 1))], code := .skip, dfr := some ([(.reg [ao 4 (.alloc [(.list [] true), (.list [] true), (.list [] true), (.list [] true), (.list [] true), (.list [] true), (.list [] true), (.int .i64 0), (.int .i64 0), (.int .i64 0), (.int .i64 0), (.int .i64 0), (.int .i64 0), (.bool false), (.bool false)]),
ao 5 (.alloc [(.int .i64 0)])])],
[ao 11 (.makeFunc (.func 29) [] [(.t 4), (.t 5)])],
(.t 11),
(.seq (.reg [mv 12 0,
ao 13 (.call 30 [(.t 12)]),
mv 6 13])
(.seq (.reg [mv 14 6,
mv 15 1,
ao 16 (.call 31 [(.t 14), (.t 15)]),
mv 7 16])
(.seq (.reg [mv 17 6,
ao 18 (.call 32 [(.t 17), (.c (.int .i64 65536))]),
mv 19 6,
ao 20 (.call 32 [(.t 19), (.c (.int .i64 65536))]),
mv 8 18,
mv 9 20])
(.seq (.reg [mv 21 6,
ao 22 (.call 34 [(.t 21)]),
ao 23 (.call 33 [(.t 22)])])
(.seq (.reg [mv 25 9,
ao 26 (.call 35 [(.t 25)]),
mv 24 26,
ao 27 (.extract 0 (.t 24)),
ao 28 (.extract 1 (.t 24)),
ao 10 (.alloc [(.list [] true), (.int .i64 0), (.list [] true), (.int .i64 0), (.list [] true), (.int .i64 0), (.list [] true), (.int .i64 0), (.list [] true), (.int .i64 0), (.list [] true), (.int .i64 0), (.int .i64 0), (.int .i64 0), (.int .i64 0), (.int .i64 0), (.int .i64 0), (.int .i64 0), (.bool false), (.bool false)]),
an (.store 20 (.t 10) (.t 27)),
an (.store 1 (.t 5) (.t 28))])
(.seq (.reg [ao 29 (.load false 1 (.t 5)),
ao 30 (.call 33 [(.t 29)])])
(.seq (.reg [ao 31 (.load true 20 (.t 10)),
ao 32 (.call 36 [(.t 31)])])
(.seq (.reg [ao 34 (.build [(.list [] true), (.list [] true), (.list [] true), (.list [] true), (.list [] true), (.list [] true), (.list [] true), (.int .i64 0), (.int .i64 0), (.int .i64 0), (.int .i64 0), (.int .i64 0), (.int .i64 0), (.bool false), (.bool false)] []),
ao 35 (.load true 20 (.t 10)),
ao 36 (.call 37 [(.t 34), (.t 35)]),
mv 33 36,
ao 37 (.extract 0 (.t 33)),
ao 38 (.extract 1 (.t 33)),
an (.store 15 (.t 4) (.t 37))])
(.seq (.reg [mv 39 7,
mv 40 8,
ao 41 (.fieldAddr 0 (.t 4)),
an (.store 1 (.t 41) (.t 39)),
ao 42 (.fieldAddr 6 (.t 4)),
an (.store 1 (.t 42) (.t 40))])
(.seq (.reg [ao 43 (.load true 15 (.t 4)),
an (.store 15 (.t 4) (.t 43)),
an (.store 1 (.t 5) (.c (.int .i64 0)))])
.ret))))))))))) }
def w10 : WF := { nt := 100, results := [(4, some (true, 15)), (5, none)], code :=
(.seq (.reg [ao 4 (.alloc [(.list [] true), (.list [] true), (.list [] true), (.list [] true), (.list [] true), (.list [] true), (.list [] true), (.int .i64 0), (.int .i64 0), (.int .i64 0), (.int .i64 0), (.int .i64 0), (.int .i64 0), (.bool false), (.bool false)]),
ao 5 (.mov (.c (.int .i64 0)))])
(.seq (.reg [mv 18 0,
ao 19 (.build [(.list [] true), (.int .i64 0), (.int .i64 0)] [(0, 1, (.t 18))]),
mv 20 1,
ao 21 (.call 38 [(.t 19), (.t 20)]),
mv 17 21,
ao 22 (.extract 0 (.t 17)),
ao 23 (.extract 1 (.t 17)),
ao 6 (.alloc [(.list [] true), (.int .i64 0), (.int .i64 0)]),
an (.store 3 (.t 6) (.t 22)),
mv 7 23])
(.seq (.reg [ao 25 (.load true 3 (.t 6)),
ao 26 (.call 39 [(.t 25), (.c (.int .i64 65536))]),
mv 24 26,
ao 27 (.extract 0 (.t 24)),
ao 28 (.extract 1 (.t 24)),
ao 8 (.alloc [(.list [] true), (.int .i64 0), (.int .i64 0)]),
an (.store 3 (.t 8) (.t 27)),
mv 9 28])
(.seq (.reg [ao 30 (.load true 3 (.t 8)),
ao 31 (.call 39 [(.t 30), (.c (.int .i64 65536))]),
mv 29 31,
ao 32 (.extract 0 (.t 29)),
ao 33 (.extract 1 (.t 29)),
ao 10 (.alloc [(.list [] true), (.int .i64 0), (.int .i64 0)]),
an (.store 3 (.t 10) (.t 32)),
mv 11 33])
(.seq (.reg [ao 34 (.load true 3 (.t 10)),
ao 35 (.call 40 [(.t 34)]),
mv 12 35])
(.seq (.seq (.reg [mv 36 12,
ao 37 (.bin .neq .no (.t 36) (.c (.int .i64 0)))])
(.cond (.t 37)
(.seq (.reg [ao 38 (.build [(.list [] true), (.list [] true), (.list [] true), (.list [] true), (.list [] true), (.list [] true), (.list [] true), (.int .i64 0), (.int .i64 0), (.int .i64 0), (.int .i64 0), (.int .i64 0), (.int .i64 0), (.bool false), (.bool false)] []),
mv 39 12,
an (.store 15 (.t 4) (.t 38)),
mv 5 39])
.ret)
.skip))
(.seq (.reg [mv 41 11,
ao 42 (.call 41 [(.t 41)]),
mv 40 42,
ao 43 (.extract 0 (.t 40)),
ao 44 (.extract 1 (.t 40)),
ao 13 (.alloc [(.list [] true), (.int .i64 0), (.list [] true), (.int .i64 0), (.list [] true), (.int .i64 0), (.list [] true), (.int .i64 0), (.list [] true), (.int .i64 0), (.list [] true), (.int .i64 0), (.int .i64 0), (.int .i64 0), (.int .i64 0), (.int .i64 0), (.int .i64 0), (.int .i64 0), (.bool false), (.bool false)]),
an (.store 20 (.t 13) (.t 43)),
mv 14 44])
(.seq (.seq (.reg [mv 45 14,
ao 46 (.bin .neq .no (.t 45) (.c (.int .i64 0)))])
(.cond (.t 46)
(.seq (.reg [ao 47 (.build [(.list [] true), (.list [] true), (.list [] true), (.list [] true), (.list [] true), (.list [] true), (.list [] true), (.int .i64 0), (.int .i64 0), (.int .i64 0), (.int .i64 0), (.int .i64 0), (.int .i64 0), (.bool false), (.bool false)] []),
mv 48 14,
an (.store 15 (.t 4) (.t 47)),
mv 5 48])
.ret)
.skip))
(.seq (.seq (.reg [ao 49 (.fieldAddr 0 (.t 13)),
ao 50 (.load false 1 (.t 49)),
ao 51 (.len (.t 50)),
ao 52 (.bin .gtr .no (.t 51) (.c (.int .i64 0))),
mv 53 52,
ag 54 (.fieldAddr 11 (.t 13)) 53 false,
ag 55 (.load false 1 (.t 54)) 53 false,
ag 56 (.bin .neq .no (.t 55) (.c (.int .i64 0))) 53 false,
ao 57 (.pick (.t 53) (.c (.bool true)) (.t 56)),
mv 58 57,
ag 59 (.fieldAddr 1 (.t 13)) 58 false,
ag 60 (.fieldAddr 0 (.t 59)) 58 false,
ag 61 (.load false 1 (.t 60)) 58 false,
ag 62 (.bin .neq .no (.t 61) (.c (.int .i64 0))) 58 false,
ao 63 (.pick (.t 58) (.c (.bool true)) (.t 62)),
mv 64 63,
ag 65 (.fieldAddr 3 (.t 13)) 64 false,
ag 66 (.fieldAddr 0 (.t 65)) 64 false,
ag 67 (.load false 1 (.t 66)) 64 false,
ag 68 (.bin .neq .no (.t 67) (.c (.int .i64 0))) 64 false,
ao 69 (.pick (.t 64) (.c (.bool true)) (.t 68)),
mv 70 69,
ag 71 (.fieldAddr 5 (.t 13)) 70 false,
ag 72 (.fieldAddr 0 (.t 71)) 70 false,
ag 73 (.load false 1 (.t 72)) 70 false,
ag 74 (.bin .neq .no (.t 73) (.c (.int .i64 0))) 70 false,
ao 75 (.pick (.t 70) (.c (.bool true)) (.t 74)),
mv 76 75,
ag 77 (.fieldAddr 7 (.t 13)) 76 false,
ag 78 (.fieldAddr 0 (.t 77)) 76 false,
ag 79 (.load false 1 (.t 78)) 76 false,
ag 80 (.bin .neq .no (.t 79) (.c (.int .i64 0))) 76 false,
ao 81 (.pick (.t 76) (.c (.bool true)) (.t 80)),
mv 82 81,
ag 83 (.fieldAddr 9 (.t 13)) 82 false,
ag 84 (.fieldAddr 0 (.t 83)) 82 false,
ag 85 (.load false 1 (.t 84)) 82 false,
ag 86 (.bin .neq .no (.t 85) (.c (.int .i64 0))) 82 false,
ao 87 (.pick (.t 82) (.c (.bool true)) (.t 86))])
(.cond (.t 87)
(.seq (.reg [ao 88 (.build [(.list [] true), (.list [] true), (.list [] true), (.list [] true), (.list [] true), (.list [] true), (.list [] true), (.int .i64 0), (.int .i64 0), (.int .i64 0), (.int .i64 0), (.int .i64 0), (.int .i64 0), (.bool false), (.bool false)] []),
an (.store 15 (.t 4) (.t 88)),
ao 5 (.mov (.c (.int .i64 2)))])
.ret)
.skip))
(.seq (.reg [ao 90 (.build [(.list [] true), (.list [] true), (.list [] true), (.list [] true), (.list [] true), (.list [] true), (.list [] true), (.int .i64 0), (.int .i64 0), (.int .i64 0), (.int .i64 0), (.int .i64 0), (.int .i64 0), (.bool false), (.bool false)] []),
ao 91 (.load true 20 (.t 13)),
ao 92 (.call 42 [(.t 90), (.t 91)]),
mv 89 92,
ao 93 (.extract 0 (.t 89)),
ao 94 (.extract 1 (.t 89)),
ao 15 (.alloc [(.list [] true), (.list [] true), (.list [] true), (.list [] true), (.list [] true), (.list [] true), (.list [] true), (.int .i64 0), (.int .i64 0), (.int .i64 0), (.int .i64 0), (.int .i64 0), (.int .i64 0), (.bool false), (.bool false)]),
an (.store 15 (.t 15) (.t 93)),
mv 16 94])
(.seq (.reg [mv 95 7,
ao 96 (.fieldAddr 0 (.t 15)),
an (.store 1 (.t 96) (.t 95))])
(.seq (.reg [mv 97 9,
ao 98 (.fieldAddr 6 (.t 15)),
an (.store 1 (.t 98) (.t 97))])
(.seq (.reg [ao 99 (.load true 15 (.t 15)),
an (.store 15 (.t 4) (.t 99)),
ao 5 (.mov (.c (.int .i64 0)))])
.ret))))))))))))) }
def w11 : WF := { nt := 116, results := [(4, none)], code :=
(.seq (.reg [ao 2 (.box (.t 0)),
ao 3 (.box (.t 1)),
ao 4 (.mov (.c (.bool false)))])
(.seq (.reg [ao 7 (.fieldAddr 7 (.t 2)),
ao 8 (.load false 1 (.t 7)),
ao 9 (.fieldAddr 7 (.t 3)),
ao 10 (.load false 1 (.t 9)),
ao 11 (.bin .eql .no (.t 8) (.t 10)),
mv 12 11,
ag 13 (.fieldAddr 8 (.t 2)) 12 true,
ag 14 (.load false 1 (.t 13)) 12 true,
ag 15 (.fieldAddr 8 (.t 3)) 12 true,
ag 16 (.load false 1 (.t 15)) 12 true,
ag 17 (.bin .eql .no (.t 14) (.t 16)) 12 true,
ao 18 (.pick (.t 12) (.t 17) (.c (.bool false))),
mv 19 18,
ag 20 (.fieldAddr 9 (.t 2)) 19 true,
ag 21 (.load false 1 (.t 20)) 19 true,
ag 22 (.fieldAddr 9 (.t 3)) 19 true,
ag 23 (.load false 1 (.t 22)) 19 true,
ag 24 (.bin .eql .no (.t 21) (.t 23)) 19 true,
ao 25 (.pick (.t 19) (.t 24) (.c (.bool false))),
mv 26 25,
ag 27 (.fieldAddr 10 (.t 2)) 26 true,
ag 28 (.load false 1 (.t 27)) 26 true,
ag 29 (.fieldAddr 10 (.t 3)) 26 true,
ag 30 (.load false 1 (.t 29)) 26 true,
ag 31 (.bin .eql .no (.t 28) (.t 30)) 26 true,
ao 32 (.pick (.t 26) (.t 31) (.c (.bool false))),
mv 33 32,
ag 34 (.fieldAddr 11 (.t 2)) 33 true,
ag 35 (.load false 1 (.t 34)) 33 true,
ag 36 (.fieldAddr 11 (.t 3)) 33 true,
ag 37 (.load false 1 (.t 36)) 33 true,
ag 38 (.bin .eql .no (.t 35) (.t 37)) 33 true,
ao 39 (.pick (.t 33) (.t 38) (.c (.bool false))),
mv 40 39,
ag 41 (.fieldAddr 12 (.t 2)) 40 true,
ag 42 (.load false 1 (.t 41)) 40 true,
ag 43 (.fieldAddr 12 (.t 3)) 40 true,
ag 44 (.load false 1 (.t 43)) 40 true,
ag 45 (.bin .eql .no (.t 42) (.t 44)) 40 true,
ao 46 (.pick (.t 40) (.t 45) (.c (.bool false))),
mv 47 46,
ag 48 (.fieldAddr 13 (.t 2)) 47 true,
ag 49 (.load false 1 (.t 48)) 47 true,
ag 50 (.fieldAddr 13 (.t 3)) 47 true,
ag 51 (.load false 1 (.t 50)) 47 true,
ag 52 (.bin .eql .bool (.t 49) (.t 51)) 47 true,
ao 53 (.pick (.t 47) (.t 52) (.c (.bool false))),
mv 54 53,
ag 55 (.fieldAddr 14 (.t 2)) 54 true,
ag 56 (.load false 1 (.t 55)) 54 true,
ag 57 (.fieldAddr 14 (.t 3)) 54 true,
ag 58 (.load false 1 (.t 57)) 54 true,
ag 59 (.bin .eql .bool (.t 56) (.t 58)) 54 true,
ao 60 (.pick (.t 54) (.t 59) (.c (.bool false))),
mv 5 60])
(.seq (.reg [ao 61 (.fieldAddr 1 (.t 2)),
ao 62 (.load false 1 (.t 61)),
ao 63 (.fieldAddr 1 (.t 3)),
ao 64 (.load false 1 (.t 63)),
ao 65 (.call 43 [(.t 62), (.t 64)]),
mv 66 65,
ag 67 (.fieldAddr 2 (.t 2)) 66 true,
ag 68 (.load false 1 (.t 67)) 66 true,
ag 69 (.fieldAddr 2 (.t 3)) 66 true,
ag 70 (.load false 1 (.t 69)) 66 true,
ag 71 (.call 44 [(.t 68), (.t 70)]) 66 true,
ao 72 (.pick (.t 66) (.t 71) (.c (.bool false))),
mv 73 72,
ag 74 (.fieldAddr 3 (.t 2)) 73 true,
ag 75 (.load false 1 (.t 74)) 73 true,
ag 76 (.fieldAddr 3 (.t 3)) 73 true,
ag 77 (.load false 1 (.t 76)) 73 true,
ag 78 (.call 43 [(.t 75), (.t 77)]) 73 true,
ao 79 (.pick (.t 73) (.t 78) (.c (.bool false))),
mv 80 79,
ag 81 (.fieldAddr 4 (.t 2)) 80 true,
ag 82 (.load false 1 (.t 81)) 80 true,
ag 83 (.fieldAddr 4 (.t 3)) 80 true,
ag 84 (.load false 1 (.t 83)) 80 true,
ag 85 (.call 45 [(.t 82), (.t 84)]) 80 true,
ao 86 (.pick (.t 80) (.t 85) (.c (.bool false))),
mv 87 86,
ag 88 (.fieldAddr 5 (.t 2)) 87 true,
ag 89 (.load false 1 (.t 88)) 87 true,
ag 90 (.fieldAddr 5 (.t 3)) 87 true,
ag 91 (.load false 1 (.t 90)) 87 true,
ag 92 (.call 46 [(.t 89), (.t 91)]) 87 true,
ao 93 (.pick (.t 87) (.t 92) (.c (.bool false))),
mv 6 93])
(.seq (.reg [mv 94 5,
mv 95 94,
ag 96 (.mov (.t 6)) 95 true,
ao 97 (.pick (.t 95) (.t 96) (.c (.bool false))),
mv 98 97,
ag 99 (.fieldAddr 0 (.t 2)) 98 true,
ag 100 (.load false 1 (.t 99)) 98 true,
ag 101 (.conv .b2s (.t 100)) 98 true,
ag 102 (.fieldAddr 0 (.t 3)) 98 true,
ag 103 (.load false 1 (.t 102)) 98 true,
ag 104 (.conv .b2s (.t 103)) 98 true,
ag 105 (.bin .eql .no (.t 101) (.t 104)) 98 true,
ao 106 (.pick (.t 98) (.t 105) (.c (.bool false))),
mv 107 106,
ag 108 (.fieldAddr 6 (.t 2)) 107 true,
ag 109 (.load false 1 (.t 108)) 107 true,
ag 110 (.conv .b2s (.t 109)) 107 true,
ag 111 (.fieldAddr 6 (.t 3)) 107 true,
ag 112 (.load false 1 (.t 111)) 107 true,
ag 113 (.conv .b2s (.t 112)) 107 true,
ag 114 (.bin .eql .no (.t 110) (.t 113)) 107 true,
ao 115 (.pick (.t 107) (.t 114) (.c (.bool false))),
mv 4 115])
.ret)))) }
def w12 : WF := { nt := 63, results := [(2, none)], code :=
(.seq (.reg [ao 1 (.box (.t 0)),
ao 2 (.mov (.c (.bool false)))])
(.seq (.seq (.reg [ao 3 (.mov (.c (.int .i64 0)))])
(.block 0 (.loop (.seq (.seq (.reg [mv 4 3,
ao 5 (.fieldAddr 4 (.t 1)),
ao 6 (.load false 1 (.t 5)),
ao 7 (.len (.t 6)),
ao 8 (.bin .lss .no (.t 4) (.t 7)),
mv 9 8,
ag 10 (.mov (.t 3)) 9 true,
ag 11 (.bin .lss .no (.t 10) (.c (.int .i64 41))) 9 true,
ao 12 (.pick (.t 9) (.t 11) (.c (.bool false)))])
(.cond (.t 12)
.skip
(.exit 0)))
(.seq (.block 1 (.seq (.reg [ao 15 (.fieldAddr 4 (.t 1)),
ao 16 (.load false 1 (.t 15)),
mv 17 3,
ao 18 (.indexSl 4 (.t 16) (.t 17)),
ao 19 (.fieldAddr 0 (.t 18)),
ao 20 (.load false 1 (.t 19)),
ao 21 (.lenS (.t 20)),
ao 22 (.bin .gtr .no (.t 21) (.c (.int .i64 60)))])
(.cond (.t 22)
(.seq (.reg [ao 2 (.mov (.c (.bool false)))])
.ret)
.skip)))
(.reg [mv 13 3,
ao 14 (.bin .add .no (.t 13) (.c (.int .i64 1))),
mv 3 14]))))))
(.seq (.reg [ao 23 (.fieldAddr 0 (.t 1)),
ao 24 (.load false 1 (.t 23)),
ao 25 (.len (.t 24)),
ao 26 (.bin .leq .no (.t 25) (.c (.int .i64 600))),
mv 27 26,
ag 28 (.fieldAddr 1 (.t 1)) 27 true,
ag 29 (.load false 1 (.t 28)) 27 true,
ag 30 (.len (.t 29)) 27 true,
ag 31 (.bin .leq .no (.t 30) (.c (.int .i64 40))) 27 true,
ao 32 (.pick (.t 27) (.t 31) (.c (.bool false))),
mv 33 32,
ag 34 (.fieldAddr 2 (.t 1)) 33 true,
ag 35 (.load false 1 (.t 34)) 33 true,
ag 36 (.len (.t 35)) 33 true,
ag 37 (.bin .leq .no (.t 36) (.c (.int .i64 40))) 33 true,
ao 38 (.pick (.t 33) (.t 37) (.c (.bool false))),
mv 39 38,
ag 40 (.fieldAddr 3 (.t 1)) 39 true,
ag 41 (.load false 1 (.t 40)) 39 true,
ag 42 (.len (.t 41)) 39 true,
ag 43 (.bin .leq .no (.t 42) (.c (.int .i64 200))) 39 true,
ao 44 (.pick (.t 39) (.t 43) (.c (.bool false))),
mv 45 44,
ag 46 (.fieldAddr 4 (.t 1)) 45 true,
ag 47 (.load false 1 (.t 46)) 45 true,
ag 48 (.len (.t 47)) 45 true,
ag 49 (.bin .leq .no (.t 48) (.c (.int .i64 40))) 45 true,
ao 50 (.pick (.t 45) (.t 49) (.c (.bool false))),
mv 51 50,
ag 52 (.fieldAddr 5 (.t 1)) 51 true,
ag 53 (.load false 1 (.t 52)) 51 true,
ag 54 (.len (.t 53)) 51 true,
ag 55 (.bin .leq .no (.t 54) (.c (.int .i64 100))) 51 true,
ao 56 (.pick (.t 51) (.t 55) (.c (.bool false))),
mv 57 56,
ag 58 (.fieldAddr 6 (.t 1)) 57 true,
ag 59 (.load false 1 (.t 58)) 57 true,
ag 60 (.len (.t 59)) 57 true,
ag 61 (.bin .leq .no (.t 60) (.c (.int .i64 200))) 57 true,
ao 62 (.pick (.t 57) (.t 61) (.c (.bool false))),
mv 2 62])
.ret))) }
def w13 : WF := { nt := 4, results := [(2, none)], code :=
(.seq (.reg [ao 1 (.box (.t 0)),
ao 2 (.mov (.c .nilfn))])
(.seq (.reg [ao 3 (.makeFunc (.func 47) [] [(.t 1)]),
mv 2 3])
.ret)) }
def w14 : WF := { nt := 10, results := [(4, none)], code :=
(.seq (.reg [ao 4 (.mov (.c (.bool false)))])
(.seq (.reg [mv 5 0,
ao 6 (.conv .b2s (.t 5)),
mv 7 1,
ao 8 (.conv .b2s (.t 7)),
ao 9 (.bin .eql .no (.t 6) (.t 8)),
mv 4 9])
.ret)) }
def w15 : WF := { nt := 36, results := [(2, none)], code :=
(.seq (.reg [ao 2 (.mov (.c (.list [] true)))])
(.seq (.reg [ao 3 (.mov (.c (.int .i64 0)))])
(.seq (.seq (.reg [mv 9 0,
ao 10 (.len (.t 9)),
ao 11 (.mov (.c (.int .i64 0)))])
(.block 0 (.loop (.seq (.reg [ao 12 (.bin .lss .no (.t 11) (.t 10))])
(.seq (.cond (.t 12)
.skip
(.exit 0))
(.seq (.block 1 (.seq (.reg [ao 13 (.indexSl 1 (.t 9) (.t 11)),
ao 14 (.load false 1 (.t 13)),
mv 5 14])
(.seq (.reg [mv 15 3,
mv 16 5,
ao 17 (.len (.t 16)),
ao 18 (.bin .add .no (.t 15) (.t 17)),
mv 3 18])
(.seq (.reg [mv 19 3,
ao 20 (.bin .lss .no (.t 19) (.c (.int .i64 0)))])
(.cond (.t 20)
(.reg [ao 21 (.makeIface 9 (.c (.str ⟨#[108, 101, 110, 32, 111, 117, 116, 32, 111, 102, 32, 114, 97, 110, 103, 101]⟩))),
an (.panic (.t 21))])
.skip)))))
(.reg [ao 22 (.bin .add .no (.t 11) (.c (.int .i64 1))),
mv 11 22])))))))
(.seq (.reg [mv 23 3,
ao 24 (.call 48 [(.c (.list [] true)), (.t 23)]),
mv 6 24])
(.seq (.seq (.reg [mv 25 0,
ao 26 (.len (.t 25)),
ao 27 (.mov (.c (.int .i64 0)))])
(.block 2 (.loop (.seq (.reg [ao 28 (.bin .lss .no (.t 27) (.t 26))])
(.seq (.cond (.t 28)
.skip
(.exit 2))
(.seq (.block 3 (.seq (.reg [ao 29 (.indexSl 1 (.t 25) (.t 27)),
ao 30 (.load false 1 (.t 29)),
mv 8 30])
(.reg [mv 31 6,
mv 32 8,
ao 33 (.append 1 1 none (.t 31) (.t 32)),
mv 6 33])))
(.reg [ao 34 (.bin .add .no (.t 27) (.c (.int .i64 1))),
mv 27 34])))))))
(.seq (.reg [mv 35 6,
mv 2 35])
.ret)))))) }
def w16 : WF := { nt := 35, results := [(2, none)], code :=
(.seq (.reg [ao 2 (.mov (.c (.list [] true)))])
(.seq (.reg [mv 6 0,
ao 7 (.conv (.int .u64) (.t 6)),
ao 8 (.bin .shl .no (.t 7) (.c (.int .u64 1))),
mv 9 0,
ao 10 (.bin .shr .no (.t 9) (.c (.int .u64 63))),
ao 11 (.conv (.int .u64) (.t 10)),
ao 12 (.bin .xor .no (.t 8) (.t 11)),
mv 3 12])
(.seq (.reg [ao 4 (.alloc [(.int .u8 0), (.int .u8 0), (.int .u8 0), (.int .u8 0), (.int .u8 0), (.int .u8 0), (.int .u8 0), (.int .u8 0), (.int .u8 0), (.int .u8 0)])])
(.seq (.reg [ao 5 (.mov (.c (.int .i64 9)))])
(.seq (.reg [mv 13 5,
mv 14 3,
ao 15 (.bin .rem .no (.t 14) (.c (.int .u64 128))),
ao 16 (.conv (.int .u8) (.t 15)),
ao 17 (.indexPA 10 1 (.t 4) (.t 13)),
an (.store 1 (.t 17) (.t 16))])
(.seq (.seq (.reg [mv 18 3,
ao 19 (.bin .quo .no (.t 18) (.c (.int .u64 128))),
mv 3 19])
(.block 0 (.loop (.seq (.seq (.reg [mv 20 3,
ao 21 (.bin .gtr .no (.t 20) (.c (.int .u64 0)))])
(.cond (.t 21)
.skip
(.exit 0)))
(.seq (.block 1 (.seq (.reg [mv 24 5,
ao 25 (.bin .sub .no (.t 24) (.c (.int .i64 1))),
mv 5 25])
(.reg [mv 26 5,
mv 27 3,
ao 28 (.bin .rem .no (.t 27) (.c (.int .u64 128))),
ao 29 (.conv (.int .u8) (.t 28)),
ao 30 (.bin .or .no (.t 29) (.c (.int .u8 128))),
ao 31 (.indexPA 10 1 (.t 4) (.t 26)),
an (.store 1 (.t 31) (.t 30))])))
(.reg [mv 22 3,
ao 23 (.bin .quo .no (.t 22) (.c (.int .u64 128))),
mv 3 23]))))))
(.seq (.reg [mv 32 5,
ao 33 (.slice (.arr 10 1) (.t 4) (some (.t 32)) none none),
ao 34 (.call 49 [(.t 33)]),
mv 2 34])
.ret))))))) }
def w17 : WF := { nt := 9, results := [(2, none)], code :=
(.seq (.reg [ao 2 (.mov (.c (.list [] true)))])
(.seq (.reg [mv 3 0,
ao 4 (.len (.t 3)),
ao 5 (.call 16 [(.t 4)]),
mv 6 0,
ao 7 (.buildSlice 1 2 [(.list [] true)] [(0, 1, (.t 5)), (1, 1, (.t 6))]),
ao 8 (.call 15 [(.t 7)]),
mv 2 8])
.ret)) }
def ca180 : WC := (.seq (.reg [mv 4 8])
(.reg [mv 5 9]))
def cb180 : WC :=
(.block 1 (.calm [ao 10 (.load false 1 (.t 3)),
mv 11 4,
⟨(some 12), .call 16 [(.t 11)], none, [1], false⟩,
⟨(some 13), .append 1 1 none (.t 10) (.t 12), none, [0, 2, 2], true⟩,
mv 14 5,
⟨(some 15), .pur (.lst 1 1 [(.int .u8 0)] [(0, 1)]) [(.t 14)], none, [4], false⟩,
⟨(some 16), .append 1 1 none (.t 13) (.t 15), none, [3, 5, 3], true⟩,
⟨none, .store 1 (.t 3) (.t 16), none, [6, 6, 0, 1, 2, 3, 4, 5, 6], true⟩]))
def bd180 : ABody := { keep := [3], ps := [8, 9], assign := toA ca180, body := toA cb180 }
def w18 : WF := { nt := 18, results := [(2, none)], code :=
(.seq (.reg [ao 2 (.mov (.c (.list [] true)))])
(.seq (.reg [ao 3 (.alloc [(.list [] true)])])
(.seq (.seq (.reg [mv 6 0,
ao 7 (.call 50 [(.t 6)])])
(.block 0 (.range 180 (.t 7) [8, 9] ca180 cb180)))
(.seq (.reg [ao 17 (.load false 1 (.t 3)),
mv 2 17])
.ret)))) }
def w19 : WF := { nt := 84, results := [(2, none)], code :=
(.seq (.reg [ao 1 (.box (.t 0)),
ao 2 (.mov (.c (.list [] true)))])
(.seq (.reg [ao 7 (.fieldAddr 0 (.t 1)),
ao 8 (.load false 1 (.t 7)),
ao 9 (.len (.t 8)),
ao 10 (.call 16 [(.t 9)]),
mv 3 10])
(.seq (.seq (.reg [ao 11 (.fieldAddr 0 (.t 1)),
ao 12 (.load false 1 (.t 11)),
ao 13 (.len (.t 12)),
ao 14 (.mov (.c (.int .i64 0)))])
(.block 0 (.loop (.seq (.reg [ao 15 (.bin .lss .no (.t 14) (.t 13))])
(.seq (.cond (.t 15)
.skip
(.exit 0))
(.seq (.block 1 (.seq (.reg [ao 16 (.indexSl 2 (.t 12) (.t 14)),
ao 17 (.load true 2 (.t 16)),
ao 5 (.alloc [(.int .i64 0), (.list [] true)]),
an (.store 2 (.t 5) (.t 17))])
(.calm [mv 18 3,
ao 19 (.fieldAddr 0 (.t 5)),
⟨(some 20), .load false 1 (.t 19), none, [1], false⟩,
⟨(some 21), .call 16 [(.t 20)], none, [2], false⟩,
ao 22 (.fieldAddr 1 (.t 5)),
⟨(some 23), .load false 1 (.t 22), none, [4], false⟩,
⟨(some 24), .call 17 [(.t 23)], none, [5, 3], false⟩,
⟨(some 25), .pur (.lst 1 3 [(.list [] true)] [(0, 1), (1, 1), (2, 1)]) [(.t 18), (.t 21), (.t 24)], none, [0, 3, 6], false⟩,
⟨(some 26), .call 15 [(.t 25)], none, [7, 6], true⟩,
⟨(some 3), .mov (.t 26), none, [8, 8, 0, 1, 2, 3, 4, 5, 6, 7, 8], false⟩])))
(.fix (some 3) (.reg [ao 27 (.bin .add .no (.t 14) (.c (.int .i64 1))),
mv 14 27]))))))))
(.seq (.reg [ao 6 (.mov (.c (.fn (.func 51) [] [])))])
(.seq (.draw [mv 28 3,
ao 29 (.fieldAddr 1 (.t 1)),
⟨(some 30), .fieldAddr 0 (.t 29), none, [1], false⟩,
⟨(some 31), .load false 1 (.t 30), none, [2], false⟩,
ao 32 (.fieldAddr 1 (.t 1)),
⟨(some 33), .fieldAddr 1 (.t 32), none, [4], false⟩,
⟨(some 34), .load false 1 (.t 33), none, [5], false⟩,
mv 35 6,
⟨(some 36), .call 52 [(.t 31), (.t 34), (.t 35)], none, [3, 6, 7], true⟩,
ao 37 (.fieldAddr 3 (.t 1)),
⟨(some 38), .fieldAddr 0 (.t 37), none, [9], false⟩,
⟨(some 39), .load false 1 (.t 38), none, [10], false⟩,
ao 40 (.fieldAddr 3 (.t 1)),
⟨(some 41), .fieldAddr 1 (.t 40), none, [12], false⟩,
⟨(some 42), .load false 1 (.t 41), none, [13], false⟩,
⟨(some 43), .call 53 [(.t 39), (.t 42), (.c (.fn (.func 54) [] []))], none, [11, 14, 8], true⟩,
ao 44 (.fieldAddr 5 (.t 1)),
⟨(some 45), .fieldAddr 0 (.t 44), none, [16], false⟩,
⟨(some 46), .load false 1 (.t 45), none, [17], false⟩,
ao 47 (.fieldAddr 5 (.t 1)),
⟨(some 48), .fieldAddr 1 (.t 47), none, [19], false⟩,
⟨(some 49), .load false 1 (.t 48), none, [20], false⟩,
mv 50 6,
⟨(some 51), .call 52 [(.t 46), (.t 49), (.t 50)], none, [18, 21, 22, 15], true⟩,
ao 52 (.fieldAddr 7 (.t 1)),
⟨(some 53), .fieldAddr 0 (.t 52), none, [24], false⟩,
⟨(some 54), .load false 1 (.t 53), none, [25], false⟩,
ao 55 (.fieldAddr 7 (.t 1)),
⟨(some 56), .fieldAddr 1 (.t 55), none, [27], false⟩,
⟨(some 57), .load false 1 (.t 56), none, [28], false⟩,
⟨(some 58), .call 57 [(.t 54), (.t 57), (.c (.fn (.func 58) [] []))], none, [26, 29, 23], true⟩,
ao 59 (.fieldAddr 9 (.t 1)),
⟨(some 60), .fieldAddr 0 (.t 59), none, [31], false⟩,
⟨(some 61), .load false 1 (.t 60), none, [32], false⟩,
ao 62 (.fieldAddr 9 (.t 1)),
⟨(some 63), .fieldAddr 1 (.t 62), none, [34], false⟩,
⟨(some 64), .load false 1 (.t 63), none, [35], false⟩,
⟨(some 65), .call 59 [(.t 61), (.t 64), (.c (.fn (.func 60) [] []))], none, [33, 36, 30], true⟩,
ao 66 (.fieldAddr 11 (.t 1)),
⟨(some 67), .load false 1 (.t 66), none, [38], false⟩,
⟨(some 68), .pur (.lst 1 1 [(.int .i64 0)] [(0, 1)]) [(.t 67)], none, [39], false⟩,
⟨(some 69), .call 55 [(.t 68)], none, [40, 37], false⟩,
ao 70 (.fieldAddr 12 (.t 1)),
⟨(some 71), .slice (.arr 6 1) (.t 70) none none none, none, [42], false⟩,
⟨(some 72), .call 55 [(.t 71)], none, [43, 41], true⟩,
ao 73 (.fieldAddr 18 (.t 1)),
⟨(some 74), .load false 1 (.t 73), none, [45], false⟩,
⟨(some 75), .call 56 [(.t 74), (.c (.int .i64 1))], none, [46, 44], false⟩,
ao 76 (.fieldAddr 19 (.t 1)),
⟨(some 77), .load false 1 (.t 76), none, [48], false⟩,
⟨(some 78), .call 56 [(.t 77), (.c (.int .i64 2))], none, [49, 47], false⟩,
⟨(some 79), .bin .add .no (.t 75) (.t 78), none, [47, 50], false⟩,
⟨(some 80), .pur (.lst 1 1 [(.int .i64 0)] [(0, 1)]) [(.t 79)], none, [51], false⟩,
⟨(some 81), .call 55 [(.t 80)], none, [52, 50], false⟩,
⟨(some 82), .pur (.lst 1 9 [(.list [] true)] [(0, 1), (1, 1), (2, 1), (3, 1), (4, 1), (5, 1), (6, 1), (7, 1), (8, 1)]) [(.t 28), (.t 36), (.t 43), (.t 51), (.t 58), (.t 65), (.t 69), (.t 72), (.t 81)], none, [0, 8, 15, 23, 30, 37, 41, 44, 53], false⟩,
⟨(some 83), .call 15 [(.t 82)], none, [54, 53], true⟩,
⟨(some 2), .mov (.t 83), none, [55, 55, 0, 1, 2, 3, 4, 5, 6, 7, 8, 9, 10, 11, 12, 13, 14, 15, 16, 17, 18, 19, 20, 21, 22, 23, 24, 25, 26, 27, 28, 29, 30, 31, 32, 33, 34, 35, 36, 37, 38, 39, 40, 41, 42, 43, 44, 45, 46, 47, 48, 49, 50, 51, 52, 53, 54, 55], false⟩])
.ret))))) }
def ca200 : WC := (.reg [ao 6 (.alloc [(.int .i64 0), (.list [] true)]),
an (.store 2 (.t 6) (.t 38))])
def cb200 : WC :=
(.block 1 (.reg [ao 39 (.fieldAddr 0 (.t 5)),
ao 40 (.load false 1 (.t 39)),
ao 41 (.load true 2 (.t 6)),
ao 42 (.buildSlice 2 1 [(.int .i64 0), (.list [] true)] [(0, 2, (.t 41))]),
ao 43 (.append 2 32 none (.t 40) (.t 42)),
ao 44 (.fieldAddr 0 (.t 5)),
an (.store 1 (.t 44) (.t 43))]))
def bd200 : ABody := { keep := [5], ps := [38], assign := toA ca200, body := toA cb200 }
def w20 : WF := { nt := 106, results := [(4, some (true, 20))], code :=
(.seq (.reg [ao 2 (.box (.t 0)),
ao 3 (.box (.t 1)),
ao 4 (.alloc [(.list [] true), (.int .i64 0), (.list [] true), (.int .i64 0), (.list [] true), (.int .i64 0), (.list [] true), (.int .i64 0), (.list [] true), (.int .i64 0), (.list [] true), (.int .i64 0), (.int .i64 0), (.int .i64 0), (.int .i64 0), (.int .i64 0), (.int .i64 0), (.int .i64 0), (.bool false), (.bool false)])])
(.seq (.reg [ao 8 (.fieldAddr 6 (.t 3)),
ao 9 (.load false 1 (.t 8)),
ao 10 (.len (.t 9)),
ao 11 (.fieldAddr 6 (.t 2)),
ao 12 (.load false 1 (.t 11)),
ao 13 (.len (.t 12)),
ao 14 (.bin .sub .no (.t 10) (.t 13)),
ao 15 (.fieldAddr 7 (.t 2)),
ao 16 (.load false 1 (.t 15)),
ao 17 (.fieldAddr 8 (.t 2)),
ao 18 (.load false 1 (.t 17)),
ao 19 (.fieldAddr 9 (.t 2)),
ao 20 (.load false 1 (.t 19)),
ao 21 (.fieldAddr 10 (.t 2)),
ao 22 (.load false 1 (.t 21)),
ao 23 (.fieldAddr 11 (.t 2)),
ao 24 (.load false 1 (.t 23)),
ao 25 (.fieldAddr 12 (.t 2)),
ao 26 (.load false 1 (.t 25)),
ao 27 (.build [(.int .i64 0), (.int .i64 0), (.int .i64 0), (.int .i64 0), (.int .i64 0), (.int .i64 0)] [(0, 1, (.t 16)), (1, 1, (.t 18)), (2, 1, (.t 20)), (3, 1, (.t 22)), (4, 1, (.t 24)), (5, 1, (.t 26))]),
ao 28 (.fieldAddr 13 (.t 2)),
ao 29 (.load false 1 (.t 28)),
ao 30 (.fieldAddr 14 (.t 2)),
ao 31 (.load false 1 (.t 30)),
ao 32 (.build [(.list [] true), (.int .i64 0), (.list [] true), (.int .i64 0), (.list [] true), (.int .i64 0), (.list [] true), (.int .i64 0), (.list [] true), (.int .i64 0), (.list [] true), (.int .i64 0), (.int .i64 0), (.int .i64 0), (.int .i64 0), (.int .i64 0), (.int .i64 0), (.int .i64 0), (.bool false), (.bool false)] [(11, 1, (.t 14)), (12, 6, (.t 27)), (18, 1, (.t 29)), (19, 1, (.t 31))]),
ao 5 (.alloc [(.list [] true), (.int .i64 0), (.list [] true), (.int .i64 0), (.list [] true), (.int .i64 0), (.list [] true), (.int .i64 0), (.list [] true), (.int .i64 0), (.list [] true), (.int .i64 0), (.int .i64 0), (.int .i64 0), (.int .i64 0), (.int .i64 0), (.int .i64 0), (.int .i64 0), (.bool false), (.bool false)]),
an (.store 20 (.t 5) (.t 32))])
(.seq (.seq (.reg [ao 33 (.fieldAddr 0 (.t 2)),
ao 34 (.load false 1 (.t 33)),
ao 35 (.fieldAddr 0 (.t 3)),
ao 36 (.load false 1 (.t 35)),
ao 37 (.call 61 [(.t 34), (.t 36)])])
(.block 0 (.range 200 (.t 37) [38] ca200 cb200)))
(.seq (.reg [ao 45 (.fieldAddr 1 (.t 2)),
ao 46 (.load false 1 (.t 45)),
ao 47 (.fieldAddr 1 (.t 3)),
ao 48 (.load false 1 (.t 47)),
ao 49 (.call 62 [(.t 46), (.t 48)]),
mv 7 49])
(.seq (.reg [mv 50 7,
ao 51 (.fieldAddr 1 (.t 2)),
ao 52 (.load false 1 (.t 51)),
mv 53 7,
ao 54 (.slice (.sl 1) (.t 52) (some (.t 53)) none none),
ao 55 (.build [(.int .i64 0), (.list [] true)] [(0, 1, (.t 50)), (1, 1, (.t 54))]),
ao 56 (.fieldAddr 1 (.t 5)),
an (.store 2 (.t 56) (.t 55))])
(.seq (.reg [ao 57 (.fieldAddr 2 (.t 2)),
ao 58 (.load false 1 (.t 57)),
ao 59 (.fieldAddr 2 (.t 3)),
ao 60 (.load false 1 (.t 59)),
ao 61 (.call 63 [(.t 58), (.t 60)]),
mv 7 61])
(.seq (.reg [mv 62 7,
ao 63 (.fieldAddr 2 (.t 2)),
ao 64 (.load false 1 (.t 63)),
mv 65 7,
ao 66 (.slice (.sl 2) (.t 64) (some (.t 65)) none none),
ao 67 (.build [(.int .i64 0), (.list [] true)] [(0, 1, (.t 62)), (1, 1, (.t 66))]),
ao 68 (.fieldAddr 3 (.t 5)),
an (.store 2 (.t 68) (.t 67))])
(.seq (.reg [ao 69 (.fieldAddr 3 (.t 2)),
ao 70 (.load false 1 (.t 69)),
ao 71 (.fieldAddr 3 (.t 3)),
ao 72 (.load false 1 (.t 71)),
ao 73 (.call 62 [(.t 70), (.t 72)]),
mv 7 73])
(.seq (.reg [mv 74 7,
ao 75 (.fieldAddr 3 (.t 2)),
ao 76 (.load false 1 (.t 75)),
mv 77 7,
ao 78 (.slice (.sl 1) (.t 76) (some (.t 77)) none none),
ao 79 (.build [(.int .i64 0), (.list [] true)] [(0, 1, (.t 74)), (1, 1, (.t 78))]),
ao 80 (.fieldAddr 5 (.t 5)),
an (.store 2 (.t 80) (.t 79))])
(.seq (.reg [ao 81 (.fieldAddr 4 (.t 2)),
ao 82 (.load false 1 (.t 81)),
ao 83 (.fieldAddr 4 (.t 3)),
ao 84 (.load false 1 (.t 83)),
ao 85 (.call 64 [(.t 82), (.t 84)]),
mv 7 85])
(.seq (.reg [mv 86 7,
ao 87 (.fieldAddr 4 (.t 2)),
ao 88 (.load false 1 (.t 87)),
mv 89 7,
ao 90 (.slice (.sl 4) (.t 88) (some (.t 89)) none none),
ao 91 (.build [(.int .i64 0), (.list [] true)] [(0, 1, (.t 86)), (1, 1, (.t 90))]),
ao 92 (.fieldAddr 7 (.t 5)),
an (.store 2 (.t 92) (.t 91))])
(.seq (.reg [ao 93 (.fieldAddr 5 (.t 2)),
ao 94 (.load false 1 (.t 93)),
ao 95 (.fieldAddr 5 (.t 3)),
ao 96 (.load false 1 (.t 95)),
ao 97 (.call 65 [(.t 94), (.t 96)]),
mv 7 97])
(.seq (.reg [mv 98 7,
ao 99 (.fieldAddr 5 (.t 2)),
ao 100 (.load false 1 (.t 99)),
mv 101 7,
ao 102 (.slice (.sl 2) (.t 100) (some (.t 101)) none none),
ao 103 (.build [(.int .i64 0), (.list [] true)] [(0, 1, (.t 98)), (1, 1, (.t 102))]),
ao 104 (.fieldAddr 9 (.t 5)),
an (.store 2 (.t 104) (.t 103))])
(.seq (.reg [ao 105 (.load true 20 (.t 5)),
an (.store 20 (.t 4) (.t 105))])
.ret)))))))))))))) }
def w21 : WF := { nt := 6, results := [(2, some (true, 15))], code :=
(.seq (.reg [ao 1 (.box (.t 0)),
ao 2 (.alloc [(.list [] true), (.list [] true), (.list [] true), (.list [] true), (.list [] true), (.list [] true), (.list [] true), (.int .i64 0), (.int .i64 0), (.int .i64 0), (.int .i64 0), (.int .i64 0), (.int .i64 0), (.bool false), (.bool false)])])
(.seq (.reg [ao 3 (.fieldAddr 0 (.t 1)),
an (.store 1 (.t 3) (.c (.list [] true))),
ao 4 (.fieldAddr 6 (.t 1)),
an (.store 1 (.t 4) (.c (.list [] true)))])
(.seq (.reg [ao 5 (.load true 15 (.t 1)),
an (.store 15 (.t 2) (.t 5))])
.ret))) }
def w22 : WF := { nt := 7, results := [(2, none)], code :=
(.seq (.reg [ao 2 (.mov (.c (.int .i64 0)))])
(.seq (.reg [mv 3 0,
ao 4 (.len (.t 3)),
ao 5 (.bin .add .no (.t 4) (.c (.int .i64 63))),
ao 6 (.bin .quo .no (.t 5) (.c (.int .i64 64))),
mv 2 6])
.ret)) }
def w23 : WF := { nt := 15, results := [(4, none)], code :=
(.seq (.reg [ao 4 (.mov (.c (.list [] true)))])
(.seq (.reg [mv 5 0,
mv 6 1,
ao 7 (.bin .mul .no (.c (.int .i64 64)) (.t 6)),
mv 8 1,
ao 9 (.bin .mul .no (.c (.int .i64 64)) (.t 8)),
ao 10 (.bin .add .no (.t 9) (.c (.int .i64 64))),
mv 11 0,
ao 12 (.len (.t 11)),
ao 13 (.min [(.t 10), (.t 12)]),
ao 14 (.slice (.sl 1) (.t 5) (some (.t 7)) (some (.t 13)) none),
mv 4 14])
.ret)) }
def w24 : WF := { nt := 25, results := [(2, none)], code :=
(.seq (.reg [ao 2 (.mov (.c (.list [] true)))])
(.seq (.reg [mv 5 0,
ao 6 (.call 66 [(.t 5)]),
mv 3 6])
(.seq (.reg [mv 7 3,
ao 8 (.bin .rem .no (.t 7) (.c (.int .u64 128))),
ao 9 (.conv (.int .u8) (.t 8)),
ao 10 (.buildSlice 1 1 [(.int .u8 0)] [(0, 1, (.t 9))]),
mv 4 10])
(.seq (.reg [mv 11 3,
ao 12 (.bin .quo .no (.t 11) (.c (.int .u64 128))),
mv 3 12])
(.seq (.block 0 (.loop (.seq (.seq (.reg [mv 13 3,
ao 14 (.bin .gtr .no (.t 13) (.c (.int .u64 0)))])
(.cond (.t 14)
.skip
(.exit 0)))
(.block 1 (.seq (.reg [mv 15 3,
ao 16 (.bin .rem .no (.t 15) (.c (.int .u64 128))),
ao 17 (.bin .add .no (.t 16) (.c (.int .u64 128))),
ao 18 (.conv (.int .u8) (.t 17)),
ao 19 (.buildSlice 1 1 [(.int .u8 0)] [(0, 1, (.t 18))]),
mv 20 4,
ao 21 (.append 1 1 none (.t 19) (.t 20)),
mv 4 21])
(.reg [mv 22 3,
ao 23 (.bin .quo .no (.t 22) (.c (.int .u64 128))),
mv 3 23]))))))
(.seq (.reg [mv 24 4,
mv 2 24])
.ret)))))) }
def w25 : WF := { nt := 13, results := [(2, none)], code :=
(.seq (.reg [ao 2 (.mov (.c (.list [] true)))])
(.seq (.reg [ao 4 (.buildSlice 1 0 [(.int .u8 0)] []),
mv 5 0,
ao 6 (.len (.t 5)),
ao 7 (.call 24 [(.t 6)]),
ao 8 (.append 1 1 none (.t 4) (.t 7)),
mv 3 8])
(.seq (.reg [mv 9 3,
mv 10 0,
ao 11 (.append 1 1 none (.t 9) (.t 10)),
mv 3 11])
(.seq (.reg [mv 12 3,
mv 2 12])
.ret)))) }
def w26 : WF := { nt := 46, results := [(2, none)], code :=
(.seq (.reg [ao 2 (.mov (.c (.list [] true)))])
(.seq (.reg [ao 3 (.mov (.c (.list [] true)))])
(.seq (.reg [ao 4 (.mov (.c (.int .i64 0)))])
(.seq (.block 0 (.loop (.seq (.seq (.reg [mv 6 4,
mv 7 0,
ao 8 (.len (.t 7)),
ao 9 (.bin .lss .no (.t 6) (.t 8))])
(.cond (.t 9)
.skip
(.exit 0)))
(.block 1 (.seq (.reg [ao 5 (.mov (.c (.int .i64 1)))])
(.seq (.block 2 (.loop (.seq (.seq (.calm [mv 10 4,
mv 11 5,
⟨(some 12), .bin .add .no (.t 10) (.t 11), none, [0, 1], false⟩,
mv 13 0,
⟨(some 14), .len (.t 13), none, [3], false⟩,
⟨(some 15), .bin .lss .no (.t 12) (.t 14), none, [2, 4], false⟩,
⟨(some 16), .mov (.t 15), none, [5], false⟩,
⟨(some 17), .mov (.t 0), some (16, true), [6], false⟩,
⟨(some 18), .mov (.t 4), some (16, true), [6], false⟩,
⟨(some 19), .mov (.t 5), some (16, true), [6], false⟩,
⟨(some 20), .bin .add .no (.t 18) (.t 19), some (16, true), [8, 9, 6], false⟩,
⟨(some 21), .indexSl 1 (.t 17) (.t 20), some (16, true), [7, 10, 6], false⟩,
⟨(some 22), .load false 1 (.t 21), some (16, true), [11, 6], false⟩,
⟨(some 23), .mov (.t 0), some (16, true), [6], false⟩,
⟨(some 24), .mov (.t 4), some (16, true), [6], false⟩,
⟨(some 25), .indexSl 1 (.t 23) (.t 24), some (16, true), [13, 14, 6], false⟩,
⟨(some 26), .load false 1 (.t 25), some (16, true), [15, 6], false⟩,
⟨(some 27), .bin .eql .no (.t 22) (.t 26), some (16, true), [12, 16, 6], false⟩,
⟨(some 28), .pick (.t 16) (.t 27) (.c (.bool false)), none, [6, 17], false⟩])
(.cond (.t 28)
.skip
(.exit 2)))
(.block 3 (.reg [mv 29 5,
ao 30 (.bin .add .no (.t 29) (.c (.int .i64 1))),
mv 5 30])))))
(.seq (.reg [mv 31 3,
mv 32 5,
ao 33 (.call 24 [(.t 32)]),
ao 34 (.append 1 1 none (.t 31) (.t 33)),
mv 3 34])
(.seq (.reg [mv 35 3,
mv 36 0,
mv 37 4,
ao 38 (.indexSl 1 (.t 36) (.t 37)),
ao 39 (.load false 1 (.t 38)),
ao 40 (.buildSlice 1 1 [(.int .u8 0)] [(0, 1, (.t 39))]),
ao 41 (.append 1 1 none (.t 35) (.t 40)),
mv 3 41])
(.reg [mv 42 4,
mv 43 5,
ao 44 (.bin .add .no (.t 42) (.t 43)),
mv 4 44])))))))))
(.seq (.reg [mv 45 3,
mv 2 45])
.ret))))) }
def w27 : WF := { nt := 212, results := [(2, none)], code :=
(.seq (.reg [ao 1 (.box (.t 0)),
ao 2 (.mov (.c (.list [] true)))])
(.seq (.reg [ao 9 (.buildSlice 1 0 [(.int .u8 0)] []),
ao 10 (.fieldAddr 0 (.t 1)),
ao 11 (.load false 1 (.t 10)),
ao 12 (.len (.t 11)),
ao 13 (.call 24 [(.t 12)]),
ao 14 (.append 1 1 none (.t 9) (.t 13)),
mv 3 14])
(.seq (.seq (.reg [ao 4 (.mov (.c (.int .i64 0)))])
(.block 0 (.loop (.seq (.seq (.reg [mv 15 4,
ao 16 (.fieldAddr 0 (.t 1)),
ao 17 (.load false 1 (.t 16)),
ao 18 (.len (.t 17)),
ao 19 (.bin .lss .no (.t 15) (.t 18))])
(.cond (.t 19)
.skip
(.exit 0)))
(.seq (.block 1 (.seq (.reg [mv 22 3,
ao 23 (.fieldAddr 0 (.t 1)),
ao 24 (.load false 1 (.t 23)),
mv 25 4,
ao 26 (.indexSl 2 (.t 24) (.t 25)),
ao 27 (.fieldAddr 0 (.t 26)),
ao 28 (.load false 1 (.t 27)),
ao 29 (.call 24 [(.t 28)]),
ao 30 (.append 1 1 none (.t 22) (.t 29)),
mv 3 30])
(.reg [mv 31 3,
ao 32 (.fieldAddr 0 (.t 1)),
ao 33 (.load false 1 (.t 32)),
mv 34 4,
ao 35 (.indexSl 2 (.t 33) (.t 34)),
ao 36 (.fieldAddr 1 (.t 35)),
ao 37 (.load false 1 (.t 36)),
ao 38 (.call 25 [(.t 37)]),
ao 39 (.append 1 1 none (.t 31) (.t 38)),
mv 3 39])))
(.reg [mv 20 4,
ao 21 (.bin .add .no (.t 20) (.c (.int .i64 1))),
mv 4 21]))))))
(.seq (.reg [mv 40 3,
ao 41 (.fieldAddr 1 (.t 1)),
ao 42 (.fieldAddr 0 (.t 41)),
ao 43 (.load false 1 (.t 42)),
ao 44 (.fieldAddr 1 (.t 1)),
ao 45 (.fieldAddr 1 (.t 44)),
ao 46 (.load false 1 (.t 45)),
ao 47 (.len (.t 46)),
ao 48 (.buildSlice 1 2 [(.int .i64 0)] [(0, 1, (.t 43)), (1, 1, (.t 47))]),
ao 49 (.call 67 [(.t 48)]),
ao 50 (.append 1 1 none (.t 40) (.t 49)),
mv 3 50])
(.seq (.reg [mv 51 3,
ao 52 (.fieldAddr 1 (.t 1)),
ao 53 (.fieldAddr 1 (.t 52)),
ao 54 (.load false 1 (.t 53)),
ao 55 (.call 67 [(.t 54)]),
ao 56 (.append 1 1 none (.t 51) (.t 55)),
mv 3 56])
(.seq (.reg [mv 57 3,
ao 58 (.fieldAddr 3 (.t 1)),
ao 59 (.fieldAddr 0 (.t 58)),
ao 60 (.load false 1 (.t 59)),
ao 61 (.fieldAddr 3 (.t 1)),
ao 62 (.fieldAddr 1 (.t 61)),
ao 63 (.load false 1 (.t 62)),
ao 64 (.len (.t 63)),
ao 65 (.buildSlice 1 2 [(.int .i64 0)] [(0, 1, (.t 60)), (1, 1, (.t 64))]),
ao 66 (.call 67 [(.t 65)]),
ao 67 (.append 1 1 none (.t 57) (.t 66)),
mv 3 67])
(.seq (.seq (.reg [ao 5 (.mov (.c (.int .i64 0)))])
(.block 2 (.loop (.seq (.seq (.reg [mv 68 5,
ao 69 (.fieldAddr 3 (.t 1)),
ao 70 (.fieldAddr 1 (.t 69)),
ao 71 (.load false 1 (.t 70)),
ao 72 (.len (.t 71)),
ao 73 (.bin .lss .no (.t 68) (.t 72))])
(.cond (.t 73)
.skip
(.exit 2)))
(.seq (.block 3 (.calm [mv 76 3,
ao 77 (.fieldAddr 3 (.t 1)),
⟨(some 78), .fieldAddr 1 (.t 77), none, [1], false⟩,
⟨(some 79), .load false 1 (.t 78), none, [2], false⟩,
mv 80 5,
⟨(some 81), .indexSl 2 (.t 79) (.t 80), none, [3, 4], false⟩,
⟨(some 82), .fieldAddr 0 (.t 81), none, [5], false⟩,
⟨(some 83), .load false 1 (.t 82), none, [6], false⟩,
ao 84 (.fieldAddr 3 (.t 1)),
⟨(some 85), .fieldAddr 1 (.t 84), none, [8], false⟩,
⟨(some 86), .load false 1 (.t 85), none, [9], false⟩,
mv 87 5,
⟨(some 88), .indexSl 2 (.t 86) (.t 87), none, [10, 11], false⟩,
⟨(some 89), .fieldAddr 1 (.t 88), none, [12], false⟩,
⟨(some 90), .load false 1 (.t 89), none, [13], false⟩,
⟨(some 91), .call 68 [(.t 90), (.c (.bool false))], none, [14], false⟩,
⟨(some 92), .pur (.lst 1 2 [(.int .i64 0)] [(0, 1), (1, 1)]) [(.t 83), (.t 91)], none, [7, 15], false⟩,
⟨(some 93), .call 67 [(.t 92)], none, [16, 15], false⟩,
⟨(some 94), .append 1 1 none (.t 76) (.t 93), none, [0, 17, 17], true⟩,
⟨(some 3), .mov (.t 94), none, [18, 18, 0, 1, 2, 3, 4, 5, 6, 7, 8, 9, 10, 11, 12, 13, 14, 15, 16, 17, 18], false⟩]))
(.reg [mv 74 5,
ao 75 (.bin .add .no (.t 74) (.c (.int .i64 1))),
mv 5 75]))))))
(.seq (.reg [mv 95 3,
ao 96 (.fieldAddr 5 (.t 1)),
ao 97 (.fieldAddr 0 (.t 96)),
ao 98 (.load false 1 (.t 97)),
ao 99 (.fieldAddr 5 (.t 1)),
ao 100 (.fieldAddr 1 (.t 99)),
ao 101 (.load false 1 (.t 100)),
ao 102 (.len (.t 101)),
ao 103 (.buildSlice 1 2 [(.int .i64 0)] [(0, 1, (.t 98)), (1, 1, (.t 102))]),
ao 104 (.call 67 [(.t 103)]),
ao 105 (.append 1 1 none (.t 95) (.t 104)),
mv 3 105])
(.seq (.reg [mv 106 3,
ao 107 (.fieldAddr 5 (.t 1)),
ao 108 (.fieldAddr 1 (.t 107)),
ao 109 (.load false 1 (.t 108)),
ao 110 (.call 67 [(.t 109)]),
ao 111 (.append 1 1 none (.t 106) (.t 110)),
mv 3 111])
(.seq (.reg [mv 112 3,
ao 113 (.fieldAddr 7 (.t 1)),
ao 114 (.fieldAddr 0 (.t 113)),
ao 115 (.load false 1 (.t 114)),
ao 116 (.fieldAddr 7 (.t 1)),
ao 117 (.fieldAddr 1 (.t 116)),
ao 118 (.load false 1 (.t 117)),
ao 119 (.len (.t 118)),
ao 120 (.buildSlice 1 2 [(.int .i64 0)] [(0, 1, (.t 115)), (1, 1, (.t 119))]),
ao 121 (.call 67 [(.t 120)]),
ao 122 (.append 1 1 none (.t 112) (.t 121)),
mv 3 122])
(.seq (.seq (.reg [ao 6 (.mov (.c (.int .i64 0)))])
(.block 4 (.loop (.seq (.seq (.reg [mv 123 6,
ao 124 (.fieldAddr 7 (.t 1)),
ao 125 (.fieldAddr 1 (.t 124)),
ao 126 (.load false 1 (.t 125)),
ao 127 (.len (.t 126)),
ao 128 (.bin .lss .no (.t 123) (.t 127))])
(.cond (.t 128)
.skip
(.exit 4)))
(.seq (.block 5 (.seq (.reg [ao 131 (.fieldAddr 7 (.t 1)),
ao 132 (.fieldAddr 1 (.t 131)),
ao 133 (.load false 1 (.t 132)),
mv 134 6,
ao 135 (.indexSl 4 (.t 133) (.t 134)),
ao 136 (.load true 4 (.t 135)),
ao 7 (.alloc [(.str ⟨#[]⟩), (.int .i64 0), (.bool false), (.bool false)]),
an (.store 4 (.t 7) (.t 136))])
(.seq (.reg [mv 137 3,
ao 138 (.fieldAddr 0 (.t 7)),
ao 139 (.load false 1 (.t 138)),
ao 140 (.pur .s2b [(.t 139)]),
ao 141 (.call 25 [(.t 140)]),
ao 142 (.append 1 1 none (.t 137) (.t 141)),
mv 3 142])
(.calm [mv 143 3,
ao 144 (.fieldAddr 1 (.t 7)),
⟨(some 145), .load false 1 (.t 144), none, [1], false⟩,
ao 146 (.fieldAddr 2 (.t 7)),
⟨(some 147), .load false 1 (.t 146), none, [3], false⟩,
ao 148 (.fieldAddr 3 (.t 7)),
⟨(some 149), .load false 1 (.t 148), none, [5], false⟩,
⟨(some 150), .call 68 [(.t 147), (.t 149)], none, [4, 6], false⟩,
⟨(some 151), .pur (.lst 1 2 [(.int .i64 0)] [(0, 1), (1, 1)]) [(.t 145), (.t 150)], none, [2, 7], false⟩,
⟨(some 152), .call 67 [(.t 151)], none, [8, 7], false⟩,
⟨(some 153), .append 1 1 none (.t 143) (.t 152), none, [0, 9, 9], true⟩,
⟨(some 3), .mov (.t 153), none, [10, 10, 0, 1, 2, 3, 4, 5, 6, 7, 8, 9, 10], false⟩]))))
(.reg [mv 129 6,
ao 130 (.bin .add .no (.t 129) (.c (.int .i64 1))),
mv 6 130]))))))
(.seq (.reg [mv 154 3,
ao 155 (.fieldAddr 9 (.t 1)),
ao 156 (.fieldAddr 0 (.t 155)),
ao 157 (.load false 1 (.t 156)),
ao 158 (.fieldAddr 9 (.t 1)),
ao 159 (.fieldAddr 1 (.t 158)),
ao 160 (.load false 1 (.t 159)),
ao 161 (.len (.t 160)),
ao 162 (.buildSlice 1 2 [(.int .i64 0)] [(0, 1, (.t 157)), (1, 1, (.t 161))]),
ao 163 (.call 67 [(.t 162)]),
ao 164 (.append 1 1 none (.t 154) (.t 163)),
mv 3 164])
(.seq (.seq (.reg [ao 8 (.mov (.c (.int .i64 0)))])
(.block 6 (.loop (.seq (.seq (.reg [mv 165 8,
ao 166 (.fieldAddr 9 (.t 1)),
ao 167 (.fieldAddr 1 (.t 166)),
ao 168 (.load false 1 (.t 167)),
ao 169 (.len (.t 168)),
ao 170 (.bin .lss .no (.t 165) (.t 169))])
(.cond (.t 170)
.skip
(.exit 6)))
(.seq (.block 7 (.calm [mv 173 3,
ao 174 (.fieldAddr 9 (.t 1)),
⟨(some 175), .fieldAddr 1 (.t 174), none, [1], false⟩,
⟨(some 176), .load false 1 (.t 175), none, [2], false⟩,
mv 177 8,
⟨(some 178), .indexSl 2 (.t 176) (.t 177), none, [3, 4], false⟩,
⟨(some 179), .fieldAddr 0 (.t 178), none, [5], false⟩,
⟨(some 180), .load false 1 (.t 179), none, [6], false⟩,
ao 181 (.fieldAddr 9 (.t 1)),
⟨(some 182), .fieldAddr 1 (.t 181), none, [8], false⟩,
⟨(some 183), .load false 1 (.t 182), none, [9], false⟩,
mv 184 8,
⟨(some 185), .indexSl 2 (.t 183) (.t 184), none, [10, 11], false⟩,
⟨(some 186), .fieldAddr 1 (.t 185), none, [12], false⟩,
⟨(some 187), .load false 1 (.t 186), none, [13], false⟩,
⟨(some 188), .pur (.lst 1 2 [(.int .i64 0)] [(0, 1), (1, 1)]) [(.t 180), (.t 187)], none, [7, 14], false⟩,
⟨(some 189), .call 67 [(.t 188)], none, [15], false⟩,
⟨(some 190), .append 1 1 none (.t 173) (.t 189), none, [0, 16, 16], true⟩,
⟨(some 3), .mov (.t 190), none, [17, 17, 0, 1, 2, 3, 4, 5, 6, 7, 8, 9, 10, 11, 12, 13, 14, 15, 16, 17], false⟩]))
(.reg [mv 171 8,
ao 172 (.bin .add .no (.t 171) (.c (.int .i64 1))),
mv 8 172]))))))
(.seq (.reg [mv 191 3,
ao 192 (.fieldAddr 11 (.t 1)),
ao 193 (.load false 1 (.t 192)),
ao 194 (.buildSlice 1 1 [(.int .i64 0)] [(0, 1, (.t 193))]),
ao 195 (.call 67 [(.t 194)]),
ao 196 (.append 1 1 none (.t 191) (.t 195)),
mv 3 196])
(.seq (.reg [mv 197 3,
ao 198 (.fieldAddr 12 (.t 1)),
ao 199 (.slice (.arr 6 1) (.t 198) none none none),
ao 200 (.call 67 [(.t 199)]),
ao 201 (.append 1 1 none (.t 197) (.t 200)),
mv 3 201])
(.seq (.reg [mv 202 3,
ao 203 (.fieldAddr 18 (.t 1)),
ao 204 (.load false 1 (.t 203)),
ao 205 (.fieldAddr 19 (.t 1)),
ao 206 (.load false 1 (.t 205)),
ao 207 (.call 68 [(.t 204), (.t 206)]),
ao 208 (.buildSlice 1 1 [(.int .i64 0)] [(0, 1, (.t 207))]),
ao 209 (.call 67 [(.t 208)]),
ao 210 (.append 1 1 none (.t 202) (.t 209)),
mv 3 210])
(.seq (.reg [mv 211 3,
mv 2 211])
.ret))))))))))))))))) }
def w28 : WF := { nt := 68, results := [(4, some (true, 20))], code :=
(.seq (.reg [ao 2 (.box (.t 0)),
ao 3 (.box (.t 1)),
ao 4 (.alloc [(.list [] true), (.int .i64 0), (.list [] true), (.int .i64 0), (.list [] true), (.int .i64 0), (.list [] true), (.int .i64 0), (.list [] true), (.int .i64 0), (.list [] true), (.int .i64 0), (.int .i64 0), (.int .i64 0), (.int .i64 0), (.int .i64 0), (.int .i64 0), (.int .i64 0), (.bool false), (.bool false)])])
(.seq (.calm [ao 6 (.fieldAddr 0 (.t 2)),
⟨(some 7), .load false 1 (.t 6), none, [0], false⟩,
ao 8 (.fieldAddr 0 (.t 3)),
⟨(some 9), .load false 1 (.t 8), none, [2], false⟩,
⟨(some 10), .call 69 [(.t 7), (.t 9)], none, [1, 3], false⟩,
ao 11 (.fieldAddr 6 (.t 3)),
⟨(some 12), .load false 1 (.t 11), none, [5], false⟩,
⟨(some 13), .len (.t 12), none, [6], false⟩,
ao 14 (.fieldAddr 6 (.t 2)),
⟨(some 15), .load false 1 (.t 14), none, [8], false⟩,
⟨(some 16), .len (.t 15), none, [9], false⟩,
⟨(some 17), .bin .sub .no (.t 13) (.t 16), none, [7, 10], false⟩,
ao 18 (.fieldAddr 13 (.t 2)),
⟨(some 19), .load false 1 (.t 18), none, [12], false⟩,
ao 20 (.fieldAddr 14 (.t 2)),
⟨(some 21), .load false 1 (.t 20), none, [14], false⟩,
⟨(some 22), .build [(.list [] true), (.int .i64 0), (.list [] true), (.int .i64 0), (.list [] true), (.int .i64 0), (.list [] true), (.int .i64 0), (.list [] true), (.int .i64 0), (.list [] true), (.int .i64 0), (.int .i64 0), (.int .i64 0), (.int .i64 0), (.int .i64 0), (.int .i64 0), (.int .i64 0), (.bool false), (.bool false)] [(0, 1, (.t 10)), (11, 1, (.t 17)), (18, 1, (.t 19)), (19, 1, (.t 21))], none, [4, 11, 13, 15], false⟩,
⟨(some 5), .alloc [(.list [] true), (.int .i64 0), (.list [] true), (.int .i64 0), (.list [] true), (.int .i64 0), (.list [] true), (.int .i64 0), (.list [] true), (.int .i64 0), (.list [] true), (.int .i64 0), (.int .i64 0), (.int .i64 0), (.int .i64 0), (.int .i64 0), (.int .i64 0), (.int .i64 0), (.bool false), (.bool false)], none, [], true⟩,
⟨none, .store 20 (.t 5) (.t 22), none, [17, 16, 4, 0, 1, 2, 3, 4, 5, 6, 7, 8, 9, 10, 11, 12, 13, 14, 15, 16, 17], true⟩])
(.seq (.reg [ao 23 (.fieldAddr 1 (.t 2)),
ao 24 (.load false 1 (.t 23)),
ao 25 (.fieldAddr 1 (.t 3)),
ao 26 (.load false 1 (.t 25)),
ao 27 (.call 70 [(.t 24), (.t 26)]),
ao 28 (.fieldAddr 1 (.t 5)),
an (.store 2 (.t 28) (.t 27))])
(.seq (.reg [ao 29 (.fieldAddr 2 (.t 2)),
ao 30 (.load false 1 (.t 29)),
ao 31 (.fieldAddr 2 (.t 3)),
ao 32 (.load false 1 (.t 31)),
ao 33 (.call 71 [(.t 30), (.t 32)]),
ao 34 (.fieldAddr 3 (.t 5)),
an (.store 2 (.t 34) (.t 33))])
(.seq (.reg [ao 35 (.fieldAddr 3 (.t 2)),
ao 36 (.load false 1 (.t 35)),
ao 37 (.fieldAddr 3 (.t 3)),
ao 38 (.load false 1 (.t 37)),
ao 39 (.call 70 [(.t 36), (.t 38)]),
ao 40 (.fieldAddr 5 (.t 5)),
an (.store 2 (.t 40) (.t 39))])
(.seq (.reg [ao 41 (.fieldAddr 4 (.t 2)),
ao 42 (.load false 1 (.t 41)),
ao 43 (.fieldAddr 4 (.t 3)),
ao 44 (.load false 1 (.t 43)),
ao 45 (.call 72 [(.t 42), (.t 44)]),
ao 46 (.fieldAddr 7 (.t 5)),
an (.store 2 (.t 46) (.t 45))])
(.seq (.reg [ao 47 (.fieldAddr 5 (.t 2)),
ao 48 (.load false 1 (.t 47)),
ao 49 (.fieldAddr 5 (.t 3)),
ao 50 (.load false 1 (.t 49)),
ao 51 (.call 73 [(.t 48), (.t 50)]),
ao 52 (.fieldAddr 9 (.t 5)),
an (.store 2 (.t 52) (.t 51))])
(.seq (.reg [ao 53 (.fieldAddr 7 (.t 2)),
ao 54 (.load false 1 (.t 53)),
ao 55 (.fieldAddr 8 (.t 2)),
ao 56 (.load false 1 (.t 55)),
ao 57 (.fieldAddr 9 (.t 2)),
ao 58 (.load false 1 (.t 57)),
ao 59 (.fieldAddr 10 (.t 2)),
ao 60 (.load false 1 (.t 59)),
ao 61 (.fieldAddr 11 (.t 2)),
ao 62 (.load false 1 (.t 61)),
ao 63 (.fieldAddr 12 (.t 2)),
ao 64 (.load false 1 (.t 63)),
ao 65 (.build [(.int .i64 0), (.int .i64 0), (.int .i64 0), (.int .i64 0), (.int .i64 0), (.int .i64 0)] [(0, 1, (.t 54)), (1, 1, (.t 56)), (2, 1, (.t 58)), (3, 1, (.t 60)), (4, 1, (.t 62)), (5, 1, (.t 64))]),
ao 66 (.fieldAddr 12 (.t 5)),
an (.store 6 (.t 66) (.t 65))])
(.seq (.reg [ao 67 (.load true 20 (.t 5)),
an (.store 20 (.t 4) (.t 67))])
.ret))))))))) }
def w29 : WF := { nt := 13, results := [], rcv := some 5, code :=
(.block 0 (.seq (.reg [ao 7 (.pur (.isNilI true) [(.t 5)])])
(.cond (.t 7)
(.reg [mv 2 5])
(.seq (.reg [ao 8 (.pur (.assert 63 (some (.int .i64 0))) [(.t 5)]),
ao 9 (.extract 1 (.t 8)),
ao 10 (.extract 0 (.t 8))])
(.cond (.t 9)
(.seq (.reg [mv 3 10])
(.reg [ao 11 (.build [(.list [] true), (.list [] true), (.list [] true), (.list [] true), (.list [] true), (.list [] true), (.list [] true), (.int .i64 0), (.int .i64 0), (.int .i64 0), (.int .i64 0), (.int .i64 0), (.int .i64 0), (.bool false), (.bool false)] []),
mv 12 3,
an (.store 15 (.t 0) (.t 11)),
an (.store 1 (.t 1) (.t 12))]))
(.seq (.reg [mv 4 5])
(.reg [mv 6 4,
an (.panic (.t 6))]))))))) }
def w30 : WF := { nt := 6, results := [(2, none)], code :=
(.seq (.reg [ao 2 (.mov (.c .nilp))])
(.seq (.reg [mv 3 0,
ao 4 (.build [(.list [] true), (.int .i64 0)] [(0, 1, (.t 3))]),
ao 5 (.box (.t 4)),
mv 2 5])
.ret)) }
def ca310 : WC := (.reg [mv 7 19])
def cb310 : WC :=
(.block 1 (.reg [ao 20 (.load false 1 (.t 5)),
mv 21 7,
ao 22 (.buildSlice 1 1 [(.list [] true)] [(0, 1, (.t 21))]),
ao 23 (.append 1 24 none (.t 20) (.t 22)),
an (.store 1 (.t 5) (.t 23))]))
def bd310 : ABody := { keep := [5], ps := [18, 19], assign := toA ca310, body := toA cb310 }
def w31 : WF := { nt := 77, results := [(4, none)], code :=
(.seq (.reg [ao 4 (.mov (.c (.list [] true)))])
(.seq (.reg [ao 15 (.buildSlice 1 0 [(.list [] true)] []),
ao 5 (.alloc [(.list [] true)]),
an (.store 1 (.t 5) (.t 15))])
(.seq (.seq (.reg [mv 16 1,
ao 17 (.call 13 [(.t 16)])])
(.block 0 (.range 310 (.t 17) [18, 19] ca310 cb310)))
(.seq (.reg [mv 24 1,
ao 25 (.call 49 [(.t 24)]),
mv 8 25])
(.seq (.reg [mv 26 0,
ao 27 (.load false 1 (.t 5)),
ao 28 (.len (.t 27)),
ao 29 (.call 74 [(.t 26), (.c (.int .i64 0)), (.t 28)]),
mv 9 29])
(.seq (.reg [mv 30 0,
ao 31 (.call 75 [(.t 30)]),
ao 32 (.call 33 [(.t 31)])])
(.seq (.reg [ao 10 (.mov (.c (.int .i64 0)))])
(.seq (.seq (.reg [mv 33 9,
ao 34 (.mov (.c (.int .i64 0)))])
(.block 2 (.loop (.seq (.reg [ao 35 (.bin .lss .no (.t 34) (.t 33))])
(.seq (.cond (.t 35)
.skip
(.exit 2))
(.seq (.block 3 (.seq (.reg [mv 36 0,
mv 37 10,
ao 38 (.load false 1 (.t 5)),
ao 39 (.len (.t 38)),
ao 40 (.bin .sub .no (.t 39) (.c (.int .i64 1))),
ao 41 (.call 74 [(.t 36), (.t 37), (.t 40)]),
mv 11 41])
(.seq (.reg [mv 42 0,
ao 43 (.call 32 [(.t 42), (.c (.int .i64 65536))]),
mv 12 43])
(.seq (.reg [mv 44 0,
ao 45 (.call 75 [(.t 44)]),
ao 46 (.call 33 [(.t 45)])])
(.seq (.reg [mv 48 12,
ao 49 (.load false 1 (.t 5)),
mv 50 11,
ao 51 (.indexSl 1 (.t 49) (.t 50)),
ao 52 (.load false 1 (.t 51)),
ao 53 (.len (.t 52)),
ao 54 (.call 76 [(.t 48), (.t 53)]),
mv 47 54,
ao 55 (.extract 0 (.t 47)),
ao 56 (.extract 1 (.t 47)),
mv 13 55,
mv 14 56])
(.seq (.reg [mv 57 14,
ao 58 (.call 33 [(.t 57)])])
(.seq (.reg [mv 59 13,
ao 60 (.load false 1 (.t 5)),
mv 61 11,
ao 62 (.indexSl 1 (.t 60) (.t 61)),
ao 63 (.load false 1 (.t 62)),
ao 64 (.call 14 [(.t 59), (.t 63)]),
ao 65 (.un .not (.t 64)),
ao 66 (.call 77 [(.t 65)])])
(.seq (.reg [mv 67 8,
mv 68 11,
ao 69 (.bin .mul .no (.t 68) (.c (.int .i64 64))),
ao 70 (.slice (.sl 1) (.t 67) (some (.t 69)) none none),
mv 71 13,
ao 72 (.copy 1 (.t 70) (.t 71))])
(.reg [mv 73 11,
ao 74 (.bin .add .no (.t 73) (.c (.int .i64 1))),
mv 10 74])))))))))
(.reg [ao 75 (.bin .add .no (.t 34) (.c (.int .i64 1))),
mv 34 75])))))))
(.seq (.reg [mv 76 8,
mv 4 76])
.ret))))))))) }
def w32 : WF := { nt := 40, results := [(4, none)], code :=
(.seq (.reg [ao 4 (.mov (.c (.list [] true)))])
(.seq (.reg [mv 7 0,
mv 8 1,
ao 9 (.call 74 [(.t 7), (.c (.int .i64 0)), (.t 8)]),
mv 5 9])
(.seq (.seq (.reg [mv 10 0,
ao 11 (.call 75 [(.t 10)]),
ao 12 (.bin .neq .no (.t 11) (.c (.int .i64 0)))])
(.cond (.t 12)
(.seq (.reg [ao 4 (.mov (.c (.list [] true)))])
.ret)
.skip))
(.seq (.seq (.reg [mv 13 5,
mv 14 0,
ao 15 (.nilCheck (.t 14)),
ao 16 (.fieldAddr 0 (.t 15)),
ao 17 (.load false 1 (.t 16)),
ao 18 (.len (.t 17)),
ao 19 (.bin .gtr .no (.t 13) (.t 18))])
(.cond (.t 19)
(.seq (.reg [mv 20 0,
ao 21 (.nilCheck (.t 20)),
ao 22 (.fieldAddr 1 (.t 21)),
an (.store 1 (.t 22) (.c (.int .i64 3)))])
(.seq (.reg [ao 4 (.mov (.c (.list [] true)))])
.ret))
.skip))
(.seq (.reg [mv 23 0,
ao 24 (.nilCheck (.t 23)),
ao 25 (.fieldAddr 0 (.t 24)),
ao 26 (.load false 1 (.t 25)),
mv 27 5,
mv 28 5,
ao 29 (.slice (.sl 1) (.t 26) none (some (.t 27)) (some (.t 28))),
mv 6 29])
(.seq (.reg [mv 30 0,
mv 31 0,
ao 32 (.nilCheck (.t 31)),
ao 33 (.fieldAddr 0 (.t 32)),
ao 34 (.load false 1 (.t 33)),
mv 35 5,
ao 36 (.slice (.sl 1) (.t 34) (some (.t 35)) none none),
ao 37 (.nilCheck (.t 30)),
ao 38 (.fieldAddr 0 (.t 37)),
an (.store 1 (.t 38) (.t 36))])
(.seq (.reg [mv 39 6,
mv 4 39])
.ret))))))) }
def w33 : WF := { nt := 6, results := [], code :=
(.seq (.reg [mv 2 0,
ao 3 (.bin .neq .no (.t 2) (.c (.int .i64 0)))])
(.cond (.t 3)
(.reg [mv 4 0,
ao 5 (.makeIface 63 (.t 4)),
an (.panic (.t 5))])
.skip)) }
def w34 : WF := { nt := 16, results := [(2, none)], code :=
(.seq (.reg [ao 2 (.mov (.c (.int .i64 0)))])
(.seq (.seq (.reg [mv 3 0,
ao 4 (.call 75 [(.t 3)]),
ao 5 (.bin .eql .no (.t 4) (.c (.int .i64 0))),
mv 6 5,
ag 7 (.mov (.t 0)) 6 true,
ag 8 (.nilCheck (.t 7)) 6 true,
ag 9 (.fieldAddr 0 (.t 8)) 6 true,
ag 10 (.load false 1 (.t 9)) 6 true,
ag 11 (.len (.t 10)) 6 true,
ag 12 (.bin .gtr .no (.t 11) (.c (.int .i64 0))) 6 true,
ao 13 (.pick (.t 6) (.t 12) (.c (.bool false)))])
(.cond (.t 13)
(.seq (.reg [ao 2 (.mov (.c (.int .i64 2)))])
.ret)
.skip))
(.seq (.reg [mv 14 0,
ao 15 (.call 75 [(.t 14)]),
mv 2 15])
.ret))) }
def w35 : WF := { nt := 90, results := [(2, some (true, 20)), (3, none)], code :=
(.seq (.reg [ao 2 (.alloc [(.list [] true), (.int .i64 0), (.list [] true), (.int .i64 0), (.list [] true), (.int .i64 0), (.list [] true), (.int .i64 0), (.list [] true), (.int .i64 0), (.list [] true), (.int .i64 0), (.int .i64 0), (.int .i64 0), (.int .i64 0), (.int .i64 0), (.int .i64 0), (.int .i64 0), (.bool false), (.bool false)]),
ao 3 (.mov (.c (.int .i64 0)))])
(.seq (.reg [mv 10 0,
ao 11 (.call 30 [(.t 10)]),
ao 4 (.alloc [.nilp]),
an (.store 1 (.t 4) (.t 11))])
(.seq (.reg [ao 12 (.makeFunc (.func 78) [] [(.t 4)]),
ao 5 (.alloc [.nilfn]),
an (.store 1 (.t 5) (.t 12))])
(.seq (.reg [ao 6 (.alloc [(.list [] true), (.int .i64 0), (.list [] true), (.int .i64 0), (.list [] true), (.int .i64 0), (.list [] true), (.int .i64 0), (.list [] true), (.int .i64 0), (.list [] true), (.int .i64 0), (.int .i64 0), (.int .i64 0), (.int .i64 0), (.int .i64 0), (.int .i64 0), (.int .i64 0), (.bool false), (.bool false)])])
(.seq (.reg [ao 13 (.load false 1 (.t 4)),
ao 14 (.makeFunc (.func 80) [] [(.t 5), (.t 4)]),
ao 15 (.call 79 [(.t 13), (.t 14)]),
ao 16 (.fieldAddr 0 (.t 6)),
an (.store 1 (.t 16) (.t 15))])
(.seq (.reg [ao 17 (.load false 1 (.t 5)),
ao 18 (.callv (.t 17) []),
ao 19 (.fieldAddr 1 (.t 6)),
ao 20 (.fieldAddr 0 (.t 19)),
an (.store 1 (.t 20) (.t 18))])
(.seq (.reg [ao 21 (.load false 1 (.t 4)),
ao 22 (.load false 1 (.t 5)),
ao 23 (.call 81 [(.t 21), (.t 22)]),
ao 24 (.fieldAddr 1 (.t 6)),
ao 25 (.fieldAddr 1 (.t 24)),
an (.store 1 (.t 25) (.t 23))])
(.seq (.reg [ao 26 (.load false 1 (.t 5)),
ao 27 (.callv (.t 26) []),
ao 28 (.fieldAddr 3 (.t 6)),
ao 29 (.fieldAddr 0 (.t 28)),
an (.store 1 (.t 29) (.t 27))])
(.seq (.reg [ao 30 (.load false 1 (.t 4)),
ao 31 (.makeFunc (.func 83) [] [(.t 5), (.t 4)]),
ao 32 (.call 82 [(.t 30), (.t 31)]),
ao 33 (.fieldAddr 3 (.t 6)),
ao 34 (.fieldAddr 1 (.t 33)),
an (.store 1 (.t 34) (.t 32))])
(.seq (.reg [ao 35 (.load false 1 (.t 5)),
ao 36 (.callv (.t 35) []),
ao 37 (.fieldAddr 5 (.t 6)),
ao 38 (.fieldAddr 0 (.t 37)),
an (.store 1 (.t 38) (.t 36))])
(.seq (.reg [ao 39 (.load false 1 (.t 4)),
ao 40 (.load false 1 (.t 5)),
ao 41 (.call 81 [(.t 39), (.t 40)]),
ao 42 (.fieldAddr 5 (.t 6)),
ao 43 (.fieldAddr 1 (.t 42)),
an (.store 1 (.t 43) (.t 41))])
(.seq (.reg [ao 44 (.load false 1 (.t 5)),
ao 45 (.callv (.t 44) []),
ao 46 (.fieldAddr 7 (.t 6)),
ao 47 (.fieldAddr 0 (.t 46)),
an (.store 1 (.t 47) (.t 45))])
(.seq (.reg [ao 48 (.load false 1 (.t 4)),
ao 49 (.makeFunc (.func 85) [] [(.t 4), (.t 5)]),
ao 50 (.call 84 [(.t 48), (.t 49)]),
ao 51 (.fieldAddr 7 (.t 6)),
ao 52 (.fieldAddr 1 (.t 51)),
an (.store 1 (.t 52) (.t 50))])
(.seq (.reg [ao 53 (.load false 1 (.t 5)),
ao 54 (.callv (.t 53) []),
ao 55 (.fieldAddr 9 (.t 6)),
ao 56 (.fieldAddr 0 (.t 55)),
an (.store 1 (.t 56) (.t 54))])
(.seq (.reg [ao 57 (.load false 1 (.t 4)),
ao 58 (.makeFunc (.func 87) [] [(.t 5)]),
ao 59 (.call 86 [(.t 57), (.t 58)]),
ao 60 (.fieldAddr 9 (.t 6)),
ao 61 (.fieldAddr 1 (.t 60)),
an (.store 1 (.t 61) (.t 59))])
(.seq (.reg [ao 62 (.load false 1 (.t 5)),
ao 63 (.callv (.t 62) []),
ao 64 (.fieldAddr 11 (.t 6)),
an (.store 1 (.t 64) (.t 63))])
(.seq (.seq (.reg [ao 65 (.mov (.c (.int .i64 0)))])
(.block 0 (.loop (.seq (.reg [ao 66 (.bin .lss .no (.t 65) (.c (.int .i64 6)))])
(.seq (.cond (.t 66)
.skip
(.exit 0))
(.seq (.block 1 (.seq (.reg [mv 67 65,
mv 7 67])
(.reg [mv 68 7,
ao 69 (.load false 1 (.t 5)),
ao 70 (.callv (.t 69) []),
ao 71 (.fieldAddr 12 (.t 6)),
ao 72 (.indexPA 6 1 (.t 71) (.t 68)),
an (.store 1 (.t 72) (.t 70))])))
(.reg [ao 73 (.bin .add .no (.t 65) (.c (.int .i64 1))),
mv 65 73])))))))
(.seq (.reg [ao 74 (.load false 1 (.t 4)),
ao 75 (.call 74 [(.t 74), (.c (.int .i64 0)), (.c (.int .i64 3))]),
mv 8 75])
(.seq (.reg [mv 76 8,
ao 77 (.bin .rem .no (.t 76) (.c (.int .i64 2))),
ao 78 (.bin .eql .no (.t 77) (.c (.int .i64 1))),
mv 79 8,
ao 80 (.bin .geq .no (.t 79) (.c (.int .i64 2))),
ao 81 (.fieldAddr 18 (.t 6)),
an (.store 1 (.t 81) (.t 78)),
ao 82 (.fieldAddr 19 (.t 6)),
an (.store 1 (.t 82) (.t 80))])
(.seq (.seq (.reg [ao 83 (.load false 1 (.t 4)),
ao 84 (.call 34 [(.t 83)]),
mv 9 84])
(.seq (.reg [mv 85 9,
ao 86 (.bin .neq .no (.t 85) (.c (.int .i64 0)))])
(.cond (.t 86)
(.seq (.reg [ao 87 (.build [(.list [] true), (.int .i64 0), (.list [] true), (.int .i64 0), (.list [] true), (.int .i64 0), (.list [] true), (.int .i64 0), (.list [] true), (.int .i64 0), (.list [] true), (.int .i64 0), (.int .i64 0), (.int .i64 0), (.int .i64 0), (.int .i64 0), (.int .i64 0), (.int .i64 0), (.bool false), (.bool false)] []),
mv 88 9,
an (.store 20 (.t 2) (.t 87)),
mv 3 88])
.ret)
.skip)))
(.seq (.reg [ao 89 (.load true 20 (.t 6)),
an (.store 20 (.t 2) (.t 89)),
ao 3 (.mov (.c (.int .i64 0)))])
.ret))))))))))))))))))))) }
def w36 : WF := { nt := 28, results := [], code :=
(.seq (.reg [ao 1 (.box (.t 0))])
(.seq (.reg [ao 3 (.fieldAddr 0 (.t 1)),
ao 4 (.load false 1 (.t 3)),
ao 5 (.len (.t 4)),
ao 6 (.fieldAddr 11 (.t 1)),
ao 7 (.load false 1 (.t 6)),
ao 8 (.fieldAddr 1 (.t 1)),
ao 9 (.fieldAddr 0 (.t 8)),
ao 10 (.load false 1 (.t 9)),
ao 11 (.fieldAddr 3 (.t 1)),
ao 12 (.fieldAddr 0 (.t 11)),
ao 13 (.load false 1 (.t 12)),
ao 14 (.fieldAddr 5 (.t 1)),
ao 15 (.fieldAddr 0 (.t 14)),
ao 16 (.load false 1 (.t 15)),
ao 17 (.fieldAddr 7 (.t 1)),
ao 18 (.fieldAddr 0 (.t 17)),
ao 19 (.load false 1 (.t 18)),
ao 20 (.fieldAddr 9 (.t 1)),
ao 21 (.fieldAddr 0 (.t 20)),
ao 22 (.load false 1 (.t 21)),
ao 23 (.build [(.int .i64 0), (.int .i64 0), (.int .i64 0), (.int .i64 0), (.int .i64 0), (.int .i64 0), (.int .i64 0)] [(0, 1, (.t 5)), (1, 1, (.t 7)), (2, 1, (.t 10)), (3, 1, (.t 13)), (4, 1, (.t 16)), (5, 1, (.t 19)), (6, 1, (.t 22))]),
ao 2 (.alloc [(.int .i64 0), (.int .i64 0), (.int .i64 0), (.int .i64 0), (.int .i64 0), (.int .i64 0), (.int .i64 0)]),
an (.store 7 (.t 2) (.t 23))])
(.reg [ao 24 (.load true 7 (.t 2)),
ao 25 (.build [(.int .i64 0), (.int .i64 0), (.int .i64 0), (.int .i64 0), (.int .i64 0), (.int .i64 0), (.int .i64 0)] []),
ao 26 (.pur (.eqA true [(0, .int), (1, .int), (2, .int), (3, .int), (4, .int), (5, .int), (6, .int)]) [(.t 24), (.t 25)]),
ao 27 (.call 77 [(.t 26)])]))) }
def w37 : WF := { nt := 184, results := [(4, some (true, 15)), (5, none)], code :=
(.seq (.reg [ao 2 (.box (.t 0)),
ao 3 (.box (.t 1)),
ao 4 (.alloc [(.list [] true), (.list [] true), (.list [] true), (.list [] true), (.list [] true), (.list [] true), (.list [] true), (.int .i64 0), (.int .i64 0), (.int .i64 0), (.int .i64 0), (.int .i64 0), (.int .i64 0), (.bool false), (.bool false)]),
ao 5 (.mov (.c (.int .i64 0)))])
(.seq (.reg [ao 6 (.alloc [(.bool false), (.bool false), (.bool false), (.bool false), (.bool false), (.bool false)])])
(.seq (.reg [ao 11 (.load true 15 (.t 2)),
ao 7 (.alloc [(.list [] true), (.list [] true), (.list [] true), (.list [] true), (.list [] true), (.list [] true), (.list [] true), (.int .i64 0), (.int .i64 0), (.int .i64 0), (.int .i64 0), (.int .i64 0), (.int .i64 0), (.bool false), (.bool false)]),
an (.store 15 (.t 7) (.t 11))])
(.seq (.reg [ao 12 (.fieldAddr 0 (.t 2)),
ao 13 (.load false 1 (.t 12)),
ao 14 (.call 49 [(.t 13)]),
ao 15 (.fieldAddr 0 (.t 7)),
an (.store 1 (.t 15) (.t 14))])
(.seq (.reg [ao 17 (.fieldAddr 1 (.t 2)),
ao 18 (.load false 1 (.t 17)),
ao 19 (.fieldAddr 1 (.t 3)),
ao 20 (.fieldAddr 0 (.t 19)),
ao 21 (.load false 1 (.t 20)),
ao 22 (.fieldAddr 1 (.t 3)),
ao 23 (.fieldAddr 1 (.t 22)),
ao 24 (.load false 1 (.t 23)),
ao 25 (.call 88 [(.t 18), (.t 21), (.t 24)]),
mv 16 25,
ao 26 (.extract 0 (.t 16)),
ao 27 (.extract 1 (.t 16)),
ao 28 (.fieldAddr 1 (.t 7)),
an (.store 1 (.t 28) (.t 26)),
ao 29 (.indexPA 6 1 (.t 6) (.c (.int .i64 0))),
an (.store 1 (.t 29) (.t 27))])
(.seq (.reg [ao 31 (.fieldAddr 2 (.t 2)),
ao 32 (.load false 1 (.t 31)),
ao 33 (.fieldAddr 3 (.t 3)),
ao 34 (.fieldAddr 0 (.t 33)),
ao 35 (.load false 1 (.t 34)),
ao 36 (.fieldAddr 3 (.t 3)),
ao 37 (.fieldAddr 1 (.t 36)),
ao 38 (.load false 1 (.t 37)),
ao 39 (.call 89 [(.t 32), (.t 35), (.t 38)]),
mv 30 39,
ao 40 (.extract 0 (.t 30)),
ao 41 (.extract 1 (.t 30)),
ao 42 (.fieldAddr 2 (.t 7)),
an (.store 1 (.t 42) (.t 40)),
ao 43 (.indexPA 6 1 (.t 6) (.c (.int .i64 1))),
an (.store 1 (.t 43) (.t 41))])
(.seq (.reg [ao 45 (.fieldAddr 3 (.t 2)),
ao 46 (.load false 1 (.t 45)),
ao 47 (.fieldAddr 5 (.t 3)),
ao 48 (.fieldAddr 0 (.t 47)),
ao 49 (.load false 1 (.t 48)),
ao 50 (.fieldAddr 5 (.t 3)),
ao 51 (.fieldAddr 1 (.t 50)),
ao 52 (.load false 1 (.t 51)),
ao 53 (.call 88 [(.t 46), (.t 49), (.t 52)]),
mv 44 53,
ao 54 (.extract 0 (.t 44)),
ao 55 (.extract 1 (.t 44)),
ao 56 (.fieldAddr 3 (.t 7)),
an (.store 1 (.t 56) (.t 54)),
ao 57 (.indexPA 6 1 (.t 6) (.c (.int .i64 2))),
an (.store 1 (.t 57) (.t 55))])
(.seq (.reg [ao 59 (.fieldAddr 4 (.t 2)),
ao 60 (.load false 1 (.t 59)),
ao 61 (.fieldAddr 7 (.t 3)),
ao 62 (.fieldAddr 0 (.t 61)),
ao 63 (.load false 1 (.t 62)),
ao 64 (.fieldAddr 7 (.t 3)),
ao 65 (.fieldAddr 1 (.t 64)),
ao 66 (.load false 1 (.t 65)),
ao 67 (.call 90 [(.t 60), (.t 63), (.t 66)]),
mv 58 67,
ao 68 (.extract 0 (.t 58)),
ao 69 (.extract 1 (.t 58)),
ao 70 (.fieldAddr 4 (.t 7)),
an (.store 1 (.t 70) (.t 68)),
ao 71 (.indexPA 6 1 (.t 6) (.c (.int .i64 3))),
an (.store 1 (.t 71) (.t 69))])
(.seq (.reg [ao 73 (.fieldAddr 5 (.t 2)),
ao 74 (.load false 1 (.t 73)),
ao 75 (.fieldAddr 9 (.t 3)),
ao 76 (.fieldAddr 0 (.t 75)),
ao 77 (.load false 1 (.t 76)),
ao 78 (.fieldAddr 9 (.t 3)),
ao 79 (.fieldAddr 1 (.t 78)),
ao 80 (.load false 1 (.t 79)),
ao 81 (.call 91 [(.t 74), (.t 77), (.t 80)]),
mv 72 81,
ao 82 (.extract 0 (.t 72)),
ao 83 (.extract 1 (.t 72)),
ao 84 (.fieldAddr 5 (.t 7)),
an (.store 1 (.t 84) (.t 82)),
ao 85 (.indexPA 6 1 (.t 6) (.c (.int .i64 4))),
an (.store 1 (.t 85) (.t 83))])
(.seq (.reg [ao 86 (.fieldAddr 11 (.t 3)),
ao 87 (.load false 1 (.t 86)),
ao 88 (.bin .geq .no (.t 87) (.c (.int .i64 0))),
mv 89 88,
ag 90 (.fieldAddr 11 (.t 3)) 89 true,
ag 91 (.load false 1 (.t 90)) 89 true,
ag 92 (.fieldAddr 6 (.t 2)) 89 true,
ag 93 (.load false 1 (.t 92)) 89 true,
ag 94 (.len (.t 93)) 89 true,
ag 95 (.bin .leq .no (.t 91) (.t 94)) 89 true,
ao 96 (.pick (.t 89) (.t 95) (.c (.bool false))),
ao 97 (.indexPA 6 1 (.t 6) (.c (.int .i64 5))),
an (.store 1 (.t 97) (.t 96))])
(.seq (.seq (.reg [ao 98 (.slice (.arr 6 1) (.t 6) none none none),
ao 99 (.call 92 [(.t 98), (.c (.bool false))])])
(.cond (.t 99)
(.seq (.reg [ao 100 (.build [(.list [] true), (.list [] true), (.list [] true), (.list [] true), (.list [] true), (.list [] true), (.list [] true), (.int .i64 0), (.int .i64 0), (.int .i64 0), (.int .i64 0), (.int .i64 0), (.int .i64 0), (.bool false), (.bool false)] []),
an (.store 15 (.t 4) (.t 100)),
ao 5 (.mov (.c (.int .i64 1)))])
.ret)
.skip))
(.seq (.seq (.reg [ao 101 (.fieldAddr 0 (.t 3)),
ao 102 (.load false 1 (.t 101)),
ao 103 (.len (.t 102)),
ao 104 (.mov (.c (.int .i64 0)))])
(.block 0 (.loop (.seq (.reg [ao 105 (.bin .lss .no (.t 104) (.t 103))])
(.seq (.cond (.t 105)
.skip
(.exit 0))
(.seq (.block 1 (.seq (.reg [ao 106 (.indexSl 2 (.t 102) (.t 104)),
ao 107 (.load true 2 (.t 106)),
ao 9 (.alloc [(.int .i64 0), (.list [] true)]),
an (.store 2 (.t 9) (.t 107))])
(.seq (.seq (.reg [ao 108 (.fieldAddr 0 (.t 9)),
ao 109 (.load false 1 (.t 108)),
ao 110 (.bin .lss .no (.t 109) (.c (.int .i64 0))),
mv 111 110,
ag 112 (.fieldAddr 0 (.t 9)) 111 false,
ag 113 (.load false 1 (.t 112)) 111 false,
ag 114 (.fieldAddr 0 (.t 7)) 111 false,
ag 115 (.load false 1 (.t 114)) 111 false,
ag 116 (.len (.t 115)) 111 false,
ag 117 (.bin .gtr .no (.t 113) (.t 116)) 111 false,
ao 118 (.pick (.t 111) (.c (.bool true)) (.t 117)),
mv 119 118,
ag 120 (.fieldAddr 1 (.t 9)) 119 false,
ag 121 (.load false 1 (.t 120)) 119 false,
ag 122 (.len (.t 121)) 119 false,
ag 123 (.fieldAddr 0 (.t 7)) 119 false,
ag 124 (.load false 1 (.t 123)) 119 false,
ag 125 (.len (.t 124)) 119 false,
ag 126 (.fieldAddr 0 (.t 9)) 119 false,
ag 127 (.load false 1 (.t 126)) 119 false,
ag 128 (.bin .sub .no (.t 125) (.t 127)) 119 false,
ag 129 (.bin .gtr .no (.t 122) (.t 128)) 119 false,
ao 130 (.pick (.t 119) (.c (.bool true)) (.t 129))])
(.cond (.t 130)
(.seq (.reg [ao 131 (.build [(.list [] true), (.list [] true), (.list [] true), (.list [] true), (.list [] true), (.list [] true), (.list [] true), (.int .i64 0), (.int .i64 0), (.int .i64 0), (.int .i64 0), (.int .i64 0), (.int .i64 0), (.bool false), (.bool false)] []),
an (.store 15 (.t 4) (.t 131)),
ao 5 (.mov (.c (.int .i64 1)))])
.ret)
.skip))
(.calm [ao 132 (.fieldAddr 0 (.t 7)),
⟨(some 133), .load false 1 (.t 132), none, [0], false⟩,
ao 134 (.fieldAddr 0 (.t 9)),
⟨(some 135), .load false 1 (.t 134), none, [2], false⟩,
⟨(some 136), .slice (.sl 1) (.t 133) (some (.t 135)) none none, none, [1, 3], false⟩,
ao 137 (.fieldAddr 1 (.t 9)),
⟨(some 138), .load false 1 (.t 137), none, [5], false⟩,
⟨(some 139), .copy 1 (.t 136) (.t 138), none, [4, 6], true⟩]))))
(.reg [ao 140 (.bin .add .no (.t 104) (.c (.int .i64 1))),
mv 104 140])))))))
(.seq (.reg [ao 141 (.fieldAddr 6 (.t 2)),
ao 142 (.load false 1 (.t 141)),
ao 143 (.len (.t 142)),
ao 144 (.fieldAddr 11 (.t 3)),
ao 145 (.load false 1 (.t 144)),
ao 146 (.bin .sub .no (.t 143) (.t 145)),
mv 10 146])
(.seq (.reg [ao 147 (.fieldAddr 6 (.t 2)),
ao 148 (.load false 1 (.t 147)),
mv 149 10,
mv 150 10,
ao 151 (.slice (.sl 1) (.t 148) none (some (.t 149)) (some (.t 150))),
ao 152 (.fieldAddr 6 (.t 7)),
an (.store 1 (.t 152) (.t 151))])
(.seq (.draw [ao 153 (.fieldAddr 12 (.t 3)),
⟨(some 154), .indexPA 6 1 (.t 153) (.c (.int .i64 0)), none, [0], false⟩,
⟨(some 155), .load false 1 (.t 154), none, [1], false⟩,
ao 156 (.fieldAddr 12 (.t 3)),
⟨(some 157), .indexPA 6 1 (.t 156) (.c (.int .i64 1)), none, [3], false⟩,
⟨(some 158), .load false 1 (.t 157), none, [4], false⟩,
ao 159 (.fieldAddr 12 (.t 3)),
⟨(some 160), .indexPA 6 1 (.t 159) (.c (.int .i64 2)), none, [6], false⟩,
⟨(some 161), .load false 1 (.t 160), none, [7], false⟩,
ao 162 (.fieldAddr 12 (.t 3)),
⟨(some 163), .indexPA 6 1 (.t 162) (.c (.int .i64 3)), none, [9], false⟩,
⟨(some 164), .load false 1 (.t 163), none, [10], false⟩,
ao 165 (.fieldAddr 12 (.t 3)),
⟨(some 166), .indexPA 6 1 (.t 165) (.c (.int .i64 4)), none, [12], false⟩,
⟨(some 167), .load false 1 (.t 166), none, [13], false⟩,
ao 168 (.fieldAddr 12 (.t 3)),
⟨(some 169), .indexPA 6 1 (.t 168) (.c (.int .i64 5)), none, [15], false⟩,
⟨(some 170), .load false 1 (.t 169), none, [16], false⟩,
⟨(some 171), .fieldAddr 7 (.t 7), none, [0, 1, 2], false⟩,
⟨none, .store 1 (.t 171) (.t 155), none, [18, 2, 0, 1, 2], true⟩,
⟨(some 172), .fieldAddr 8 (.t 7), none, [0, 1, 2, 3, 4, 5, 18, 19], false⟩,
⟨none, .store 1 (.t 172) (.t 158), none, [20, 5, 19, 0, 1, 2, 3, 4, 5, 18, 19], true⟩,
⟨(some 173), .fieldAddr 9 (.t 7), none, [0, 1, 2, 3, 4, 5, 6, 7, 8, 18, 19, 20, 21], false⟩,
⟨none, .store 1 (.t 173) (.t 161), none, [22, 8, 21, 0, 1, 2, 3, 4, 5, 6, 7, 8, 18, 19, 20, 21], true⟩,
⟨(some 174), .fieldAddr 10 (.t 7), none, [0, 1, 2, 3, 4, 5, 6, 7, 8, 9, 10, 11, 18, 19, 20, 21, 22, 23], false⟩,
⟨none, .store 1 (.t 174) (.t 164), none, [24, 11, 23, 0, 1, 2, 3, 4, 5, 6, 7, 8, 9, 10, 11, 18, 19, 20, 21, 22, 23], true⟩,
⟨(some 175), .fieldAddr 11 (.t 7), none, [0, 1, 2, 3, 4, 5, 6, 7, 8, 9, 10, 11, 12, 13, 14, 18, 19, 20, 21, 22, 23, 24, 25], false⟩,
⟨none, .store 1 (.t 175) (.t 167), none, [26, 14, 25, 0, 1, 2, 3, 4, 5, 6, 7, 8, 9, 10, 11, 12, 13, 14, 18, 19, 20, 21, 22, 23, 24, 25], true⟩,
⟨(some 176), .fieldAddr 12 (.t 7), none, [0, 1, 2, 3, 4, 5, 6, 7, 8, 9, 10, 11, 12, 13, 14, 15, 16, 17, 18, 19, 20, 21, 22, 23, 24, 25, 26, 27], false⟩,
⟨none, .store 1 (.t 176) (.t 170), none, [28, 17, 27, 0, 1, 2, 3, 4, 5, 6, 7, 8, 9, 10, 11, 12, 13, 14, 15, 16, 17, 18, 19, 20, 21, 22, 23, 24, 25, 26, 27], true⟩])
(.seq (.draw [ao 177 (.fieldAddr 18 (.t 3)),
⟨(some 178), .load false 1 (.t 177), none, [0], false⟩,
ao 179 (.fieldAddr 19 (.t 3)),
⟨(some 180), .load false 1 (.t 179), none, [2], false⟩,
⟨(some 181), .fieldAddr 13 (.t 7), none, [0, 1], false⟩,
⟨none, .store 1 (.t 181) (.t 178), none, [4, 1, 0, 1], true⟩,
⟨(some 182), .fieldAddr 14 (.t 7), none, [0, 1, 2, 3, 4, 5], false⟩,
⟨none, .store 1 (.t 182) (.t 180), none, [6, 3, 5, 0, 1, 2, 3, 4, 5], true⟩])
(.seq (.reg [ao 183 (.load true 15 (.t 7)),
an (.store 15 (.t 4) (.t 183)),
ao 5 (.mov (.c (.int .i64 0)))])
.ret))))))))))))))))) }
def w38 : WF := { nt := 102, results := [(4, some (true, 3)), (5, none)], code :=
(.seq (.reg [ao 2 (.box (.t 0)),
ao 4 (.alloc [(.list [] true), (.int .i64 0), (.int .i64 0)]),
ao 5 (.mov (.c (.list [] true)))])
(.seq (.calm [ao 19 (.load true 3 (.t 2)),
mv 20 1,
⟨(some 21), .call 22 [(.t 20)], none, [1], false⟩,
⟨(some 22), .call 93 [(.t 19), (.c (.int .i64 0)), (.t 21)], none, [0, 2, 2], false⟩,
⟨(some 18), .mov (.t 22), none, [3], false⟩,
⟨(some 23), .extract 0 (.t 18), none, [4], false⟩,
⟨(some 24), .extract 1 (.t 18), none, [4], false⟩,
⟨(some 6), .alloc [(.list [] true), (.int .i64 0), (.int .i64 0)], none, [], true⟩,
⟨none, .store 3 (.t 6) (.t 23), none, [7, 5, 3, 0, 1, 2, 3, 4, 5, 7], true⟩,
⟨(some 7), .mov (.t 24), none, [6, 8, 0, 1, 2, 3, 4, 5, 6, 7, 8], false⟩])
(.seq (.reg [ao 25 (.buildSlice 1 0 [(.int .u8 0)] []),
mv 26 1,
ao 27 (.append 1 1 none (.t 25) (.t 26)),
mv 8 27])
(.seq (.reg [ao 9 (.mov (.c (.int .i64 0)))])
(.seq (.seq (.reg [ao 10 (.mov (.c (.int .i64 0)))])
(.block 0 (.loop (.seq (.seq (.reg [mv 28 10,
mv 29 7,
ao 30 (.bin .lss .no (.t 28) (.t 29)),
mv 31 30,
ag 32 (.fieldAddr 2 (.t 6)) 31 true,
ag 33 (.load false 1 (.t 32)) 31 true,
ag 34 (.bin .eql .no (.t 33) (.c (.int .i64 0))) 31 true,
ao 35 (.pick (.t 31) (.t 34) (.c (.bool false)))])
(.cond (.t 35)
.skip
(.exit 0)))
(.seq (.block 1 (.seq (.calm [ao 39 (.load true 3 (.t 6)),
mv 40 9,
mv 41 1,
⟨(some 42), .call 22 [(.t 41)], none, [2], false⟩,
⟨(some 43), .bin .sub .no (.t 42) (.c (.int .i64 1)), none, [3], false⟩,
⟨(some 44), .call 93 [(.t 39), (.t 40), (.t 43)], none, [0, 1, 4, 3], false⟩,
⟨(some 38), .mov (.t 44), none, [5], false⟩,
⟨(some 45), .extract 0 (.t 38), none, [6], false⟩,
⟨(some 46), .extract 1 (.t 38), none, [6], false⟩,
⟨(some 11), .alloc [(.list [] true), (.int .i64 0), (.int .i64 0)], none, [], true⟩,
⟨none, .store 3 (.t 11) (.t 45), none, [9, 7, 5, 0, 1, 2, 3, 4, 5, 6, 7, 9], true⟩,
⟨(some 12), .mov (.t 46), none, [8, 10, 0, 1, 2, 3, 4, 5, 6, 7, 8, 9, 10], false⟩])
(.seq (.reg [ao 48 (.load true 3 (.t 11)),
ao 49 (.call 39 [(.t 48), (.c (.int .i64 65536))]),
mv 47 49,
ao 50 (.extract 0 (.t 47)),
ao 51 (.extract 1 (.t 47)),
ao 13 (.alloc [(.list [] true), (.int .i64 0), (.int .i64 0)]),
an (.store 3 (.t 13) (.t 50)),
mv 14 51])
(.seq (.reg [ao 52 (.load true 3 (.t 13)),
an (.store 3 (.t 6) (.t 52))])
(.seq (.seq (.reg [ao 53 (.fieldAddr 2 (.t 6)),
ao 54 (.load false 1 (.t 53)),
ao 55 (.bin .neq .no (.t 54) (.c (.int .i64 0)))])
(.cond (.t 55)
(.seq (.reg [ao 56 (.load true 3 (.t 6)),
an (.store 3 (.t 4) (.t 56)),
ao 5 (.mov (.c (.list [] true)))])
.ret)
.skip))
(.seq (.reg [mv 58 14,
mv 59 1,
mv 60 12,
ao 61 (.call 23 [(.t 59), (.t 60)]),
ao 62 (.len (.t 61)),
ao 63 (.call 94 [(.t 58), (.t 62)]),
mv 57 63,
ao 64 (.extract 0 (.t 57)),
ao 65 (.extract 1 (.t 57)),
mv 15 64,
mv 16 65])
(.seq (.seq (.calm [mv 66 16,
⟨(some 67), .bin .eql .no (.t 66) (.c (.int .i64 0)), none, [0], false⟩,
⟨(some 68), .mov (.t 67), none, [1], false⟩,
⟨(some 69), .mov (.t 15), some (68, true), [2], false⟩,
⟨(some 70), .conv .b2s (.t 69), some (68, true), [3, 2], false⟩,
⟨(some 71), .mov (.t 1), some (68, true), [2], false⟩,
⟨(some 72), .mov (.t 12), some (68, true), [2], false⟩,
⟨(some 73), .call 23 [(.t 71), (.t 72)], some (68, true), [5, 6, 2, 2], false⟩,
⟨(some 74), .conv .b2s (.t 73), some (68, true), [7, 2], false⟩,
⟨(some 75), .bin .eql .no (.t 70) (.t 74), some (68, true), [4, 8, 2], false⟩,
⟨(some 76), .pick (.t 68) (.t 75) (.c (.bool false)), none, [2, 9], false⟩])
(.cond (.t 76)
(.reg [ao 16 (.mov (.c (.int .i64 2)))])
.skip))
(.seq (.seq (.reg [mv 77 16,
ao 78 (.bin .neq .no (.t 77) (.c (.int .i64 0)))])
(.cond (.t 78)
(.seq (.reg [mv 79 16,
ao 80 (.fieldAddr 2 (.t 6)),
an (.store 1 (.t 80) (.t 79))])
(.seq (.reg [ao 81 (.load true 3 (.t 6)),
an (.store 3 (.t 4) (.t 81)),
ao 5 (.mov (.c (.list [] true)))])
.ret))
.skip))
(.seq (.seq (.reg [ao 17 (.mov (.c (.int .i64 0)))])
(.block 2 (.loop (.seq (.seq (.reg [mv 82 17,
mv 83 15,
ao 84 (.len (.t 83)),
ao 85 (.bin .lss .no (.t 82) (.t 84))])
(.cond (.t 85)
.skip
(.exit 2)))
(.seq (.block 3 (.reg [mv 88 8,
mv 89 12,
ao 90 (.bin .mul .no (.c (.int .i64 64)) (.t 89)),
mv 91 17,
ao 92 (.bin .add .no (.t 90) (.t 91)),
mv 93 15,
mv 94 17,
ao 95 (.indexSl 1 (.t 93) (.t 94)),
ao 96 (.load false 1 (.t 95)),
ao 97 (.indexSl 1 (.t 88) (.t 92)),
an (.store 1 (.t 97) (.t 96))]))
(.reg [mv 86 17,
ao 87 (.bin .add .no (.t 86) (.c (.int .i64 1))),
mv 17 87]))))))
(.reg [mv 98 12,
ao 99 (.bin .add .no (.t 98) (.c (.int .i64 1))),
mv 9 99]))))))))))
(.reg [mv 36 10,
ao 37 (.bin .add .no (.t 36) (.c (.int .i64 1))),
mv 10 37]))))))
(.seq (.reg [ao 100 (.load true 3 (.t 6)),
mv 101 8,
an (.store 3 (.t 4) (.t 100)),
mv 5 101])
.ret)))))) }
def w39 : WF := { nt := 45, results := [(4, some (true, 3)), (5, none)], code :=
(.seq (.reg [ao 2 (.box (.t 0)),
ao 4 (.alloc [(.list [] true), (.int .i64 0), (.int .i64 0)]),
ao 5 (.mov (.c (.list [] true)))])
(.seq (.reg [ao 10 (.load true 3 (.t 2)),
mv 11 1,
ao 12 (.call 93 [(.t 10), (.c (.int .i64 0)), (.t 11)]),
mv 9 12,
ao 13 (.extract 0 (.t 9)),
ao 14 (.extract 1 (.t 9)),
ao 6 (.alloc [(.list [] true), (.int .i64 0), (.int .i64 0)]),
an (.store 3 (.t 6) (.t 13)),
mv 7 14])
(.seq (.seq (.reg [ao 15 (.fieldAddr 2 (.t 6)),
ao 16 (.load false 1 (.t 15)),
ao 17 (.bin .neq .no (.t 16) (.c (.int .i64 0)))])
(.cond (.t 17)
(.seq (.reg [ao 18 (.load true 3 (.t 6)),
an (.store 3 (.t 4) (.t 18)),
ao 5 (.mov (.c (.list [] true)))])
.ret)
.skip))
(.seq (.seq (.reg [mv 19 7,
ao 20 (.fieldAddr 0 (.t 6)),
ao 21 (.load false 1 (.t 20)),
ao 22 (.len (.t 21)),
ao 23 (.fieldAddr 1 (.t 6)),
ao 24 (.load false 1 (.t 23)),
ao 25 (.bin .sub .no (.t 22) (.t 24)),
ao 26 (.bin .gtr .no (.t 19) (.t 25))])
(.cond (.t 26)
(.seq (.reg [ao 27 (.fieldAddr 2 (.t 6)),
an (.store 1 (.t 27) (.c (.int .i64 3)))])
(.seq (.reg [ao 28 (.load true 3 (.t 6)),
an (.store 3 (.t 4) (.t 28)),
ao 5 (.mov (.c (.list [] true)))])
.ret))
.skip))
(.seq (.reg [ao 29 (.fieldAddr 0 (.t 6)),
ao 30 (.load false 1 (.t 29)),
ao 31 (.fieldAddr 1 (.t 6)),
ao 32 (.load false 1 (.t 31)),
ao 33 (.fieldAddr 1 (.t 6)),
ao 34 (.load false 1 (.t 33)),
mv 35 7,
ao 36 (.bin .add .no (.t 34) (.t 35)),
ao 37 (.slice (.sl 1) (.t 30) (some (.t 32)) (some (.t 36)) none),
mv 8 37])
(.seq (.reg [ao 38 (.fieldAddr 1 (.t 6)),
ao 39 (.load false 1 (.t 38)),
mv 40 7,
ao 41 (.bin .add .no (.t 39) (.t 40)),
ao 42 (.fieldAddr 1 (.t 6)),
an (.store 1 (.t 42) (.t 41))])
(.seq (.reg [ao 43 (.load true 3 (.t 6)),
mv 44 8,
an (.store 3 (.t 4) (.t 43)),
mv 5 44])
.ret))))))) }
def w40 : WF := { nt := 16, results := [(2, none)], code :=
(.seq (.reg [ao 1 (.box (.t 0)),
ao 2 (.mov (.c (.int .i64 0)))])
(.seq (.seq (.reg [ao 3 (.fieldAddr 2 (.t 1)),
ao 4 (.load false 1 (.t 3)),
ao 5 (.bin .eql .no (.t 4) (.c (.int .i64 0))),
mv 6 5,
ag 7 (.fieldAddr 1 (.t 1)) 6 true,
ag 8 (.load false 1 (.t 7)) 6 true,
ag 9 (.fieldAddr 0 (.t 1)) 6 true,
ag 10 (.load false 1 (.t 9)) 6 true,
ag 11 (.len (.t 10)) 6 true,
ag 12 (.bin .lss .no (.t 8) (.t 11)) 6 true,
ao 13 (.pick (.t 6) (.t 12) (.c (.bool false)))])
(.cond (.t 13)
(.seq (.reg [ao 2 (.mov (.c (.int .i64 2)))])
.ret)
.skip))
(.seq (.reg [ao 14 (.fieldAddr 2 (.t 1)),
ao 15 (.load false 1 (.t 14)),
mv 2 15])
.ret))) }
def w41 : WF := { nt := 105, results := [(2, some (true, 20)), (3, none)], code :=
(.seq (.reg [ao 2 (.alloc [(.list [] true), (.int .i64 0), (.list [] true), (.int .i64 0), (.list [] true), (.int .i64 0), (.list [] true), (.int .i64 0), (.list [] true), (.int .i64 0), (.list [] true), (.int .i64 0), (.int .i64 0), (.int .i64 0), (.int .i64 0), (.int .i64 0), (.int .i64 0), (.int .i64 0), (.bool false), (.bool false)]),
ao 3 (.mov (.c (.int .i64 0)))])
(.seq (.reg [ao 4 (.alloc [(.list [] true), (.int .i64 0), (.list [] true), (.int .i64 0), (.list [] true), (.int .i64 0), (.list [] true), (.int .i64 0), (.list [] true), (.int .i64 0), (.list [] true), (.int .i64 0), (.int .i64 0), (.int .i64 0), (.int .i64 0), (.int .i64 0), (.int .i64 0), (.int .i64 0), (.bool false), (.bool false)])])
(.seq (.reg [mv 27 0,
ao 28 (.build [(.list [] true), (.int .i64 0), (.int .i64 0)] [(0, 1, (.t 27))]),
ao 29 (.call 95 [(.t 28)]),
mv 26 29,
ao 30 (.extract 0 (.t 26)),
ao 31 (.extract 1 (.t 26)),
ao 5 (.alloc [(.list [] true), (.int .i64 0), (.int .i64 0)]),
an (.store 3 (.t 5) (.t 30)),
mv 6 31])
(.seq (.reg [ao 33 (.load true 3 (.t 5)),
ao 34 (.call 96 [(.t 33)]),
mv 32 34,
ao 35 (.extract 0 (.t 32)),
ao 36 (.extract 1 (.t 32)),
ao 7 (.alloc [(.list [] true), (.int .i64 0), (.int .i64 0)]),
ao 8 (.alloc [(.int .i64 0), (.list [] true)]),
an (.store 3 (.t 7) (.t 35)),
an (.store 2 (.t 8) (.t 36))])
(.seq (.reg [ao 38 (.load true 3 (.t 7)),
ao 39 (.call 97 [(.t 38)]),
mv 37 39,
ao 40 (.extract 0 (.t 37)),
ao 41 (.extract 1 (.t 37)),
ao 9 (.alloc [(.list [] true), (.int .i64 0), (.int .i64 0)]),
ao 10 (.alloc [(.int .i64 0), (.list [] true)]),
an (.store 3 (.t 9) (.t 40)),
an (.store 2 (.t 10) (.t 41))])
(.seq (.reg [ao 43 (.load true 3 (.t 9)),
ao 44 (.call 96 [(.t 43)]),
mv 42 44,
ao 45 (.extract 0 (.t 42)),
ao 46 (.extract 1 (.t 42)),
ao 11 (.alloc [(.list [] true), (.int .i64 0), (.int .i64 0)]),
ao 12 (.alloc [(.int .i64 0), (.list [] true)]),
an (.store 3 (.t 11) (.t 45)),
an (.store 2 (.t 12) (.t 46))])
(.seq (.reg [ao 48 (.load true 3 (.t 11)),
ao 49 (.call 98 [(.t 48)]),
mv 47 49,
ao 50 (.extract 0 (.t 47)),
ao 51 (.extract 1 (.t 47)),
ao 13 (.alloc [(.list [] true), (.int .i64 0), (.int .i64 0)]),
ao 14 (.alloc [(.int .i64 0), (.list [] true)]),
an (.store 3 (.t 13) (.t 50)),
an (.store 2 (.t 14) (.t 51))])
(.seq (.reg [ao 53 (.load true 3 (.t 13)),
ao 54 (.call 99 [(.t 53)]),
mv 52 54,
ao 55 (.extract 0 (.t 52)),
ao 56 (.extract 1 (.t 52)),
ao 15 (.alloc [(.list [] true), (.int .i64 0), (.int .i64 0)]),
ao 16 (.alloc [(.int .i64 0), (.list [] true)]),
an (.store 3 (.t 15) (.t 55)),
an (.store 2 (.t 16) (.t 56))])
(.seq (.reg [ao 58 (.load true 3 (.t 15)),
ao 59 (.call 100 [(.t 58)]),
mv 57 59,
ao 60 (.extract 0 (.t 57)),
ao 61 (.extract 1 (.t 57)),
ao 17 (.alloc [(.list [] true), (.int .i64 0), (.int .i64 0)]),
an (.store 3 (.t 17) (.t 60)),
mv 18 61])
(.seq (.reg [mv 62 6,
ao 63 (.load true 2 (.t 8)),
ao 64 (.load true 2 (.t 10)),
ao 65 (.load true 2 (.t 12)),
ao 66 (.load true 2 (.t 14)),
ao 67 (.load true 2 (.t 16)),
mv 68 18,
ao 69 (.build [(.list [] true), (.int .i64 0), (.list [] true), (.int .i64 0), (.list [] true), (.int .i64 0), (.list [] true), (.int .i64 0), (.list [] true), (.int .i64 0), (.list [] true), (.int .i64 0), (.int .i64 0), (.int .i64 0), (.int .i64 0), (.int .i64 0), (.int .i64 0), (.int .i64 0), (.bool false), (.bool false)] [(0, 1, (.t 62)), (1, 2, (.t 63)), (3, 2, (.t 64)), (5, 2, (.t 65)), (7, 2, (.t 66)), (9, 2, (.t 67)), (11, 1, (.t 68))]),
an (.store 20 (.t 4) (.t 69))])
(.seq (.reg [ao 70 (.load true 3 (.t 17)),
ao 19 (.alloc [(.list [] true), (.int .i64 0), (.int .i64 0)]),
an (.store 3 (.t 19) (.t 70))])
(.seq (.seq (.reg [ao 20 (.mov (.c (.int .i64 0)))])
(.block 0 (.loop (.seq (.seq (.reg [mv 71 20,
ao 72 (.bin .lss .no (.t 71) (.c (.int .i64 6)))])
(.cond (.t 72)
.skip
(.exit 0)))
(.seq (.block 1 (.seq (.reg [ao 76 (.load true 3 (.t 19)),
ao 77 (.call 100 [(.t 76)]),
mv 75 77,
ao 78 (.extract 0 (.t 75)),
ao 79 (.extract 1 (.t 75)),
ao 21 (.alloc [(.list [] true), (.int .i64 0), (.int .i64 0)]),
an (.store 3 (.t 21) (.t 78)),
mv 22 79])
(.seq (.reg [ao 80 (.load true 3 (.t 21)),
an (.store 3 (.t 19) (.t 80))])
(.reg [mv 81 20,
mv 82 22,
ao 83 (.fieldAddr 12 (.t 4)),
ao 84 (.indexPA 6 1 (.t 83) (.t 81)),
an (.store 1 (.t 84) (.t 82))]))))
(.reg [mv 73 20,
ao 74 (.bin .add .no (.t 73) (.c (.int .i64 1))),
mv 20 74]))))))
(.seq (.reg [ao 86 (.load true 3 (.t 19)),
ao 87 (.call 93 [(.t 86), (.c (.int .i64 0)), (.c (.int .i64 3))]),
mv 85 87,
ao 88 (.extract 0 (.t 85)),
ao 89 (.extract 1 (.t 85)),
ao 23 (.alloc [(.list [] true), (.int .i64 0), (.int .i64 0)]),
an (.store 3 (.t 23) (.t 88)),
mv 24 89])
(.seq (.reg [mv 90 24,
ao 91 (.bin .rem .no (.t 90) (.c (.int .i64 2))),
ao 92 (.bin .eql .no (.t 91) (.c (.int .i64 1))),
ao 93 (.fieldAddr 18 (.t 4)),
an (.store 1 (.t 93) (.t 92))])
(.seq (.reg [mv 94 24,
ao 95 (.bin .quo .no (.t 94) (.c (.int .i64 2))),
ao 96 (.bin .eql .no (.t 95) (.c (.int .i64 1))),
ao 97 (.fieldAddr 19 (.t 4)),
an (.store 1 (.t 97) (.t 96))])
(.seq (.reg [ao 98 (.load true 3 (.t 23)),
ao 99 (.call 40 [(.t 98)]),
mv 25 99])
(.seq (.seq (.reg [mv 100 25,
ao 101 (.bin .neq .no (.t 100) (.c (.int .i64 0)))])
(.cond (.t 101)
(.seq (.reg [ao 102 (.build [(.list [] true), (.int .i64 0), (.list [] true), (.int .i64 0), (.list [] true), (.int .i64 0), (.list [] true), (.int .i64 0), (.list [] true), (.int .i64 0), (.list [] true), (.int .i64 0), (.int .i64 0), (.int .i64 0), (.int .i64 0), (.int .i64 0), (.int .i64 0), (.int .i64 0), (.bool false), (.bool false)] []),
mv 103 25,
an (.store 20 (.t 2) (.t 102)),
mv 3 103])
.ret)
.skip))
(.seq (.reg [ao 104 (.load true 20 (.t 4)),
an (.store 20 (.t 2) (.t 104)),
ao 3 (.mov (.c (.int .i64 0)))])
.ret)))))))))))))))))) }
def w42 : WF := { nt := 161, results := [(4, some (true, 15)), (5, none)], code :=
(.seq (.reg [ao 2 (.box (.t 0)),
ao 3 (.box (.t 1)),
ao 4 (.alloc [(.list [] true), (.list [] true), (.list [] true), (.list [] true), (.list [] true), (.list [] true), (.list [] true), (.int .i64 0), (.int .i64 0), (.int .i64 0), (.int .i64 0), (.int .i64 0), (.int .i64 0), (.bool false), (.bool false)]),
ao 5 (.mov (.c (.int .i64 0)))])
(.seq (.seq (.reg [ao 10 (.load true 15 (.t 2)),
ao 11 (.load true 20 (.t 3)),
ao 12 (.call 101 [(.t 10), (.t 11)]),
ao 13 (.un .not (.t 12))])
(.cond (.t 13)
(.seq (.reg [ao 14 (.build [(.list [] true), (.list [] true), (.list [] true), (.list [] true), (.list [] true), (.list [] true), (.list [] true), (.int .i64 0), (.int .i64 0), (.int .i64 0), (.int .i64 0), (.int .i64 0), (.int .i64 0), (.bool false), (.bool false)] []),
an (.store 15 (.t 4) (.t 14)),
ao 5 (.mov (.c (.int .i64 1)))])
.ret)
.skip))
(.seq (.reg [ao 15 (.buildSlice 1 0 [(.int .u8 0)] []),
ao 16 (.fieldAddr 0 (.t 2)),
ao 17 (.load false 1 (.t 16)),
ao 18 (.append 1 1 none (.t 15) (.t 17)),
mv 6 18])
(.seq (.seq (.reg [ao 7 (.mov (.c (.int .i64 0)))])
(.block 0 (.loop (.seq (.seq (.reg [mv 19 7,
ao 20 (.fieldAddr 0 (.t 3)),
ao 21 (.load false 1 (.t 20)),
ao 22 (.len (.t 21)),
ao 23 (.bin .lss .no (.t 19) (.t 22))])
(.cond (.t 23)
.skip
(.exit 0)))
(.seq (.block 1 (.seq (.reg [ao 8 (.mov (.c (.int .i64 0)))])
(.block 2 (.loop (.seq (.seq (.reg [mv 26 8,
ao 27 (.fieldAddr 0 (.t 3)),
ao 28 (.load false 1 (.t 27)),
mv 29 7,
ao 30 (.indexSl 2 (.t 28) (.t 29)),
ao 31 (.fieldAddr 1 (.t 30)),
ao 32 (.load false 1 (.t 31)),
ao 33 (.len (.t 32)),
ao 34 (.bin .lss .no (.t 26) (.t 33))])
(.cond (.t 34)
.skip
(.exit 2)))
(.seq (.block 3 (.calm [mv 37 6,
ao 38 (.fieldAddr 0 (.t 3)),
⟨(some 39), .load false 1 (.t 38), none, [1], false⟩,
mv 40 7,
⟨(some 41), .indexSl 2 (.t 39) (.t 40), none, [2, 3], false⟩,
⟨(some 42), .fieldAddr 0 (.t 41), none, [4], false⟩,
⟨(some 43), .load false 1 (.t 42), none, [5], false⟩,
mv 44 8,
⟨(some 45), .bin .add .no (.t 43) (.t 44), none, [6, 7], false⟩,
ao 46 (.fieldAddr 0 (.t 3)),
⟨(some 47), .load false 1 (.t 46), none, [9], false⟩,
mv 48 7,
⟨(some 49), .indexSl 2 (.t 47) (.t 48), none, [10, 11], false⟩,
⟨(some 50), .fieldAddr 1 (.t 49), none, [12], false⟩,
⟨(some 51), .load false 1 (.t 50), none, [13], false⟩,
mv 52 8,
⟨(some 53), .indexSl 1 (.t 51) (.t 52), none, [14, 15], false⟩,
⟨(some 54), .load false 1 (.t 53), none, [16], false⟩,
⟨(some 55), .indexSl 1 (.t 37) (.t 45), none, [0, 8, 0, 1, 2, 3, 4, 5, 6, 7, 8, 9, 10, 11, 12, 13, 14, 15, 16, 17], false⟩,
⟨none, .store 1 (.t 55) (.t 54), none, [18, 17, 0, 1, 2, 3, 4, 5, 6, 7, 8, 9, 10, 11, 12, 13, 14, 15, 16, 17], true⟩]))
(.reg [mv 35 8,
ao 36 (.bin .add .no (.t 35) (.c (.int .i64 1))),
mv 8 36])))))))
(.reg [mv 24 7,
ao 25 (.bin .add .no (.t 24) (.c (.int .i64 1))),
mv 7 25]))))))
(.seq (.calm [mv 56 6,
ao 57 (.fieldAddr 6 (.t 2)),
⟨(some 58), .load false 1 (.t 57), none, [1], false⟩,
ao 59 (.fieldAddr 6 (.t 2)),
⟨(some 60), .load false 1 (.t 59), none, [3], false⟩,
⟨(some 61), .len (.t 60), none, [4], false⟩,
ao 62 (.fieldAddr 11 (.t 3)),
⟨(some 63), .load false 1 (.t 62), none, [6], false⟩,
⟨(some 64), .bin .sub .no (.t 61) (.t 63), none, [5, 7], false⟩,
⟨(some 65), .slice (.sl 1) (.t 58) none (some (.t 64)) none, none, [2, 8], false⟩,
ao 66 (.fieldAddr 18 (.t 3)),
⟨(some 67), .load false 1 (.t 66), none, [10], false⟩,
ao 68 (.fieldAddr 19 (.t 3)),
⟨(some 69), .load false 1 (.t 68), none, [12], false⟩,
⟨(some 70), .build [(.list [] true), (.list [] true), (.list [] true), (.list [] true), (.list [] true), (.list [] true), (.list [] true), (.int .i64 0), (.int .i64 0), (.int .i64 0), (.int .i64 0), (.int .i64 0), (.int .i64 0), (.bool false), (.bool false)] [(0, 1, (.t 56)), (6, 1, (.t 65)), (13, 1, (.t 67)), (14, 1, (.t 69))], none, [0, 9, 11, 13], false⟩,
⟨(some 9), .alloc [(.list [] true), (.list [] true), (.list [] true), (.list [] true), (.list [] true), (.list [] true), (.list [] true), (.int .i64 0), (.int .i64 0), (.int .i64 0), (.int .i64 0), (.int .i64 0), (.int .i64 0), (.bool false), (.bool false)], none, [], true⟩,
⟨none, .store 15 (.t 9) (.t 70), none, [15, 14, 0, 1, 2, 3, 4, 5, 6, 7, 8, 9, 10, 11, 12, 13, 14, 15], true⟩])
(.seq (.draw [ao 71 (.pur (.lst 1 0 [(.int .i64 0)] []) []),
ao 72 (.fieldAddr 1 (.t 2)),
⟨(some 73), .load false 1 (.t 72), none, [1], false⟩,
ao 74 (.fieldAddr 1 (.t 3)),
⟨(some 75), .fieldAddr 0 (.t 74), none, [3], false⟩,
⟨(some 76), .load false 1 (.t 75), none, [4], false⟩,
⟨(some 77), .slice (.sl 1) (.t 73) none (some (.t 76)) none, none, [2, 5], false⟩,
⟨(some 78), .append 1 8 none (.t 71) (.t 77), none, [0, 6], true⟩,
ao 79 (.fieldAddr 1 (.t 3)),
⟨(some 80), .fieldAddr 1 (.t 79), none, [8], false⟩,
⟨(some 81), .load false 1 (.t 80), none, [9], false⟩,
⟨(some 82), .append 1 8 none (.t 78) (.t 81), none, [7, 10, 7], true⟩,
⟨(some 83), .fieldAddr 1 (.t 9), none, [0, 1, 2, 3, 4, 5, 6, 7, 8, 9, 10, 11], false⟩,
⟨none, .store 1 (.t 83) (.t 82), none, [12, 11, 11, 0, 1, 2, 3, 4, 5, 6, 7, 8, 9, 10, 11], true⟩])
(.seq (.draw [ao 84 (.pur (.lst 2 0 [(.int .i64 0), (.bool false)] []) []),
ao 85 (.fieldAddr 2 (.t 2)),
⟨(some 86), .load false 1 (.t 85), none, [1], false⟩,
ao 87 (.fieldAddr 3 (.t 3)),
⟨(some 88), .fieldAddr 0 (.t 87), none, [3], false⟩,
⟨(some 89), .load false 1 (.t 88), none, [4], false⟩,
⟨(some 90), .slice (.sl 2) (.t 86) none (some (.t 89)) none, none, [2, 5], false⟩,
⟨(some 91), .append 2 16 none (.t 84) (.t 90), none, [0, 6], true⟩,
ao 92 (.fieldAddr 3 (.t 3)),
⟨(some 93), .fieldAddr 1 (.t 92), none, [8], false⟩,
⟨(some 94), .load false 1 (.t 93), none, [9], false⟩,
⟨(some 95), .append 2 16 none (.t 91) (.t 94), none, [7, 10, 7], true⟩,
⟨(some 96), .fieldAddr 2 (.t 9), none, [0, 1, 2, 3, 4, 5, 6, 7, 8, 9, 10, 11], false⟩,
⟨none, .store 1 (.t 96) (.t 95), none, [12, 11, 11, 0, 1, 2, 3, 4, 5, 6, 7, 8, 9, 10, 11], true⟩])
(.seq (.draw [ao 97 (.pur (.lst 1 0 [(.int .i64 0)] []) []),
ao 98 (.fieldAddr 3 (.t 2)),
⟨(some 99), .load false 1 (.t 98), none, [1], false⟩,
ao 100 (.fieldAddr 5 (.t 3)),
⟨(some 101), .fieldAddr 0 (.t 100), none, [3], false⟩,
⟨(some 102), .load false 1 (.t 101), none, [4], false⟩,
⟨(some 103), .slice (.sl 1) (.t 99) none (some (.t 102)) none, none, [2, 5], false⟩,
⟨(some 104), .append 1 8 none (.t 97) (.t 103), none, [0, 6], true⟩,
ao 105 (.fieldAddr 5 (.t 3)),
⟨(some 106), .fieldAddr 1 (.t 105), none, [8], false⟩,
⟨(some 107), .load false 1 (.t 106), none, [9], false⟩,
⟨(some 108), .append 1 8 none (.t 104) (.t 107), none, [7, 10, 7], true⟩,
⟨(some 109), .fieldAddr 3 (.t 9), none, [0, 1, 2, 3, 4, 5, 6, 7, 8, 9, 10, 11], false⟩,
⟨none, .store 1 (.t 109) (.t 108), none, [12, 11, 11, 0, 1, 2, 3, 4, 5, 6, 7, 8, 9, 10, 11], true⟩])
(.seq (.draw [ao 110 (.pur (.lst 4 0 [(.str ⟨#[]⟩), (.int .i64 0), (.bool false), (.bool false)] []) []),
ao 111 (.fieldAddr 4 (.t 2)),
⟨(some 112), .load false 1 (.t 111), none, [1], false⟩,
ao 113 (.fieldAddr 7 (.t 3)),
⟨(some 114), .fieldAddr 0 (.t 113), none, [3], false⟩,
⟨(some 115), .load false 1 (.t 114), none, [4], false⟩,
⟨(some 116), .slice (.sl 4) (.t 112) none (some (.t 115)) none, none, [2, 5], false⟩,
⟨(some 117), .append 4 32 none (.t 110) (.t 116), none, [0, 6], true⟩,
ao 118 (.fieldAddr 7 (.t 3)),
⟨(some 119), .fieldAddr 1 (.t 118), none, [8], false⟩,
⟨(some 120), .load false 1 (.t 119), none, [9], false⟩,
⟨(some 121), .append 4 32 none (.t 117) (.t 120), none, [7, 10, 7], true⟩,
⟨(some 122), .fieldAddr 4 (.t 9), none, [0, 1, 2, 3, 4, 5, 6, 7, 8, 9, 10, 11], false⟩,
⟨none, .store 1 (.t 122) (.t 121), none, [12, 11, 11, 0, 1, 2, 3, 4, 5, 6, 7, 8, 9, 10, 11], true⟩])
(.seq (.draw [ao 123 (.pur (.lst 2 0 [(.int .i64 0), (.int .i64 0)] []) []),
ao 124 (.fieldAddr 5 (.t 2)),
⟨(some 125), .load false 1 (.t 124), none, [1], false⟩,
ao 126 (.fieldAddr 9 (.t 3)),
⟨(some 127), .fieldAddr 0 (.t 126), none, [3], false⟩,
⟨(some 128), .load false 1 (.t 127), none, [4], false⟩,
⟨(some 129), .slice (.sl 2) (.t 125) none (some (.t 128)) none, none, [2, 5], false⟩,
⟨(some 130), .append 2 16 none (.t 123) (.t 129), none, [0, 6], true⟩,
ao 131 (.fieldAddr 9 (.t 3)),
⟨(some 132), .fieldAddr 1 (.t 131), none, [8], false⟩,
⟨(some 133), .load false 1 (.t 132), none, [9], false⟩,
⟨(some 134), .append 2 16 none (.t 130) (.t 133), none, [7, 10, 7], true⟩,
⟨(some 135), .fieldAddr 5 (.t 9), none, [0, 1, 2, 3, 4, 5, 6, 7, 8, 9, 10, 11], false⟩,
⟨none, .store 1 (.t 135) (.t 134), none, [12, 11, 11, 0, 1, 2, 3, 4, 5, 6, 7, 8, 9, 10, 11], true⟩])
(.seq (.reg [ao 136 (.fieldAddr 12 (.t 3)),
ao 137 (.indexPA 6 1 (.t 136) (.c (.int .i64 0))),
ao 138 (.load false 1 (.t 137)),
ao 139 (.fieldAddr 7 (.t 9)),
an (.store 1 (.t 139) (.t 138))])
(.seq (.reg [ao 140 (.fieldAddr 12 (.t 3)),
ao 141 (.indexPA 6 1 (.t 140) (.c (.int .i64 1))),
ao 142 (.load false 1 (.t 141)),
ao 143 (.fieldAddr 8 (.t 9)),
an (.store 1 (.t 143) (.t 142))])
(.seq (.reg [ao 144 (.fieldAddr 12 (.t 3)),
ao 145 (.indexPA 6 1 (.t 144) (.c (.int .i64 2))),
ao 146 (.load false 1 (.t 145)),
ao 147 (.fieldAddr 9 (.t 9)),
an (.store 1 (.t 147) (.t 146))])
(.seq (.reg [ao 148 (.fieldAddr 12 (.t 3)),
ao 149 (.indexPA 6 1 (.t 148) (.c (.int .i64 3))),
ao 150 (.load false 1 (.t 149)),
ao 151 (.fieldAddr 10 (.t 9)),
an (.store 1 (.t 151) (.t 150))])
(.seq (.reg [ao 152 (.fieldAddr 12 (.t 3)),
ao 153 (.indexPA 6 1 (.t 152) (.c (.int .i64 4))),
ao 154 (.load false 1 (.t 153)),
ao 155 (.fieldAddr 11 (.t 9)),
an (.store 1 (.t 155) (.t 154))])
(.seq (.reg [ao 156 (.fieldAddr 12 (.t 3)),
ao 157 (.indexPA 6 1 (.t 156) (.c (.int .i64 5))),
ao 158 (.load false 1 (.t 157)),
ao 159 (.fieldAddr 12 (.t 9)),
an (.store 1 (.t 159) (.t 158))])
(.seq (.reg [ao 160 (.load true 15 (.t 9)),
an (.store 15 (.t 4) (.t 160)),
ao 5 (.mov (.c (.int .i64 0)))])
.ret))))))))))))))))) }
def w43 : WF := { nt := 26, results := [(4, none)], code :=
(.seq (.reg [ao 4 (.mov (.c (.bool false)))])
(.seq (.seq (.reg [mv 6 0,
ao 7 (.len (.t 6)),
mv 8 1,
ao 9 (.len (.t 8)),
ao 10 (.bin .neq .no (.t 7) (.t 9))])
(.cond (.t 10)
(.seq (.reg [ao 4 (.mov (.c (.bool false)))])
.ret)
.skip))
(.seq (.seq (.reg [ao 5 (.mov (.c (.int .i64 0)))])
(.block 0 (.loop (.seq (.seq (.reg [mv 11 5,
mv 12 0,
ao 13 (.len (.t 12)),
ao 14 (.bin .lss .no (.t 11) (.t 13))])
(.cond (.t 14)
.skip
(.exit 0)))
(.seq (.block 1 (.seq (.calm [mv 17 0,
mv 18 5,
⟨(some 19), .indexSl 1 (.t 17) (.t 18), none, [0, 1], false⟩,
⟨(some 20), .load false 1 (.t 19), none, [2], false⟩,
mv 21 1,
mv 22 5,
⟨(some 23), .indexSl 1 (.t 21) (.t 22), none, [4, 5], false⟩,
⟨(some 24), .load false 1 (.t 23), none, [6], false⟩,
⟨(some 25), .bin .neq .no (.t 20) (.t 24), none, [3, 7], false⟩])
(.cond (.t 25)
(.seq (.reg [ao 4 (.mov (.c (.bool false)))])
.ret)
.skip)))
(.reg [mv 15 5,
ao 16 (.bin .add .no (.t 15) (.c (.int .i64 1))),
mv 5 16]))))))
(.seq (.reg [ao 4 (.mov (.c (.bool true)))])
.ret)))) }
def w44 : WF := { nt := 26, results := [(4, none)], code :=
(.seq (.reg [ao 4 (.mov (.c (.bool false)))])
(.seq (.seq (.reg [mv 6 0,
ao 7 (.len (.t 6)),
mv 8 1,
ao 9 (.len (.t 8)),
ao 10 (.bin .neq .no (.t 7) (.t 9))])
(.cond (.t 10)
(.seq (.reg [ao 4 (.mov (.c (.bool false)))])
.ret)
.skip))
(.seq (.seq (.reg [ao 5 (.mov (.c (.int .i64 0)))])
(.block 0 (.loop (.seq (.seq (.reg [mv 11 5,
mv 12 0,
ao 13 (.len (.t 12)),
ao 14 (.bin .lss .no (.t 11) (.t 13))])
(.cond (.t 14)
.skip
(.exit 0)))
(.seq (.block 1 (.seq (.calm [mv 17 0,
mv 18 5,
⟨(some 19), .indexSl 2 (.t 17) (.t 18), none, [0, 1], false⟩,
⟨(some 20), .load true 2 (.t 19), none, [2], false⟩,
mv 21 1,
mv 22 5,
⟨(some 23), .indexSl 2 (.t 21) (.t 22), none, [4, 5], false⟩,
⟨(some 24), .load true 2 (.t 23), none, [6], false⟩,
⟨(some 25), .pur (.eqA false [(0, .int), (1, .bool)]) [(.t 20), (.t 24)], none, [3, 7], false⟩])
(.cond (.t 25)
(.seq (.reg [ao 4 (.mov (.c (.bool false)))])
.ret)
.skip)))
(.reg [mv 15 5,
ao 16 (.bin .add .no (.t 15) (.c (.int .i64 1))),
mv 5 16]))))))
(.seq (.reg [ao 4 (.mov (.c (.bool true)))])
.ret)))) }
def w45 : WF := { nt := 26, results := [(4, none)], code :=
(.seq (.reg [ao 4 (.mov (.c (.bool false)))])
(.seq (.seq (.reg [mv 6 0,
ao 7 (.len (.t 6)),
mv 8 1,
ao 9 (.len (.t 8)),
ao 10 (.bin .neq .no (.t 7) (.t 9))])
(.cond (.t 10)
(.seq (.reg [ao 4 (.mov (.c (.bool false)))])
.ret)
.skip))
(.seq (.seq (.reg [ao 5 (.mov (.c (.int .i64 0)))])
(.block 0 (.loop (.seq (.seq (.reg [mv 11 5,
mv 12 0,
ao 13 (.len (.t 12)),
ao 14 (.bin .lss .no (.t 11) (.t 13))])
(.cond (.t 14)
.skip
(.exit 0)))
(.seq (.block 1 (.seq (.calm [mv 17 0,
mv 18 5,
⟨(some 19), .indexSl 4 (.t 17) (.t 18), none, [0, 1], false⟩,
⟨(some 20), .load true 4 (.t 19), none, [2], false⟩,
mv 21 1,
mv 22 5,
⟨(some 23), .indexSl 4 (.t 21) (.t 22), none, [4, 5], false⟩,
⟨(some 24), .load true 4 (.t 23), none, [6], false⟩,
⟨(some 25), .pur (.eqA false [(0, .str), (1, .int), (2, .bool), (3, .bool)]) [(.t 20), (.t 24)], none, [3, 7], false⟩])
(.cond (.t 25)
(.seq (.reg [ao 4 (.mov (.c (.bool false)))])
.ret)
.skip)))
(.reg [mv 15 5,
ao 16 (.bin .add .no (.t 15) (.c (.int .i64 1))),
mv 5 16]))))))
(.seq (.reg [ao 4 (.mov (.c (.bool true)))])
.ret)))) }
def w46 : WF := { nt := 26, results := [(4, none)], code :=
(.seq (.reg [ao 4 (.mov (.c (.bool false)))])
(.seq (.seq (.reg [mv 6 0,
ao 7 (.len (.t 6)),
mv 8 1,
ao 9 (.len (.t 8)),
ao 10 (.bin .neq .no (.t 7) (.t 9))])
(.cond (.t 10)
(.seq (.reg [ao 4 (.mov (.c (.bool false)))])
.ret)
.skip))
(.seq (.seq (.reg [ao 5 (.mov (.c (.int .i64 0)))])
(.block 0 (.loop (.seq (.seq (.reg [mv 11 5,
mv 12 0,
ao 13 (.len (.t 12)),
ao 14 (.bin .lss .no (.t 11) (.t 13))])
(.cond (.t 14)
.skip
(.exit 0)))
(.seq (.block 1 (.seq (.calm [mv 17 0,
mv 18 5,
⟨(some 19), .indexSl 2 (.t 17) (.t 18), none, [0, 1], false⟩,
⟨(some 20), .load true 2 (.t 19), none, [2], false⟩,
mv 21 1,
mv 22 5,
⟨(some 23), .indexSl 2 (.t 21) (.t 22), none, [4, 5], false⟩,
⟨(some 24), .load true 2 (.t 23), none, [6], false⟩,
⟨(some 25), .pur (.eqA false [(0, .int), (1, .int)]) [(.t 20), (.t 24)], none, [3, 7], false⟩])
(.cond (.t 25)
(.seq (.reg [ao 4 (.mov (.c (.bool false)))])
.ret)
.skip)))
(.reg [mv 15 5,
ao 16 (.bin .add .no (.t 15) (.c (.int .i64 1))),
mv 5 16]))))))
(.seq (.reg [ao 4 (.mov (.c (.bool true)))])
.ret)))) }
def w47 : WF := { nt := 29, results := [], code :=
(.seq (.reg [ao 3 (.mov (.c (.int .i64 0)))])
(.block 0 (.loop (.seq (.seq (.reg [mv 6 3,
ao 7 (.bin .mul .no (.t 6) (.c (.int .i64 64))),
ao 8 (.load false 1 (.t 1)),
ao 9 (.len (.t 8)),
ao 10 (.bin .lss .no (.t 7) (.t 9))])
(.cond (.t 10)
.skip
(.exit 0)))
(.seq (.block 1 (.seq (.reg [mv 13 3,
ao 14 (.bin .mul .no (.t 13) (.c (.int .i64 64))),
mv 4 14])
(.seq (.reg [mv 15 4,
ao 16 (.bin .add .no (.t 15) (.c (.int .i64 64))),
ao 17 (.load false 1 (.t 1)),
ao 18 (.len (.t 17)),
ao 19 (.min [(.t 16), (.t 18)]),
mv 5 19])
(.seq (.reg [mv 20 0,
mv 21 3,
ao 22 (.load false 1 (.t 1)),
mv 23 4,
mv 24 5,
mv 25 5,
ao 26 (.slice (.sl 1) (.t 22) (some (.t 23)) (some (.t 24)) (some (.t 25))),
ao 27 (.callv (.t 20) [(.t 21), (.t 26)]),
ao 28 (.un .not (.t 27))])
(.cond (.t 28)
.ret
.skip)))))
(.reg [mv 11 3,
ao 12 (.bin .add .no (.t 11) (.c (.int .i64 1))),
mv 3 12])))))) }
def w48 : WF := { nt := 27, results := [(4, none)], code :=
(.seq (.reg [ao 4 (.mov (.c (.list [] true)))])
(.seq (.seq (.reg [mv 5 1,
ao 6 (.bin .lss .no (.t 5) (.c (.int .i64 0)))])
(.cond (.t 6)
(.reg [ao 7 (.makeIface 9 (.c (.str ⟨#[99, 97, 110, 110, 111, 116, 32, 98, 101, 32, 110, 101, 103, 97, 116, 105, 118, 101]⟩))),
an (.panic (.t 7))])
.skip))
(.seq (.seq (.reg [mv 8 1,
mv 9 0,
ao 10 (.cap (.t 9)),
mv 11 0,
ao 12 (.len (.t 11)),
ao 13 (.bin .sub .no (.t 10) (.t 12)),
ao 14 (.bin .sub .no (.t 8) (.t 13)),
mv 1 14])
(.seq (.reg [mv 15 1,
ao 16 (.bin .gtr .no (.t 15) (.c (.int .i64 0)))])
(.cond (.t 16)
(.reg [mv 17 0,
mv 18 0,
ao 19 (.cap (.t 18)),
ao 20 (.slice (.sl 1) (.t 17) none (some (.t 19)) none),
mv 21 1,
ao 22 (.append 1 1 (some [(.int .u8 0)]) (.t 20) (.t 21)),
mv 23 0,
ao 24 (.len (.t 23)),
ao 25 (.slice (.sl 1) (.t 22) none (some (.t 24)) none),
mv 0 25])
.skip)))
(.seq (.reg [mv 26 0,
mv 4 26])
.ret)))) }
def w49 : WF := { nt := 8, results := [(2, none)], code :=
(.seq (.reg [ao 2 (.mov (.c (.list [] true)))])
(.seq (.seq (.reg [mv 3 0,
ao 4 (.pur (.isNil true) [(.t 3)])])
(.cond (.t 4)
(.seq (.reg [ao 2 (.mov (.c (.list [] true)))])
.ret)
.skip))
(.seq (.reg [ao 5 (.buildSlice 1 0 [(.int .u8 0)] []),
mv 6 0,
ao 7 (.append 1 1 none (.t 5) (.t 6)),
mv 2 7])
.ret))) }
def w50 : WF := { nt := 4, results := [(2, none)], code :=
(.seq (.reg [ao 1 (.box (.t 0)),
ao 2 (.mov (.c .nilfn))])
(.seq (.reg [ao 3 (.makeFunc (.func 102) [] [(.t 1)]),
mv 2 3])
.ret)) }
def w51 : WF := { nt := 5, results := [(2, none)], code :=
(.seq (.reg [ao 2 (.mov (.c (.list [] true)))])
(.seq (.reg [mv 3 0,
ao 4 (.call 16 [(.t 3)]),
mv 2 4])
.ret)) }
def w52 : WF := { nt := 30, results := [(6, none)], code :=
(.seq (.reg [ao 6 (.mov (.c (.list [] true)))])
(.seq (.reg [mv 10 0,
ao 11 (.call 16 [(.t 10)]),
mv 12 1,
ao 13 (.len (.t 12)),
ao 14 (.call 16 [(.t 13)]),
ao 15 (.buildSlice 1 2 [(.list [] true)] [(0, 1, (.t 11)), (1, 1, (.t 14))]),
ao 16 (.call 15 [(.t 15)]),
mv 7 16])
(.seq (.seq (.reg [mv 17 1,
ao 18 (.len (.t 17)),
ao 19 (.mov (.c (.int .i64 0)))])
(.block 0 (.loop (.seq (.reg [ao 20 (.bin .lss .no (.t 19) (.t 18))])
(.seq (.cond (.t 20)
.skip
(.exit 0))
(.seq (.block 1 (.seq (.reg [ao 21 (.indexSl 1 (.t 17) (.t 19)),
ao 22 (.load false 1 (.t 21)),
mv 9 22])
(.reg [mv 23 7,
mv 24 2,
mv 25 9,
ao 26 (.callv (.t 24) [(.t 25)]),
ao 27 (.append 1 1 none (.t 23) (.t 26)),
mv 7 27])))
(.reg [ao 28 (.bin .add .no (.t 19) (.c (.int .i64 1))),
mv 19 28])))))))
(.seq (.reg [mv 29 7,
mv 6 29])
.ret)))) }
def w53 : WF := { nt := 30, results := [(6, none)], code :=
(.seq (.reg [ao 6 (.mov (.c (.list [] true)))])
(.seq (.reg [mv 10 0,
ao 11 (.call 16 [(.t 10)]),
mv 12 1,
ao 13 (.len (.t 12)),
ao 14 (.call 16 [(.t 13)]),
ao 15 (.buildSlice 1 2 [(.list [] true)] [(0, 1, (.t 11)), (1, 1, (.t 14))]),
ao 16 (.call 15 [(.t 15)]),
mv 7 16])
(.seq (.seq (.reg [mv 17 1,
ao 18 (.len (.t 17)),
ao 19 (.mov (.c (.int .i64 0)))])
(.block 0 (.loop (.seq (.reg [ao 20 (.bin .lss .no (.t 19) (.t 18))])
(.seq (.cond (.t 20)
.skip
(.exit 0))
(.seq (.block 1 (.seq (.reg [ao 21 (.indexSl 2 (.t 17) (.t 19)),
ao 22 (.load true 2 (.t 21)),
ao 9 (.alloc [(.int .i64 0), (.bool false)]),
an (.store 2 (.t 9) (.t 22))])
(.reg [mv 23 7,
mv 24 2,
ao 25 (.load true 2 (.t 9)),
ao 26 (.callv (.t 24) [(.t 25)]),
ao 27 (.append 1 1 none (.t 23) (.t 26)),
mv 7 27])))
(.reg [ao 28 (.bin .add .no (.t 19) (.c (.int .i64 1))),
mv 19 28])))))))
(.seq (.reg [mv 29 7,
mv 6 29])
.ret)))) }
def w54 : WF := { nt := 10, results := [(2, none)], code :=
(.seq (.reg [ao 1 (.box (.t 0)),
ao 2 (.mov (.c (.list [] true)))])
(.seq (.calm [ao 3 (.fieldAddr 0 (.t 1)),
⟨(some 4), .load false 1 (.t 3), none, [0], false⟩,
ao 5 (.fieldAddr 1 (.t 1)),
⟨(some 6), .load false 1 (.t 5), none, [2], false⟩,
⟨(some 7), .call 56 [(.t 6), (.c (.int .i64 1))], none, [3], false⟩,
⟨(some 8), .pur (.lst 1 2 [(.int .i64 0)] [(0, 1), (1, 1)]) [(.t 4), (.t 7)], none, [1, 4], false⟩,
⟨(some 9), .call 55 [(.t 8)], none, [5, 4], false⟩,
⟨(some 2), .mov (.t 9), none, [6, 6, 0, 1, 2, 3, 4, 5, 6], false⟩])
.ret)) }
def w55 : WF := { nt := 18, results := [(2, none)], code :=
(.seq (.reg [ao 2 (.mov (.c (.list [] true)))])
(.seq (.reg [ao 3 (.mov (.c (.list [] true)))])
(.seq (.seq (.reg [mv 6 0,
ao 7 (.len (.t 6)),
ao 8 (.mov (.c (.int .i64 0)))])
(.block 0 (.loop (.seq (.reg [ao 9 (.bin .lss .no (.t 8) (.t 7))])
(.seq (.cond (.t 9)
.skip
(.exit 0))
(.seq (.block 1 (.seq (.reg [ao 10 (.indexSl 1 (.t 6) (.t 8)),
ao 11 (.load false 1 (.t 10)),
mv 5 11])
(.reg [mv 12 3,
mv 13 5,
ao 14 (.call 16 [(.t 13)]),
ao 15 (.append 1 1 none (.t 12) (.t 14)),
mv 3 15])))
(.reg [ao 16 (.bin .add .no (.t 8) (.c (.int .i64 1))),
mv 8 16])))))))
(.seq (.reg [mv 17 3,
mv 2 17])
.ret)))) }
def w56 : WF := { nt := 7, results := [(4, none)], code :=
(.seq (.reg [ao 4 (.mov (.c (.int .i64 0)))])
(.seq (.seq (.reg [mv 5 0])
(.cond (.t 5)
(.seq (.reg [mv 6 1,
mv 4 6])
.ret)
.skip))
(.seq (.reg [ao 4 (.mov (.c (.int .i64 0)))])
.ret))) }
def w57 : WF := { nt := 30, results := [(6, none)], code :=
(.seq (.reg [ao 6 (.mov (.c (.list [] true)))])
(.seq (.reg [mv 10 0,
ao 11 (.call 16 [(.t 10)]),
mv 12 1,
ao 13 (.len (.t 12)),
ao 14 (.call 16 [(.t 13)]),
ao 15 (.buildSlice 1 2 [(.list [] true)] [(0, 1, (.t 11)), (1, 1, (.t 14))]),
ao 16 (.call 15 [(.t 15)]),
mv 7 16])
(.seq (.seq (.reg [mv 17 1,
ao 18 (.len (.t 17)),
ao 19 (.mov (.c (.int .i64 0)))])
(.block 0 (.loop (.seq (.reg [ao 20 (.bin .lss .no (.t 19) (.t 18))])
(.seq (.cond (.t 20)
.skip
(.exit 0))
(.seq (.block 1 (.seq (.reg [ao 21 (.indexSl 4 (.t 17) (.t 19)),
ao 22 (.load true 4 (.t 21)),
ao 9 (.alloc [(.str ⟨#[]⟩), (.int .i64 0), (.bool false), (.bool false)]),
an (.store 4 (.t 9) (.t 22))])
(.reg [mv 23 7,
mv 24 2,
ao 25 (.load true 4 (.t 9)),
ao 26 (.callv (.t 24) [(.t 25)]),
ao 27 (.append 1 1 none (.t 23) (.t 26)),
mv 7 27])))
(.reg [ao 28 (.bin .add .no (.t 19) (.c (.int .i64 1))),
mv 19 28])))))))
(.seq (.reg [mv 29 7,
mv 6 29])
.ret)))) }
def w58 : WF := { nt := 20, results := [(2, none)], code :=
(.seq (.reg [ao 1 (.box (.t 0)),
ao 2 (.mov (.c (.list [] true)))])
(.seq (.calm [ao 3 (.fieldAddr 0 (.t 1)),
⟨(some 4), .load false 1 (.t 3), none, [0], false⟩,
⟨(some 5), .pur .s2b [(.t 4)], none, [1], false⟩,
⟨(some 6), .call 17 [(.t 5)], none, [2], false⟩,
ao 7 (.fieldAddr 1 (.t 1)),
⟨(some 8), .load false 1 (.t 7), none, [4], false⟩,
ao 9 (.fieldAddr 2 (.t 1)),
⟨(some 10), .load false 1 (.t 9), none, [6], false⟩,
⟨(some 11), .call 56 [(.t 10), (.c (.int .i64 1))], none, [7, 3], false⟩,
ao 12 (.fieldAddr 3 (.t 1)),
⟨(some 13), .load false 1 (.t 12), none, [9], false⟩,
⟨(some 14), .call 56 [(.t 13), (.c (.int .i64 2))], none, [10, 8], false⟩,
⟨(some 15), .bin .add .no (.t 11) (.t 14), none, [8, 11], false⟩,
⟨(some 16), .pur (.lst 1 2 [(.int .i64 0)] [(0, 1), (1, 1)]) [(.t 8), (.t 15)], none, [5, 12], false⟩,
⟨(some 17), .call 55 [(.t 16)], none, [13, 11], false⟩,
⟨(some 18), .pur (.lst 1 2 [(.list [] true)] [(0, 1), (1, 1)]) [(.t 6), (.t 17)], none, [3, 14], false⟩,
⟨(some 19), .call 15 [(.t 18)], none, [15, 14], true⟩,
⟨(some 2), .mov (.t 19), none, [16, 16, 0, 1, 2, 3, 4, 5, 6, 7, 8, 9, 10, 11, 12, 13, 14, 15, 16], false⟩])
.ret)) }
def w59 : WF := { nt := 30, results := [(6, none)], code :=
(.seq (.reg [ao 6 (.mov (.c (.list [] true)))])
(.seq (.reg [mv 10 0,
ao 11 (.call 16 [(.t 10)]),
mv 12 1,
ao 13 (.len (.t 12)),
ao 14 (.call 16 [(.t 13)]),
ao 15 (.buildSlice 1 2 [(.list [] true)] [(0, 1, (.t 11)), (1, 1, (.t 14))]),
ao 16 (.call 15 [(.t 15)]),
mv 7 16])
(.seq (.seq (.reg [mv 17 1,
ao 18 (.len (.t 17)),
ao 19 (.mov (.c (.int .i64 0)))])
(.block 0 (.loop (.seq (.reg [ao 20 (.bin .lss .no (.t 19) (.t 18))])
(.seq (.cond (.t 20)
.skip
(.exit 0))
(.seq (.block 1 (.seq (.reg [ao 21 (.indexSl 2 (.t 17) (.t 19)),
ao 22 (.load true 2 (.t 21)),
ao 9 (.alloc [(.int .i64 0), (.int .i64 0)]),
an (.store 2 (.t 9) (.t 22))])
(.reg [mv 23 7,
mv 24 2,
ao 25 (.load true 2 (.t 9)),
ao 26 (.callv (.t 24) [(.t 25)]),
ao 27 (.append 1 1 none (.t 23) (.t 26)),
mv 7 27])))
(.reg [ao 28 (.bin .add .no (.t 19) (.c (.int .i64 1))),
mv 19 28])))))))
(.seq (.reg [mv 29 7,
mv 6 29])
.ret)))) }
def w60 : WF := { nt := 9, results := [(2, none)], code :=
(.seq (.reg [ao 1 (.box (.t 0)),
ao 2 (.mov (.c (.list [] true)))])
(.seq (.reg [ao 3 (.fieldAddr 0 (.t 1)),
ao 4 (.load false 1 (.t 3)),
ao 5 (.fieldAddr 1 (.t 1)),
ao 6 (.load false 1 (.t 5)),
ao 7 (.buildSlice 1 2 [(.int .i64 0)] [(0, 1, (.t 4)), (1, 1, (.t 6))]),
ao 8 (.call 55 [(.t 7)]),
mv 2 8])
.ret)) }
def w61 : WF := { nt := 6, results := [(4, none)], code :=
(.seq (.reg [ao 2 (.box (.t 0)),
ao 3 (.box (.t 1)),
ao 4 (.mov (.c .nilfn))])
(.seq (.reg [ao 5 (.makeFunc (.func 104) [] [(.t 2), (.t 3)]),
mv 4 5])
.ret)) }
def w62 : WF := { nt := 30, results := [(4, none)], code :=
(.seq (.reg [ao 4 (.mov (.c (.int .i64 0)))])
(.seq (.reg [ao 5 (.mov (.c (.int .i64 0)))])
(.seq (.block 0 (.loop (.seq (.seq (.calm [mv 6 5,
mv 7 0,
⟨(some 8), .len (.t 7), none, [1], false⟩,
⟨(some 9), .bin .lss .no (.t 6) (.t 8), none, [0, 2], false⟩,
⟨(some 10), .mov (.t 9), none, [3], false⟩,
⟨(some 11), .mov (.t 5), some (10, true), [4], false⟩,
⟨(some 12), .mov (.t 1), some (10, true), [4], false⟩,
⟨(some 13), .len (.t 12), some (10, true), [6, 4], false⟩,
⟨(some 14), .bin .lss .no (.t 11) (.t 13), some (10, true), [5, 7, 4], false⟩,
⟨(some 15), .pick (.t 10) (.t 14) (.c (.bool false)), none, [4, 8], false⟩,
⟨(some 16), .mov (.t 15), none, [9, 4], false⟩,
⟨(some 17), .mov (.t 0), some (16, true), [10], false⟩,
⟨(some 18), .mov (.t 5), some (16, true), [10], false⟩,
⟨(some 19), .indexSl 1 (.t 17) (.t 18), some (16, true), [11, 12, 10], false⟩,
⟨(some 20), .load false 1 (.t 19), some (16, true), [13, 10], false⟩,
⟨(some 21), .mov (.t 1), some (16, true), [10], false⟩,
⟨(some 22), .mov (.t 5), some (16, true), [10], false⟩,
⟨(some 23), .indexSl 1 (.t 21) (.t 22), some (16, true), [15, 16, 10], false⟩,
⟨(some 24), .load false 1 (.t 23), some (16, true), [17, 10], false⟩,
⟨(some 25), .bin .eql .no (.t 20) (.t 24), some (16, true), [14, 18, 10], false⟩,
⟨(some 26), .pick (.t 16) (.t 25) (.c (.bool false)), none, [10, 19], false⟩])
(.cond (.t 26)
.skip
(.exit 0)))
(.block 1 (.reg [mv 27 5,
ao 28 (.bin .add .no (.t 27) (.c (.int .i64 1))),
mv 5 28])))))
(.seq (.reg [mv 29 5,
mv 4 29])
.ret)))) }
def w63 : WF := { nt := 30, results := [(4, none)], code :=
(.seq (.reg [ao 4 (.mov (.c (.int .i64 0)))])
(.seq (.reg [ao 5 (.mov (.c (.int .i64 0)))])
(.seq (.block 0 (.loop (.seq (.seq (.calm [mv 6 5,
mv 7 0,
⟨(some 8), .len (.t 7), none, [1], false⟩,
⟨(some 9), .bin .lss .no (.t 6) (.t 8), none, [0, 2], false⟩,
⟨(some 10), .mov (.t 9), none, [3], false⟩,
⟨(some 11), .mov (.t 5), some (10, true), [4], false⟩,
⟨(some 12), .mov (.t 1), some (10, true), [4], false⟩,
⟨(some 13), .len (.t 12), some (10, true), [6, 4], false⟩,
⟨(some 14), .bin .lss .no (.t 11) (.t 13), some (10, true), [5, 7, 4], false⟩,
⟨(some 15), .pick (.t 10) (.t 14) (.c (.bool false)), none, [4, 8], false⟩,
⟨(some 16), .mov (.t 15), none, [9, 4], false⟩,
⟨(some 17), .mov (.t 0), some (16, true), [10], false⟩,
⟨(some 18), .mov (.t 5), some (16, true), [10], false⟩,
⟨(some 19), .indexSl 2 (.t 17) (.t 18), some (16, true), [11, 12, 10], false⟩,
⟨(some 20), .load true 2 (.t 19), some (16, true), [13, 10], false⟩,
⟨(some 21), .mov (.t 1), some (16, true), [10], false⟩,
⟨(some 22), .mov (.t 5), some (16, true), [10], false⟩,
⟨(some 23), .indexSl 2 (.t 21) (.t 22), some (16, true), [15, 16, 10], false⟩,
⟨(some 24), .load true 2 (.t 23), some (16, true), [17, 10], false⟩,
⟨(some 25), .pur (.eqA true [(0, .int), (1, .bool)]) [(.t 20), (.t 24)], some (16, true), [14, 18, 10], false⟩,
⟨(some 26), .pick (.t 16) (.t 25) (.c (.bool false)), none, [10, 19], false⟩])
(.cond (.t 26)
.skip
(.exit 0)))
(.block 1 (.reg [mv 27 5,
ao 28 (.bin .add .no (.t 27) (.c (.int .i64 1))),
mv 5 28])))))
(.seq (.reg [mv 29 5,
mv 4 29])
.ret)))) }
def w64 : WF := { nt := 30, results := [(4, none)], code :=
(.seq (.reg [ao 4 (.mov (.c (.int .i64 0)))])
(.seq (.reg [ao 5 (.mov (.c (.int .i64 0)))])
(.seq (.block 0 (.loop (.seq (.seq (.calm [mv 6 5,
mv 7 0,
⟨(some 8), .len (.t 7), none, [1], false⟩,
⟨(some 9), .bin .lss .no (.t 6) (.t 8), none, [0, 2], false⟩,
⟨(some 10), .mov (.t 9), none, [3], false⟩,
⟨(some 11), .mov (.t 5), some (10, true), [4], false⟩,
⟨(some 12), .mov (.t 1), some (10, true), [4], false⟩,
⟨(some 13), .len (.t 12), some (10, true), [6, 4], false⟩,
⟨(some 14), .bin .lss .no (.t 11) (.t 13), some (10, true), [5, 7, 4], false⟩,
⟨(some 15), .pick (.t 10) (.t 14) (.c (.bool false)), none, [4, 8], false⟩,
⟨(some 16), .mov (.t 15), none, [9, 4], false⟩,
⟨(some 17), .mov (.t 0), some (16, true), [10], false⟩,
⟨(some 18), .mov (.t 5), some (16, true), [10], false⟩,
⟨(some 19), .indexSl 4 (.t 17) (.t 18), some (16, true), [11, 12, 10], false⟩,
⟨(some 20), .load true 4 (.t 19), some (16, true), [13, 10], false⟩,
⟨(some 21), .mov (.t 1), some (16, true), [10], false⟩,
⟨(some 22), .mov (.t 5), some (16, true), [10], false⟩,
⟨(some 23), .indexSl 4 (.t 21) (.t 22), some (16, true), [15, 16, 10], false⟩,
⟨(some 24), .load true 4 (.t 23), some (16, true), [17, 10], false⟩,
⟨(some 25), .pur (.eqA true [(0, .str), (1, .int), (2, .bool), (3, .bool)]) [(.t 20), (.t 24)], some (16, true), [14, 18, 10], false⟩,
⟨(some 26), .pick (.t 16) (.t 25) (.c (.bool false)), none, [10, 19], false⟩])
(.cond (.t 26)
.skip
(.exit 0)))
(.block 1 (.reg [mv 27 5,
ao 28 (.bin .add .no (.t 27) (.c (.int .i64 1))),
mv 5 28])))))
(.seq (.reg [mv 29 5,
mv 4 29])
.ret)))) }
def w65 : WF := { nt := 30, results := [(4, none)], code :=
(.seq (.reg [ao 4 (.mov (.c (.int .i64 0)))])
(.seq (.reg [ao 5 (.mov (.c (.int .i64 0)))])
(.seq (.block 0 (.loop (.seq (.seq (.calm [mv 6 5,
mv 7 0,
⟨(some 8), .len (.t 7), none, [1], false⟩,
⟨(some 9), .bin .lss .no (.t 6) (.t 8), none, [0, 2], false⟩,
⟨(some 10), .mov (.t 9), none, [3], false⟩,
⟨(some 11), .mov (.t 5), some (10, true), [4], false⟩,
⟨(some 12), .mov (.t 1), some (10, true), [4], false⟩,
⟨(some 13), .len (.t 12), some (10, true), [6, 4], false⟩,
⟨(some 14), .bin .lss .no (.t 11) (.t 13), some (10, true), [5, 7, 4], false⟩,
⟨(some 15), .pick (.t 10) (.t 14) (.c (.bool false)), none, [4, 8], false⟩,
⟨(some 16), .mov (.t 15), none, [9, 4], false⟩,
⟨(some 17), .mov (.t 0), some (16, true), [10], false⟩,
⟨(some 18), .mov (.t 5), some (16, true), [10], false⟩,
⟨(some 19), .indexSl 2 (.t 17) (.t 18), some (16, true), [11, 12, 10], false⟩,
⟨(some 20), .load true 2 (.t 19), some (16, true), [13, 10], false⟩,
⟨(some 21), .mov (.t 1), some (16, true), [10], false⟩,
⟨(some 22), .mov (.t 5), some (16, true), [10], false⟩,
⟨(some 23), .indexSl 2 (.t 21) (.t 22), some (16, true), [15, 16, 10], false⟩,
⟨(some 24), .load true 2 (.t 23), some (16, true), [17, 10], false⟩,
⟨(some 25), .pur (.eqA true [(0, .int), (1, .int)]) [(.t 20), (.t 24)], some (16, true), [14, 18, 10], false⟩,
⟨(some 26), .pick (.t 16) (.t 25) (.c (.bool false)), none, [10, 19], false⟩])
(.cond (.t 26)
.skip
(.exit 0)))
(.block 1 (.reg [mv 27 5,
ao 28 (.bin .add .no (.t 27) (.c (.int .i64 1))),
mv 5 28])))))
(.seq (.reg [mv 29 5,
mv 4 29])
.ret)))) }
def w66 : WF := { nt := 14, results := [(2, none)], code :=
(.seq (.reg [ao 2 (.mov (.c (.int .u64 0)))])
(.seq (.seq (.reg [mv 3 0,
ao 4 (.bin .geq .no (.t 3) (.c (.int .i64 0)))])
(.cond (.t 4)
(.seq (.reg [mv 5 0,
ao 6 (.conv (.int .u64) (.t 5)),
ao 7 (.bin .mul .no (.c (.int .u64 2)) (.t 6)),
mv 2 7])
.ret)
.skip))
(.seq (.reg [mv 8 0,
ao 9 (.bin .add .no (.t 8) (.c (.int .i64 1))),
ao 10 (.un .neg (.t 9)),
ao 11 (.conv (.int .u64) (.t 10)),
ao 12 (.bin .mul .no (.c (.int .u64 2)) (.t 11)),
ao 13 (.bin .add .no (.t 12) (.c (.int .u64 1))),
mv 2 13])
.ret))) }
def w67 : WF := { nt := 19, results := [(2, none)], code :=
(.seq (.reg [ao 2 (.mov (.c (.list [] true)))])
(.seq (.reg [ao 3 (.mov (.c (.list [] true)))])
(.seq (.seq (.reg [ao 4 (.mov (.c (.int .i64 0)))])
(.block 0 (.loop (.seq (.seq (.reg [mv 5 4,
mv 6 0,
ao 7 (.len (.t 6)),
ao 8 (.bin .lss .no (.t 5) (.t 7))])
(.cond (.t 8)
.skip
(.exit 0)))
(.seq (.block 1 (.reg [mv 11 3,
mv 12 0,
mv 13 4,
ao 14 (.indexSl 1 (.t 12) (.t 13)),
ao 15 (.load false 1 (.t 14)),
ao 16 (.call 24 [(.t 15)]),
ao 17 (.append 1 1 none (.t 11) (.t 16)),
mv 3 17]))
(.reg [mv 9 4,
ao 10 (.bin .add .no (.t 9) (.c (.int .i64 1))),
mv 4 10]))))))
(.seq (.reg [mv 18 3,
mv 2 18])
.ret)))) }
def w68 : WF := { nt := 11, results := [(4, none)], code :=
(.seq (.reg [ao 4 (.mov (.c (.int .i64 0)))])
(.seq (.reg [ao 5 (.mov (.c (.int .i64 0)))])
(.seq (.seq (.reg [mv 6 0])
(.cond (.t 6)
(.reg [ao 5 (.mov (.c (.int .i64 1)))])
.skip))
(.seq (.seq (.reg [mv 7 1])
(.cond (.t 7)
(.reg [mv 8 5,
ao 9 (.bin .add .no (.t 8) (.c (.int .i64 2))),
mv 5 9])
.skip))
(.seq (.reg [mv 10 5,
mv 4 10])
.ret))))) }
def w69 : WF := { nt := 70, results := [(4, none)], code :=
(.seq (.reg [ao 4 (.mov (.c (.list [] true)))])
(.seq (.reg [ao 5 (.mov (.c (.list [] true)))])
(.seq (.seq (.reg [ao 6 (.mov (.c (.int .i64 0)))])
(.block 0 (.loop (.seq (.seq (.reg [mv 8 6,
mv 9 0,
ao 10 (.len (.t 9)),
ao 11 (.bin .lss .no (.t 8) (.t 10))])
(.cond (.t 11)
.skip
(.exit 0)))
(.seq (.block 1 (.seq (.seq (.calm [mv 14 0,
mv 15 6,
⟨(some 16), .indexSl 1 (.t 14) (.t 15), none, [0, 1], false⟩,
⟨(some 17), .load false 1 (.t 16), none, [2], false⟩,
mv 18 1,
mv 19 6,
⟨(some 20), .indexSl 1 (.t 18) (.t 19), none, [4, 5], false⟩,
⟨(some 21), .load false 1 (.t 20), none, [6], false⟩,
⟨(some 22), .bin .eql .no (.t 17) (.t 21), none, [3, 7], false⟩])
(.cond (.t 22)
(.exit 1)
.skip))
(.seq (.reg [mv 23 5,
ao 24 (.len (.t 23)),
ao 25 (.bin .sub .no (.t 24) (.c (.int .i64 1))),
mv 7 25])
(.seq (.calm [mv 26 6,
⟨(some 27), .bin .gtr .no (.t 26) (.c (.int .i64 0)), none, [0], false⟩,
⟨(some 28), .mov (.t 27), none, [1], false⟩,
⟨(some 29), .mov (.t 0), some (28, true), [2], false⟩,
⟨(some 30), .mov (.t 6), some (28, true), [2], false⟩,
⟨(some 31), .bin .sub .no (.t 30) (.c (.int .i64 1)), some (28, true), [4, 2], false⟩,
⟨(some 32), .indexSl 1 (.t 29) (.t 31), some (28, true), [3, 5, 2], false⟩,
⟨(some 33), .load false 1 (.t 32), some (28, true), [6, 2], false⟩,
⟨(some 34), .mov (.t 1), some (28, true), [2], false⟩,
⟨(some 35), .mov (.t 6), some (28, true), [2], false⟩,
⟨(some 36), .bin .sub .no (.t 35) (.c (.int .i64 1)), some (28, true), [9, 2], false⟩,
⟨(some 37), .indexSl 1 (.t 34) (.t 36), some (28, true), [8, 10, 2], false⟩,
⟨(some 38), .load false 1 (.t 37), some (28, true), [11, 2], false⟩,
⟨(some 39), .bin .neq .no (.t 33) (.t 38), some (28, true), [7, 12, 2], false⟩,
⟨(some 40), .pick (.t 28) (.t 39) (.c (.bool false)), none, [2, 13], false⟩])
(.cond (.t 40)
(.calm [mv 41 5,
mv 42 7,
mv 43 5,
mv 44 7,
⟨(some 45), .indexSl 2 (.t 43) (.t 44), none, [2, 3], false⟩,
⟨(some 46), .fieldAddr 0 (.t 45), none, [4], false⟩,
⟨(some 47), .load false 1 (.t 46), none, [5], false⟩,
mv 48 0,
mv 49 5,
mv 50 7,
⟨(some 51), .indexSl 2 (.t 49) (.t 50), none, [8, 9], false⟩,
⟨(some 52), .fieldAddr 0 (.t 51), none, [10], false⟩,
⟨(some 53), .load false 1 (.t 52), none, [11], false⟩,
mv 54 6,
⟨(some 55), .bin .add .no (.t 54) (.c (.int .i64 1)), none, [13], false⟩,
⟨(some 56), .slice (.sl 1) (.t 48) (some (.t 53)) (some (.t 55)) none, none, [7, 12, 14], false⟩,
⟨(some 57), .build [(.int .i64 0), (.list [] true)] [(0, 1, (.t 47)), (1, 1, (.t 56))], none, [6, 15], false⟩,
⟨(some 58), .indexSl 2 (.t 41) (.t 42), none, [0, 1, 0, 1, 2, 3, 4, 5, 6, 7, 8, 9, 10, 11, 12, 13, 14, 15, 16], false⟩,
⟨none, .store 2 (.t 58) (.t 57), none, [17, 16, 0, 1, 2, 3, 4, 5, 6, 7, 8, 9, 10, 11, 12, 13, 14, 15, 16], true⟩])
(.reg [mv 59 5,
mv 60 6,
mv 61 0,
mv 62 6,
mv 63 6,
ao 64 (.bin .add .no (.t 63) (.c (.int .i64 1))),
ao 65 (.slice (.sl 1) (.t 61) (some (.t 62)) (some (.t 64)) none),
ao 66 (.build [(.int .i64 0), (.list [] true)] [(0, 1, (.t 60)), (1, 1, (.t 65))]),
ao 67 (.buildSlice 2 1 [(.int .i64 0), (.list [] true)] [(0, 2, (.t 66))]),
ao 68 (.append 2 32 none (.t 59) (.t 67)),
mv 5 68]))))))
(.reg [mv 12 6,
ao 13 (.bin .add .no (.t 12) (.c (.int .i64 1))),
mv 6 13]))))))
(.seq (.reg [mv 69 5,
mv 4 69])
.ret)))) }
def w70 : WF := { nt := 34, results := [(4, some (true, 2))], code :=
(.seq (.reg [ao 4 (.alloc [(.int .i64 0), (.list [] true)])])
(.seq (.reg [ao 5 (.mov (.c (.int .i64 0)))])
(.seq (.block 0 (.loop (.seq (.seq (.calm [mv 6 5,
mv 7 0,
⟨(some 8), .len (.t 7), none, [1], false⟩,
⟨(some 9), .bin .lss .no (.t 6) (.t 8), none, [0, 2], false⟩,
⟨(some 10), .mov (.t 9), none, [3], false⟩,
⟨(some 11), .mov (.t 5), some (10, true), [4], false⟩,
⟨(some 12), .mov (.t 1), some (10, true), [4], false⟩,
⟨(some 13), .len (.t 12), some (10, true), [6, 4], false⟩,
⟨(some 14), .bin .lss .no (.t 11) (.t 13), some (10, true), [5, 7, 4], false⟩,
⟨(some 15), .pick (.t 10) (.t 14) (.c (.bool false)), none, [4, 8], false⟩,
⟨(some 16), .mov (.t 15), none, [9, 4], false⟩,
⟨(some 17), .mov (.t 0), some (16, true), [10], false⟩,
⟨(some 18), .mov (.t 5), some (16, true), [10], false⟩,
⟨(some 19), .indexSl 1 (.t 17) (.t 18), some (16, true), [11, 12, 10], false⟩,
⟨(some 20), .load false 1 (.t 19), some (16, true), [13, 10], false⟩,
⟨(some 21), .mov (.t 1), some (16, true), [10], false⟩,
⟨(some 22), .mov (.t 5), some (16, true), [10], false⟩,
⟨(some 23), .indexSl 1 (.t 21) (.t 22), some (16, true), [15, 16, 10], false⟩,
⟨(some 24), .load false 1 (.t 23), some (16, true), [17, 10], false⟩,
⟨(some 25), .bin .eql .no (.t 20) (.t 24), some (16, true), [14, 18, 10], false⟩,
⟨(some 26), .pick (.t 16) (.t 25) (.c (.bool false)), none, [10, 19], false⟩])
(.cond (.t 26)
.skip
(.exit 0)))
(.block 1 (.reg [mv 27 5,
ao 28 (.bin .add .no (.t 27) (.c (.int .i64 1))),
mv 5 28])))))
(.seq (.reg [mv 29 5,
mv 30 0,
mv 31 5,
ao 32 (.slice (.sl 1) (.t 30) (some (.t 31)) none none),
ao 33 (.build [(.int .i64 0), (.list [] true)] [(0, 1, (.t 29)), (1, 1, (.t 32))]),
an (.store 2 (.t 4) (.t 33))])
.ret)))) }
def w71 : WF := { nt := 34, results := [(4, some (true, 2))], code :=
(.seq (.reg [ao 4 (.alloc [(.int .i64 0), (.list [] true)])])
(.seq (.reg [ao 5 (.mov (.c (.int .i64 0)))])
(.seq (.block 0 (.loop (.seq (.seq (.calm [mv 6 5,
mv 7 0,
⟨(some 8), .len (.t 7), none, [1], false⟩,
⟨(some 9), .bin .lss .no (.t 6) (.t 8), none, [0, 2], false⟩,
⟨(some 10), .mov (.t 9), none, [3], false⟩,
⟨(some 11), .mov (.t 5), some (10, true), [4], false⟩,
⟨(some 12), .mov (.t 1), some (10, true), [4], false⟩,
⟨(some 13), .len (.t 12), some (10, true), [6, 4], false⟩,
⟨(some 14), .bin .lss .no (.t 11) (.t 13), some (10, true), [5, 7, 4], false⟩,
⟨(some 15), .pick (.t 10) (.t 14) (.c (.bool false)), none, [4, 8], false⟩,
⟨(some 16), .mov (.t 15), none, [9, 4], false⟩,
⟨(some 17), .mov (.t 0), some (16, true), [10], false⟩,
⟨(some 18), .mov (.t 5), some (16, true), [10], false⟩,
⟨(some 19), .indexSl 2 (.t 17) (.t 18), some (16, true), [11, 12, 10], false⟩,
⟨(some 20), .load true 2 (.t 19), some (16, true), [13, 10], false⟩,
⟨(some 21), .mov (.t 1), some (16, true), [10], false⟩,
⟨(some 22), .mov (.t 5), some (16, true), [10], false⟩,
⟨(some 23), .indexSl 2 (.t 21) (.t 22), some (16, true), [15, 16, 10], false⟩,
⟨(some 24), .load true 2 (.t 23), some (16, true), [17, 10], false⟩,
⟨(some 25), .pur (.eqA true [(0, .int), (1, .bool)]) [(.t 20), (.t 24)], some (16, true), [14, 18, 10], false⟩,
⟨(some 26), .pick (.t 16) (.t 25) (.c (.bool false)), none, [10, 19], false⟩])
(.cond (.t 26)
.skip
(.exit 0)))
(.block 1 (.reg [mv 27 5,
ao 28 (.bin .add .no (.t 27) (.c (.int .i64 1))),
mv 5 28])))))
(.seq (.reg [mv 29 5,
mv 30 0,
mv 31 5,
ao 32 (.slice (.sl 2) (.t 30) (some (.t 31)) none none),
ao 33 (.build [(.int .i64 0), (.list [] true)] [(0, 1, (.t 29)), (1, 1, (.t 32))]),
an (.store 2 (.t 4) (.t 33))])
.ret)))) }
def w72 : WF := { nt := 34, results := [(4, some (true, 2))], code :=
(.seq (.reg [ao 4 (.alloc [(.int .i64 0), (.list [] true)])])
(.seq (.reg [ao 5 (.mov (.c (.int .i64 0)))])
(.seq (.block 0 (.loop (.seq (.seq (.calm [mv 6 5,
mv 7 0,
⟨(some 8), .len (.t 7), none, [1], false⟩,
⟨(some 9), .bin .lss .no (.t 6) (.t 8), none, [0, 2], false⟩,
⟨(some 10), .mov (.t 9), none, [3], false⟩,
⟨(some 11), .mov (.t 5), some (10, true), [4], false⟩,
⟨(some 12), .mov (.t 1), some (10, true), [4], false⟩,
⟨(some 13), .len (.t 12), some (10, true), [6, 4], false⟩,
⟨(some 14), .bin .lss .no (.t 11) (.t 13), some (10, true), [5, 7, 4], false⟩,
⟨(some 15), .pick (.t 10) (.t 14) (.c (.bool false)), none, [4, 8], false⟩,
⟨(some 16), .mov (.t 15), none, [9, 4], false⟩,
⟨(some 17), .mov (.t 0), some (16, true), [10], false⟩,
⟨(some 18), .mov (.t 5), some (16, true), [10], false⟩,
⟨(some 19), .indexSl 4 (.t 17) (.t 18), some (16, true), [11, 12, 10], false⟩,
⟨(some 20), .load true 4 (.t 19), some (16, true), [13, 10], false⟩,
⟨(some 21), .mov (.t 1), some (16, true), [10], false⟩,
⟨(some 22), .mov (.t 5), some (16, true), [10], false⟩,
⟨(some 23), .indexSl 4 (.t 21) (.t 22), some (16, true), [15, 16, 10], false⟩,
⟨(some 24), .load true 4 (.t 23), some (16, true), [17, 10], false⟩,
⟨(some 25), .pur (.eqA true [(0, .str), (1, .int), (2, .bool), (3, .bool)]) [(.t 20), (.t 24)], some (16, true), [14, 18, 10], false⟩,
⟨(some 26), .pick (.t 16) (.t 25) (.c (.bool false)), none, [10, 19], false⟩])
(.cond (.t 26)
.skip
(.exit 0)))
(.block 1 (.reg [mv 27 5,
ao 28 (.bin .add .no (.t 27) (.c (.int .i64 1))),
mv 5 28])))))
(.seq (.reg [mv 29 5,
mv 30 0,
mv 31 5,
ao 32 (.slice (.sl 4) (.t 30) (some (.t 31)) none none),
ao 33 (.build [(.int .i64 0), (.list [] true)] [(0, 1, (.t 29)), (1, 1, (.t 32))]),
an (.store 2 (.t 4) (.t 33))])
.ret)))) }
def w73 : WF := { nt := 34, results := [(4, some (true, 2))], code :=
(.seq (.reg [ao 4 (.alloc [(.int .i64 0), (.list [] true)])])
(.seq (.reg [ao 5 (.mov (.c (.int .i64 0)))])
(.seq (.block 0 (.loop (.seq (.seq (.calm [mv 6 5,
mv 7 0,
⟨(some 8), .len (.t 7), none, [1], false⟩,
⟨(some 9), .bin .lss .no (.t 6) (.t 8), none, [0, 2], false⟩,
⟨(some 10), .mov (.t 9), none, [3], false⟩,
⟨(some 11), .mov (.t 5), some (10, true), [4], false⟩,
⟨(some 12), .mov (.t 1), some (10, true), [4], false⟩,
⟨(some 13), .len (.t 12), some (10, true), [6, 4], false⟩,
⟨(some 14), .bin .lss .no (.t 11) (.t 13), some (10, true), [5, 7, 4], false⟩,
⟨(some 15), .pick (.t 10) (.t 14) (.c (.bool false)), none, [4, 8], false⟩,
⟨(some 16), .mov (.t 15), none, [9, 4], false⟩,
⟨(some 17), .mov (.t 0), some (16, true), [10], false⟩,
⟨(some 18), .mov (.t 5), some (16, true), [10], false⟩,
⟨(some 19), .indexSl 2 (.t 17) (.t 18), some (16, true), [11, 12, 10], false⟩,
⟨(some 20), .load true 2 (.t 19), some (16, true), [13, 10], false⟩,
⟨(some 21), .mov (.t 1), some (16, true), [10], false⟩,
⟨(some 22), .mov (.t 5), some (16, true), [10], false⟩,
⟨(some 23), .indexSl 2 (.t 21) (.t 22), some (16, true), [15, 16, 10], false⟩,
⟨(some 24), .load true 2 (.t 23), some (16, true), [17, 10], false⟩,
⟨(some 25), .pur (.eqA true [(0, .int), (1, .int)]) [(.t 20), (.t 24)], some (16, true), [14, 18, 10], false⟩,
⟨(some 26), .pick (.t 16) (.t 25) (.c (.bool false)), none, [10, 19], false⟩])
(.cond (.t 26)
.skip
(.exit 0)))
(.block 1 (.reg [mv 27 5,
ao 28 (.bin .add .no (.t 27) (.c (.int .i64 1))),
mv 5 28])))))
(.seq (.reg [mv 29 5,
mv 30 0,
mv 31 5,
ao 32 (.slice (.sl 2) (.t 30) (some (.t 31)) none none),
ao 33 (.build [(.int .i64 0), (.list [] true)] [(0, 1, (.t 29)), (1, 1, (.t 32))]),
an (.store 2 (.t 4) (.t 33))])
.ret)))) }
def w74 : WF := { nt := 68, results := [(6, some (false, 1))], code := .skip, dfr := some ([(.reg [ao 3 (.box (.t 0)),
ao 6 (.alloc [(.int .i64 0)])]),
(.seq (.reg [ao 12 (.load false 1 (.t 3)),
ao 13 (.call 75 [(.t 12)]),
ao 14 (.bin .neq .no (.t 13) (.c (.int .i64 0)))])
(.cond (.t 14)
(.seq (.reg [an (.store 1 (.t 6) (.c (.int .i64 0)))])
.ret)
.skip)),
(.reg [ao 16 (.load false 1 (.t 3)),
ao 17 (.call 105 [(.t 16)]),
mv 15 17,
ao 18 (.extract 0 (.t 15)),
ao 19 (.extract 1 (.t 15)),
ao 8 (.alloc [(.int .i64 0)]),
mv 7 18,
an (.store 1 (.t 8) (.t 19))])],
[ao 20 (.makeFunc (.func 106) [] [(.t 8), (.t 3), (.t 6)])],
(.t 20),
(.seq (.reg [ao 9 (.mov (.c (.int .u64 0)))])
(.seq (.seq (.reg [ao 21 (.load false 1 (.t 3)),
ao 22 (.nilCheck (.t 21)),
ao 23 (.fieldAddr 0 (.t 22)),
ao 24 (.load false 1 (.t 23)),
mv 25 7,
ao 26 (.slice (.sl 1) (.t 24) none (some (.t 25)) none),
ao 27 (.len (.t 26)),
ao 28 (.mov (.c (.int .i64 0)))])
(.block 0 (.loop (.seq (.reg [ao 29 (.bin .lss .no (.t 28) (.t 27))])
(.seq (.cond (.t 29)
.skip
(.exit 0))
(.seq (.block 1 (.seq (.reg [ao 30 (.indexSl 1 (.t 26) (.t 28)),
ao 31 (.load false 1 (.t 30)),
mv 11 31])
(.reg [mv 32 9,
ao 33 (.bin .shl .no (.t 32) (.c (.int .u64 7))),
mv 34 11,
ao 35 (.bin .rem .no (.t 34) (.c (.int .u8 128))),
ao 36 (.conv (.int .u64) (.t 35)),
ao 37 (.bin .or .no (.t 33) (.t 36)),
mv 9 37])))
(.reg [ao 38 (.bin .add .no (.t 28) (.c (.int .i64 1))),
mv 28 38])))))))
(.seq (.reg [mv 39 9,
ao 40 (.bin .shr .no (.t 39) (.c (.int .u64 1))),
mv 41 9,
ao 42 (.bin .and .no (.t 41) (.c (.int .u64 1))),
ao 43 (.un .neg (.t 42)),
ao 44 (.bin .xor .no (.t 40) (.t 43)),
ao 45 (.conv (.int .i64) (.t 44)),
an (.store 1 (.t 6) (.t 45))])
(.seq (.seq (.reg [ao 46 (.load false 1 (.t 8)),
ao 47 (.bin .eql .no (.t 46) (.c (.int .i64 0))),
mv 48 47,
ag 49 (.load false 1 (.t 6)) 48 true,
ag 50 (.mov (.t 1)) 48 true,
ag 51 (.bin .lss .no (.t 49) (.t 50)) 48 true,
ag 52 (.mov (.t 51)) 48 true,
ag 53 (.load false 1 (.t 6)) 52 false,
ag 54 (.mov (.t 2)) 52 false,
ag 55 (.bin .gtr .no (.t 53) (.t 54)) 52 false,
ag 56 (.pick (.t 52) (.c (.bool true)) (.t 55)) 48 true,
ao 57 (.pick (.t 48) (.t 56) (.c (.bool false)))])
(.cond (.t 57)
(.reg [an (.store 1 (.t 8) (.c (.int .i64 2)))])
.skip))
(.seq (.calm [ao 58 (.load false 1 (.t 3)),
ao 59 (.load false 1 (.t 3)),
⟨(some 60), .nilCheck (.t 59), none, [1], false⟩,
⟨(some 61), .fieldAddr 0 (.t 60), none, [2], false⟩,
⟨(some 62), .load false 1 (.t 61), none, [3], false⟩,
mv 63 7,
⟨(some 64), .slice (.sl 1) (.t 62) (some (.t 63)) none none, none, [4, 5], false⟩,
⟨(some 65), .nilCheck (.t 58), none, [0, 0, 1, 2, 3, 4, 5, 6], false⟩,
⟨(some 66), .fieldAddr 0 (.t 65), none, [7, 0, 1, 2, 3, 4, 5, 6], false⟩,
⟨none, .store 1 (.t 66) (.t 64), none, [8, 6, 0, 1, 2, 3, 4, 5, 6], true⟩])
(.seq (.reg [ao 67 (.load false 1 (.t 6)),
an (.store 1 (.t 6) (.t 67))])
.ret))))))) }
def w75 : WF := { nt := 9, results := [(2, none)], code :=
(.seq (.reg [ao 2 (.mov (.c (.int .i64 0)))])
(.seq (.seq (.reg [mv 3 0,
ao 4 (.bin .eql .ptr (.t 3) (.c .nilp))])
(.cond (.t 4)
(.seq (.reg [ao 2 (.mov (.c (.int .i64 1)))])
.ret)
.skip))
(.seq (.reg [mv 5 0,
ao 6 (.nilCheck (.t 5)),
ao 7 (.fieldAddr 1 (.t 6)),
ao 8 (.load false 1 (.t 7)),
mv 2 8])
.ret))) }
def w76 : WF := { nt := 61, results := [(4, none), (5, none)], code :=
(.seq (.reg [ao 4 (.mov (.c (.list [] true))),
ao 5 (.mov (.c (.int .i64 0)))])
(.seq (.seq (.reg [mv 11 1,
ao 12 (.bin .lss .no (.t 11) (.c (.int .i64 0)))])
(.cond (.t 12)
(.seq (.reg [ao 4 (.mov (.c (.list [] true))),
ao 5 (.mov (.c (.int .i64 1)))])
.ret)
.skip))
(.seq (.reg [ao 6 (.alloc [(.list [] true)])])
(.seq (.reg [ao 13 (.makeFunc (.func 107) [] [(.t 6)]),
mv 7 13])
(.seq (.block 0 (.loop (.seq (.seq (.reg [ao 14 (.load false 1 (.t 6)),
ao 15 (.len (.t 14)),
mv 16 1,
ao 17 (.bin .lss .no (.t 15) (.t 16))])
(.cond (.t 17)
.skip
(.exit 0)))
(.block 1 (.seq (.reg [mv 19 0,
mv 20 1,
ao 21 (.load false 1 (.t 6)),
ao 22 (.len (.t 21)),
ao 23 (.bin .sub .no (.t 20) (.t 22)),
ao 24 (.call 108 [(.t 19), (.t 23)]),
mv 18 24,
ao 25 (.extract 0 (.t 18)),
ao 26 (.extract 1 (.t 18)),
ao 27 (.extract 2 (.t 18)),
mv 8 25,
mv 9 26,
mv 10 27])
(.seq (.block 2 (.seq (.reg [mv 29 10,
ao 30 (.bin .neq .no (.t 29) (.c (.int .i64 0))),
mv 28 30])
(.cond (.t 28)
(.seq (.reg [mv 31 10,
ao 4 (.mov (.c (.list [] true))),
mv 5 31])
.ret)
(.seq (.reg [mv 33 9,
mv 34 0,
ao 35 (.len (.t 34)),
ao 36 (.bin .eql .no (.t 33) (.t 35)),
mv 32 36])
(.cond (.t 32)
(.seq (.reg [ao 4 (.mov (.c (.list [] true))),
ao 5 (.mov (.c (.int .i64 3)))])
.ret)
(.seq (.reg [mv 38 7,
mv 39 0,
mv 40 9,
ao 41 (.indexSl 1 (.t 39) (.t 40)),
ao 42 (.load false 1 (.t 41)),
ao 43 (.callv (.t 38) [(.t 42)]),
mv 37 43])
(.cond (.t 37)
(.seq (.reg [ao 4 (.mov (.c (.list [] true))),
ao 5 (.mov (.c (.int .i64 2)))])
.ret)
.skip)))))))
(.seq (.calm [ao 44 (.load false 1 (.t 6)),
mv 45 0,
mv 46 9,
mv 47 9,
⟨(some 48), .bin .add .no (.t 47) (.c (.int .i64 1)), none, [3], false⟩,
⟨(some 49), .slice (.sl 1) (.t 45) (some (.t 46)) (some (.t 48)) none, none, [1, 2, 4], false⟩,
mv 50 8,
⟨(some 51), .call 109 [(.t 49), (.t 50)], none, [5, 6], false⟩,
⟨(some 52), .append 1 1 none (.t 44) (.t 51), none, [0, 7, 7], true⟩,
⟨none, .store 1 (.t 6) (.t 52), none, [8, 8, 0, 1, 2, 3, 4, 5, 6, 7, 8], true⟩])
(.reg [mv 53 0,
mv 54 9,
ao 55 (.bin .add .no (.t 54) (.c (.int .i64 1))),
ao 56 (.slice (.sl 1) (.t 53) (some (.t 55)) none none),
mv 0 56]))))))))
(.seq (.seq (.reg [mv 57 0,
ao 58 (.len (.t 57)),
ao 59 (.bin .gtr .no (.t 58) (.c (.int .i64 0)))])
(.cond (.t 59)
(.seq (.reg [ao 4 (.mov (.c (.list [] true))),
ao 5 (.mov (.c (.int .i64 2)))])
.ret)
.skip))
(.seq (.reg [ao 60 (.load false 1 (.t 6)),
mv 4 60,
ao 5 (.mov (.c (.int .i64 0)))])
.ret))))))) }
def w77 : WF := { nt := 5, results := [], code :=
(.seq (.reg [mv 2 0,
ao 3 (.un .not (.t 2))])
(.cond (.t 3)
(.reg [ao 4 (.call 33 [(.c (.int .i64 2))])])
.skip)) }
def w78 : WF := { nt := 4, results := [(1, none)], code :=
(.seq (.reg [ao 1 (.mov (.c (.int .i64 0)))])
(.seq (.reg [ao 2 (.load false 1 (.t 0)),
ao 3 (.call 74 [(.t 2), (.c (.int .i64 (-9223372036854775808))), (.c (.int .i64 9223372036854775807))]),
mv 1 3])
.ret)) }
def w79 : WF := { nt := 20, results := [(4, none)], code :=
(.seq (.reg [ao 4 (.mov (.c (.list [] true)))])
(.seq (.reg [ao 5 (.mov (.c (.list [] true)))])
(.seq (.seq (.reg [mv 6 0,
ao 7 (.call 74 [(.t 6), (.c (.int .i64 0)), (.c (.int .i64 65536))]),
ao 8 (.mov (.c (.int .i64 0)))])
(.block 0 (.loop (.seq (.reg [ao 9 (.bin .lss .no (.t 8) (.t 7))])
(.seq (.cond (.t 9)
.skip
(.exit 0))
(.seq (.block 1 (.seq (.seq (.reg [mv 10 0,
ao 11 (.call 75 [(.t 10)]),
ao 12 (.bin .neq .no (.t 11) (.c (.int .i64 0)))])
(.cond (.t 12)
(.seq (.reg [ao 4 (.mov (.c (.list [] true)))])
.ret)
.skip))
(.reg [mv 13 5,
mv 14 1,
ao 15 (.callv (.t 14) []),
ao 16 (.buildSlice 2 1 [(.int .i64 0), (.list [] true)] [(0, 2, (.t 15))]),
ao 17 (.append 2 32 none (.t 13) (.t 16)),
mv 5 17])))
(.reg [ao 18 (.bin .add .no (.t 8) (.c (.int .i64 1))),
mv 8 18])))))))
(.seq (.reg [mv 19 5,
mv 4 19])
.ret)))) }
def w80 : WF := { nt := 10, results := [(2, some (true, 2))], code :=
(.seq (.reg [ao 2 (.alloc [(.int .i64 0), (.list [] true)])])
(.seq (.reg [ao 4 (.load false 1 (.t 0)),
ao 5 (.callv (.t 4) []),
mv 3 5])
(.seq (.reg [mv 6 3,
ao 7 (.load false 1 (.t 1)),
ao 8 (.call 32 [(.t 7), (.c (.int .i64 65536))]),
ao 9 (.build [(.int .i64 0), (.list [] true)] [(0, 1, (.t 6)), (1, 1, (.t 8))]),
an (.store 2 (.t 2) (.t 9))])
.ret))) }
def w81 : WF := { nt := 20, results := [(4, none)], code :=
(.seq (.reg [ao 4 (.mov (.c (.list [] true)))])
(.seq (.reg [ao 5 (.mov (.c (.list [] true)))])
(.seq (.seq (.reg [mv 6 0,
ao 7 (.call 74 [(.t 6), (.c (.int .i64 0)), (.c (.int .i64 65536))]),
ao 8 (.mov (.c (.int .i64 0)))])
(.block 0 (.loop (.seq (.reg [ao 9 (.bin .lss .no (.t 8) (.t 7))])
(.seq (.cond (.t 9)
.skip
(.exit 0))
(.seq (.block 1 (.seq (.seq (.reg [mv 10 0,
ao 11 (.call 75 [(.t 10)]),
ao 12 (.bin .neq .no (.t 11) (.c (.int .i64 0)))])
(.cond (.t 12)
(.seq (.reg [ao 4 (.mov (.c (.list [] true)))])
.ret)
.skip))
(.reg [mv 13 5,
mv 14 1,
ao 15 (.callv (.t 14) []),
ao 16 (.buildSlice 1 1 [(.int .i64 0)] [(0, 1, (.t 15))]),
ao 17 (.append 1 8 none (.t 13) (.t 16)),
mv 5 17])))
(.reg [ao 18 (.bin .add .no (.t 8) (.c (.int .i64 1))),
mv 8 18])))))))
(.seq (.reg [mv 19 5,
mv 4 19])
.ret)))) }
def w82 : WF := { nt := 20, results := [(4, none)], code :=
(.seq (.reg [ao 4 (.mov (.c (.list [] true)))])
(.seq (.reg [ao 5 (.mov (.c (.list [] true)))])
(.seq (.seq (.reg [mv 6 0,
ao 7 (.call 74 [(.t 6), (.c (.int .i64 0)), (.c (.int .i64 65536))]),
ao 8 (.mov (.c (.int .i64 0)))])
(.block 0 (.loop (.seq (.reg [ao 9 (.bin .lss .no (.t 8) (.t 7))])
(.seq (.cond (.t 9)
.skip
(.exit 0))
(.seq (.block 1 (.seq (.seq (.reg [mv 10 0,
ao 11 (.call 75 [(.t 10)]),
ao 12 (.bin .neq .no (.t 11) (.c (.int .i64 0)))])
(.cond (.t 12)
(.seq (.reg [ao 4 (.mov (.c (.list [] true)))])
.ret)
.skip))
(.reg [mv 13 5,
mv 14 1,
ao 15 (.callv (.t 14) []),
ao 16 (.buildSlice 2 1 [(.int .i64 0), (.bool false)] [(0, 2, (.t 15))]),
ao 17 (.append 2 16 none (.t 13) (.t 16)),
mv 5 17])))
(.reg [ao 18 (.bin .add .no (.t 8) (.c (.int .i64 1))),
mv 8 18])))))))
(.seq (.reg [mv 19 5,
mv 4 19])
.ret)))) }
def w83 : WF := { nt := 11, results := [(2, some (true, 2))], code :=
(.seq (.reg [ao 2 (.alloc [(.int .i64 0), (.bool false)])])
(.seq (.reg [ao 4 (.load false 1 (.t 0)),
ao 5 (.callv (.t 4) []),
mv 3 5])
(.seq (.reg [mv 6 3,
ao 7 (.load false 1 (.t 1)),
ao 8 (.call 74 [(.t 7), (.c (.int .i64 0)), (.c (.int .i64 1))]),
ao 9 (.bin .eql .no (.t 8) (.c (.int .i64 1))),
ao 10 (.build [(.int .i64 0), (.bool false)] [(0, 1, (.t 6)), (1, 1, (.t 9))]),
an (.store 2 (.t 2) (.t 10))])
.ret))) }
def w84 : WF := { nt := 20, results := [(4, none)], code :=
(.seq (.reg [ao 4 (.mov (.c (.list [] true)))])
(.seq (.reg [ao 5 (.mov (.c (.list [] true)))])
(.seq (.seq (.reg [mv 6 0,
ao 7 (.call 74 [(.t 6), (.c (.int .i64 0)), (.c (.int .i64 65536))]),
ao 8 (.mov (.c (.int .i64 0)))])
(.block 0 (.loop (.seq (.reg [ao 9 (.bin .lss .no (.t 8) (.t 7))])
(.seq (.cond (.t 9)
.skip
(.exit 0))
(.seq (.block 1 (.seq (.seq (.reg [mv 10 0,
ao 11 (.call 75 [(.t 10)]),
ao 12 (.bin .neq .no (.t 11) (.c (.int .i64 0)))])
(.cond (.t 12)
(.seq (.reg [ao 4 (.mov (.c (.list [] true)))])
.ret)
.skip))
(.reg [mv 13 5,
mv 14 1,
ao 15 (.callv (.t 14) []),
ao 16 (.buildSlice 4 1 [(.str ⟨#[]⟩), (.int .i64 0), (.bool false), (.bool false)] [(0, 4, (.t 15))]),
ao 17 (.append 4 32 none (.t 13) (.t 16)),
mv 5 17])))
(.reg [ao 18 (.bin .add .no (.t 8) (.c (.int .i64 1))),
mv 8 18])))))))
(.seq (.reg [mv 19 5,
mv 4 19])
.ret)))) }
def w85 : WF := { nt := 21, results := [(2, some (true, 4))], code :=
(.seq (.reg [ao 2 (.alloc [(.str ⟨#[]⟩), (.int .i64 0), (.bool false), (.bool false)])])
(.seq (.reg [ao 6 (.load false 1 (.t 0)),
ao 7 (.call 32 [(.t 6), (.c (.int .i64 65536))]),
ao 8 (.conv .b2s (.t 7)),
mv 3 8])
(.seq (.draw [ao 9 (.load false 1 (.t 1)),
⟨(some 10), .callv (.t 9) [], none, [0], true⟩,
ao 11 (.load false 1 (.t 0)),
⟨(some 12), .call 74 [(.t 11), (.c (.int .i64 0)), (.c (.int .i64 3))], none, [2, 1], true⟩,
⟨(some 4), .mov (.t 10), none, [1, 3, 0, 1], false⟩,
⟨(some 5), .mov (.t 12), none, [3, 4, 0, 1, 2, 3, 4], false⟩])
(.seq (.reg [mv 13 3,
mv 14 4,
mv 15 5,
ao 16 (.bin .rem .no (.t 15) (.c (.int .i64 2))),
ao 17 (.bin .eql .no (.t 16) (.c (.int .i64 1))),
mv 18 5,
ao 19 (.bin .geq .no (.t 18) (.c (.int .i64 2))),
ao 20 (.build [(.str ⟨#[]⟩), (.int .i64 0), (.bool false), (.bool false)] [(0, 1, (.t 13)), (1, 1, (.t 14)), (2, 1, (.t 17)), (3, 1, (.t 19))]),
an (.store 4 (.t 2) (.t 20))])
.ret)))) }
def w86 : WF := { nt := 20, results := [(4, none)], code :=
(.seq (.reg [ao 4 (.mov (.c (.list [] true)))])
(.seq (.reg [ao 5 (.mov (.c (.list [] true)))])
(.seq (.seq (.reg [mv 6 0,
ao 7 (.call 74 [(.t 6), (.c (.int .i64 0)), (.c (.int .i64 65536))]),
ao 8 (.mov (.c (.int .i64 0)))])
(.block 0 (.loop (.seq (.reg [ao 9 (.bin .lss .no (.t 8) (.t 7))])
(.seq (.cond (.t 9)
.skip
(.exit 0))
(.seq (.block 1 (.seq (.seq (.reg [mv 10 0,
ao 11 (.call 75 [(.t 10)]),
ao 12 (.bin .neq .no (.t 11) (.c (.int .i64 0)))])
(.cond (.t 12)
(.seq (.reg [ao 4 (.mov (.c (.list [] true)))])
.ret)
.skip))
(.reg [mv 13 5,
mv 14 1,
ao 15 (.callv (.t 14) []),
ao 16 (.buildSlice 2 1 [(.int .i64 0), (.int .i64 0)] [(0, 2, (.t 15))]),
ao 17 (.append 2 16 none (.t 13) (.t 16)),
mv 5 17])))
(.reg [ao 18 (.bin .add .no (.t 8) (.c (.int .i64 1))),
mv 8 18])))))))
(.seq (.reg [mv 19 5,
mv 4 19])
.ret)))) }
def w87 : WF := { nt := 9, results := [(1, some (true, 2))], code :=
(.seq (.reg [ao 1 (.alloc [(.int .i64 0), (.int .i64 0)])])
(.seq (.reg [ao 3 (.load false 1 (.t 0)),
ao 4 (.callv (.t 3) []),
mv 2 4])
(.seq (.reg [mv 5 2,
ao 6 (.load false 1 (.t 0)),
ao 7 (.callv (.t 6) []),
ao 8 (.build [(.int .i64 0), (.int .i64 0)] [(0, 1, (.t 5)), (1, 1, (.t 7))]),
an (.store 2 (.t 1) (.t 8))])
.ret))) }
def w88 : WF := { nt := 22, results := [(6, none), (7, none)], code :=
(.seq (.reg [ao 6 (.mov (.c (.list [] true))),
ao 7 (.mov (.c (.bool false)))])
(.seq (.seq (.reg [mv 8 1,
ao 9 (.bin .lss .no (.t 8) (.c (.int .i64 0))),
mv 10 9,
ag 11 (.mov (.t 1)) 10 false,
ag 12 (.mov (.t 0)) 10 false,
ag 13 (.len (.t 12)) 10 false,
ag 14 (.bin .gtr .no (.t 11) (.t 13)) 10 false,
ao 15 (.pick (.t 10) (.c (.bool true)) (.t 14))])
(.cond (.t 15)
(.seq (.reg [ao 6 (.mov (.c (.list [] true))),
ao 7 (.mov (.c (.bool false)))])
.ret)
.skip))
(.seq (.reg [mv 16 0,
mv 17 1,
ao 18 (.slice (.sl 1) (.t 16) none (some (.t 17)) none),
mv 19 2,
ao 20 (.buildSlice 1 2 [(.list [] true)] [(0, 1, (.t 18)), (1, 1, (.t 19))]),
ao 21 (.call 110 [(.t 20)]),
mv 6 21,
ao 7 (.mov (.c (.bool true)))])
.ret))) }
def w89 : WF := { nt := 22, results := [(6, none), (7, none)], code :=
(.seq (.reg [ao 6 (.mov (.c (.list [] true))),
ao 7 (.mov (.c (.bool false)))])
(.seq (.seq (.reg [mv 8 1,
ao 9 (.bin .lss .no (.t 8) (.c (.int .i64 0))),
mv 10 9,
ag 11 (.mov (.t 1)) 10 false,
ag 12 (.mov (.t 0)) 10 false,
ag 13 (.len (.t 12)) 10 false,
ag 14 (.bin .gtr .no (.t 11) (.t 13)) 10 false,
ao 15 (.pick (.t 10) (.c (.bool true)) (.t 14))])
(.cond (.t 15)
(.seq (.reg [ao 6 (.mov (.c (.list [] true))),
ao 7 (.mov (.c (.bool false)))])
.ret)
.skip))
(.seq (.reg [mv 16 0,
mv 17 1,
ao 18 (.slice (.sl 2) (.t 16) none (some (.t 17)) none),
mv 19 2,
ao 20 (.buildSlice 1 2 [(.list [] true)] [(0, 1, (.t 18)), (1, 1, (.t 19))]),
ao 21 (.call 111 [(.t 20)]),
mv 6 21,
ao 7 (.mov (.c (.bool true)))])
.ret))) }
def w90 : WF := { nt := 22, results := [(6, none), (7, none)], code :=
(.seq (.reg [ao 6 (.mov (.c (.list [] true))),
ao 7 (.mov (.c (.bool false)))])
(.seq (.seq (.reg [mv 8 1,
ao 9 (.bin .lss .no (.t 8) (.c (.int .i64 0))),
mv 10 9,
ag 11 (.mov (.t 1)) 10 false,
ag 12 (.mov (.t 0)) 10 false,
ag 13 (.len (.t 12)) 10 false,
ag 14 (.bin .gtr .no (.t 11) (.t 13)) 10 false,
ao 15 (.pick (.t 10) (.c (.bool true)) (.t 14))])
(.cond (.t 15)
(.seq (.reg [ao 6 (.mov (.c (.list [] true))),
ao 7 (.mov (.c (.bool false)))])
.ret)
.skip))
(.seq (.reg [mv 16 0,
mv 17 1,
ao 18 (.slice (.sl 4) (.t 16) none (some (.t 17)) none),
mv 19 2,
ao 20 (.buildSlice 1 2 [(.list [] true)] [(0, 1, (.t 18)), (1, 1, (.t 19))]),
ao 21 (.call 112 [(.t 20)]),
mv 6 21,
ao 7 (.mov (.c (.bool true)))])
.ret))) }
def w91 : WF := { nt := 22, results := [(6, none), (7, none)], code :=
(.seq (.reg [ao 6 (.mov (.c (.list [] true))),
ao 7 (.mov (.c (.bool false)))])
(.seq (.seq (.reg [mv 8 1,
ao 9 (.bin .lss .no (.t 8) (.c (.int .i64 0))),
mv 10 9,
ag 11 (.mov (.t 1)) 10 false,
ag 12 (.mov (.t 0)) 10 false,
ag 13 (.len (.t 12)) 10 false,
ag 14 (.bin .gtr .no (.t 11) (.t 13)) 10 false,
ao 15 (.pick (.t 10) (.c (.bool true)) (.t 14))])
(.cond (.t 15)
(.seq (.reg [ao 6 (.mov (.c (.list [] true))),
ao 7 (.mov (.c (.bool false)))])
.ret)
.skip))
(.seq (.reg [mv 16 0,
mv 17 1,
ao 18 (.slice (.sl 2) (.t 16) none (some (.t 17)) none),
mv 19 2,
ao 20 (.buildSlice 1 2 [(.list [] true)] [(0, 1, (.t 18)), (1, 1, (.t 19))]),
ao 21 (.call 113 [(.t 20)]),
mv 6 21,
ao 7 (.mov (.c (.bool true)))])
.ret))) }
def w92 : WF := { nt := 9, results := [(4, none)], code :=
(.seq (.reg [ao 4 (.mov (.c (.bool false)))])
(.seq (.reg [mv 5 0,
mv 6 1,
ao 7 (.call 114 [(.t 5), (.t 6)]),
ao 8 (.bin .geq .no (.t 7) (.c (.int .i64 0))),
mv 4 8])
.ret)) }
def w93 : WF := { nt := 73, results := [(6, some (true, 3)), (7, none)], code :=
(.seq (.reg [ao 3 (.box (.t 0)),
ao 6 (.alloc [(.list [] true), (.int .i64 0), (.int .i64 0)]),
ao 7 (.mov (.c (.int .i64 0)))])
(.seq (.seq (.reg [ao 14 (.fieldAddr 2 (.t 3)),
ao 15 (.load false 1 (.t 14)),
ao 16 (.bin .neq .no (.t 15) (.c (.int .i64 0)))])
(.cond (.t 16)
(.seq (.reg [ao 17 (.load true 3 (.t 3)),
an (.store 3 (.t 6) (.t 17)),
ao 7 (.mov (.c (.int .i64 0)))])
.ret)
.skip))
(.seq (.reg [ao 18 (.fieldAddr 0 (.t 3)),
ao 19 (.load false 1 (.t 18)),
ao 20 (.fieldAddr 1 (.t 3)),
ao 21 (.load false 1 (.t 20)),
ao 22 (.slice (.sl 1) (.t 19) (some (.t 21)) none none),
mv 8 22])
(.seq (.reg [mv 24 8,
ao 25 (.call 115 [(.t 24)]),
mv 23 25,
ao 26 (.extract 0 (.t 23)),
ao 27 (.extract 1 (.t 23)),
mv 9 26,
mv 10 27])
(.seq (.seq (.reg [mv 28 10,
ao 29 (.bin .neq .no (.t 28) (.c (.int .i64 0)))])
(.cond (.t 29)
(.seq (.reg [mv 30 10,
ao 31 (.fieldAddr 2 (.t 3)),
an (.store 1 (.t 31) (.t 30))])
(.seq (.reg [ao 32 (.load true 3 (.t 3)),
an (.store 3 (.t 6) (.t 32)),
ao 7 (.mov (.c (.int .i64 0)))])
.ret))
.skip))
(.seq (.reg [ao 11 (.mov (.c (.int .u64 0)))])
(.seq (.seq (.reg [ao 12 (.mov (.c (.int .i64 0)))])
(.block 0 (.loop (.seq (.seq (.reg [mv 33 12,
mv 34 9,
ao 35 (.bin .lss .no (.t 33) (.t 34))])
(.cond (.t 35)
.skip
(.exit 0)))
(.seq (.block 1 (.reg [mv 38 11,
ao 39 (.bin .mul .no (.t 38) (.c (.int .u64 128))),
mv 40 8,
mv 41 12,
ao 42 (.indexSl 1 (.t 40) (.t 41)),
ao 43 (.load false 1 (.t 42)),
ao 44 (.bin .rem .no (.t 43) (.c (.int .u8 128))),
ao 45 (.conv (.int .u64) (.t 44)),
ao 46 (.bin .add .no (.t 39) (.t 45)),
mv 11 46]))
(.reg [mv 36 12,
ao 37 (.bin .add .no (.t 36) (.c (.int .i64 1))),
mv 12 37]))))))
(.seq (.reg [mv 47 11,
ao 48 (.bin .quo .no (.t 47) (.c (.int .u64 2))),
ao 49 (.conv (.int .i64) (.t 48)),
mv 13 49])
(.seq (.seq (.reg [mv 50 11,
ao 51 (.bin .rem .no (.t 50) (.c (.int .u64 2))),
ao 52 (.bin .eql .no (.t 51) (.c (.int .u64 1)))])
(.cond (.t 52)
(.reg [mv 53 13,
ao 54 (.un .neg (.t 53)),
ao 55 (.bin .sub .no (.t 54) (.c (.int .i64 1))),
mv 13 55])
.skip))
(.seq (.reg [ao 56 (.fieldAddr 1 (.t 3)),
ao 57 (.load false 1 (.t 56)),
mv 58 9,
ao 59 (.bin .add .no (.t 57) (.t 58)),
ao 60 (.fieldAddr 1 (.t 3)),
an (.store 1 (.t 60) (.t 59))])
(.seq (.seq (.reg [mv 61 13,
mv 62 1,
ao 63 (.bin .lss .no (.t 61) (.t 62)),
mv 64 63,
ag 65 (.mov (.t 13)) 64 false,
ag 66 (.mov (.t 2)) 64 false,
ag 67 (.bin .gtr .no (.t 65) (.t 66)) 64 false,
ao 68 (.pick (.t 64) (.c (.bool true)) (.t 67))])
(.cond (.t 68)
(.seq (.reg [ao 69 (.fieldAddr 2 (.t 3)),
an (.store 1 (.t 69) (.c (.int .i64 2)))])
(.seq (.reg [ao 70 (.load true 3 (.t 3)),
an (.store 3 (.t 6) (.t 70)),
ao 7 (.mov (.c (.int .i64 0)))])
.ret))
.skip))
(.seq (.reg [ao 71 (.load true 3 (.t 3)),
mv 72 13,
an (.store 3 (.t 6) (.t 71)),
mv 7 72])
.ret)))))))))))) }
def w94 : WF := { nt := 77, results := [(4, none), (5, none)], code :=
(.seq (.reg [ao 4 (.mov (.c (.list [] true))),
ao 5 (.mov (.c (.int .i64 0)))])
(.seq (.seq (.reg [mv 12 1,
ao 13 (.bin .lss .no (.t 12) (.c (.int .i64 0)))])
(.cond (.t 13)
(.seq (.reg [ao 4 (.mov (.c (.list [] true))),
ao 5 (.mov (.c (.int .i64 1)))])
.ret)
.skip))
(.seq (.reg [mv 14 0,
ao 15 (.build [(.list [] true), (.int .i64 0), (.int .i64 0)] [(0, 1, (.t 14))]),
ao 6 (.alloc [(.list [] true), (.int .i64 0), (.int .i64 0)]),
an (.store 3 (.t 6) (.t 15))])
(.seq (.reg [ao 7 (.mov (.c (.list [] true)))])
(.seq (.block 0 (.loop (.seq (.seq (.reg [mv 16 7,
ao 17 (.len (.t 16)),
mv 18 1,
ao 19 (.bin .lss .no (.t 17) (.t 18))])
(.cond (.t 19)
.skip
(.exit 0)))
(.block 1 (.seq (.reg [ao 21 (.load true 3 (.t 6)),
mv 22 1,
mv 23 7,
ao 24 (.len (.t 23)),
ao 25 (.bin .sub .no (.t 22) (.t 24)),
ao 26 (.call 93 [(.t 21), (.c (.int .i64 1)), (.t 25)]),
mv 20 26,
ao 27 (.extract 0 (.t 20)),
ao 28 (.extract 1 (.t 20)),
ao 8 (.alloc [(.list [] true), (.int .i64 0), (.int .i64 0)]),
an (.store 3 (.t 8) (.t 27)),
mv 9 28])
(.seq (.seq (.reg [ao 29 (.fieldAddr 2 (.t 8)),
ao 30 (.load false 1 (.t 29)),
ao 31 (.bin .neq .no (.t 30) (.c (.int .i64 0)))])
(.cond (.t 31)
(.seq (.calm [ao 32 (.fieldAddr 2 (.t 8)),
⟨(some 33), .load false 1 (.t 32), none, [0], false⟩,
ao 4 (.mov (.c (.list [] true))),
⟨(some 5), .mov (.t 33), none, [1, 2, 0, 1, 2], false⟩])
.ret)
.skip))
(.seq (.seq (.reg [ao 34 (.fieldAddr 1 (.t 8)),
ao 35 (.load false 1 (.t 34)),
mv 36 0,
ao 37 (.len (.t 36)),
ao 38 (.bin .eql .no (.t 35) (.t 37))])
(.cond (.t 38)
(.seq (.reg [ao 4 (.mov (.c (.list [] true))),
ao 5 (.mov (.c (.int .i64 3)))])
.ret)
.skip))
(.seq (.reg [mv 39 0,
ao 40 (.fieldAddr 1 (.t 8)),
ao 41 (.load false 1 (.t 40)),
ao 42 (.indexSl 1 (.t 39) (.t 41)),
ao 43 (.load false 1 (.t 42)),
mv 10 43])
(.seq (.reg [ao 44 (.fieldAddr 1 (.t 8)),
ao 45 (.load false 1 (.t 44)),
ao 46 (.bin .add .no (.t 45) (.c (.int .i64 1))),
ao 47 (.fieldAddr 1 (.t 8)),
an (.store 1 (.t 47) (.t 46))])
(.seq (.reg [ao 48 (.load true 3 (.t 8)),
an (.store 3 (.t 6) (.t 48))])
(.seq (.seq (.reg [mv 49 7,
ao 50 (.len (.t 49)),
ao 51 (.bin .gtr .no (.t 50) (.c (.int .i64 0))),
mv 52 51,
ag 53 (.mov (.t 7)) 52 true,
ag 54 (.mov (.t 7)) 52 true,
ag 55 (.len (.t 54)) 52 true,
ag 56 (.bin .sub .no (.t 55) (.c (.int .i64 1))) 52 true,
ag 57 (.indexSl 1 (.t 53) (.t 56)) 52 true,
ag 58 (.load false 1 (.t 57)) 52 true,
ag 59 (.mov (.t 10)) 52 true,
ag 60 (.bin .eql .no (.t 58) (.t 59)) 52 true,
ao 61 (.pick (.t 52) (.t 60) (.c (.bool false)))])
(.cond (.t 61)
(.seq (.reg [ao 4 (.mov (.c (.list [] true))),
ao 5 (.mov (.c (.int .i64 2)))])
.ret)
.skip))
(.seq (.reg [ao 11 (.mov (.c (.int .i64 0)))])
(.block 2 (.loop (.seq (.seq (.reg [mv 62 11,
mv 63 9,
ao 64 (.bin .lss .no (.t 62) (.t 63))])
(.cond (.t 64)
.skip
(.exit 2)))
(.seq (.block 3 (.reg [mv 67 7,
mv 68 10,
ao 69 (.buildSlice 1 1 [(.int .u8 0)] [(0, 1, (.t 68))]),
ao 70 (.append 1 1 none (.t 67) (.t 69)),
mv 7 70]))
(.reg [mv 65 11,
ao 66 (.bin .add .no (.t 65) (.c (.int .i64 1))),
mv 11 66])))))))))))))))))
(.seq (.seq (.reg [ao 71 (.fieldAddr 1 (.t 6)),
ao 72 (.load false 1 (.t 71)),
mv 73 0,
ao 74 (.len (.t 73)),
ao 75 (.bin .lss .no (.t 72) (.t 74))])
(.cond (.t 75)
(.seq (.reg [ao 4 (.mov (.c (.list [] true))),
ao 5 (.mov (.c (.int .i64 2)))])
.ret)
.skip))
(.seq (.reg [mv 76 7,
mv 4 76,
ao 5 (.mov (.c (.int .i64 0)))])
.ret))))))) }
def w95 : WF := { nt := 46, results := [(2, some (true, 3)), (3, none)], code :=
(.seq (.reg [ao 1 (.box (.t 0)),
ao 2 (.alloc [(.list [] true), (.int .i64 0), (.int .i64 0)]),
ao 3 (.mov (.c (.list [] true)))])
(.seq (.reg [ao 13 (.load true 3 (.t 1)),
ao 14 (.call 93 [(.t 13), (.c (.int .i64 0)), (.c (.int .i64 65536))]),
mv 12 14,
ao 15 (.extract 0 (.t 12)),
ao 16 (.extract 1 (.t 12)),
ao 4 (.alloc [(.list [] true), (.int .i64 0), (.int .i64 0)]),
an (.store 3 (.t 4) (.t 15)),
mv 5 16])
(.seq (.reg [ao 6 (.mov (.c (.list [] true)))])
(.seq (.seq (.reg [ao 7 (.mov (.c (.int .i64 0)))])
(.block 0 (.loop (.seq (.seq (.reg [mv 17 7,
mv 18 5,
ao 19 (.bin .lss .no (.t 17) (.t 18)),
mv 20 19,
ag 21 (.fieldAddr 2 (.t 4)) 20 true,
ag 22 (.load false 1 (.t 21)) 20 true,
ag 23 (.bin .eql .no (.t 22) (.c (.int .i64 0))) 20 true,
ao 24 (.pick (.t 20) (.t 23) (.c (.bool false)))])
(.cond (.t 24)
.skip
(.exit 0)))
(.seq (.block 1 (.seq (.reg [ao 28 (.load true 3 (.t 4)),
ao 29 (.call 100 [(.t 28)]),
mv 27 29,
ao 30 (.extract 0 (.t 27)),
ao 31 (.extract 1 (.t 27)),
ao 8 (.alloc [(.list [] true), (.int .i64 0), (.int .i64 0)]),
an (.store 3 (.t 8) (.t 30)),
mv 9 31])
(.seq (.reg [ao 33 (.load true 3 (.t 8)),
ao 34 (.call 39 [(.t 33), (.c (.int .i64 65536))]),
mv 32 34,
ao 35 (.extract 0 (.t 32)),
ao 36 (.extract 1 (.t 32)),
ao 10 (.alloc [(.list [] true), (.int .i64 0), (.int .i64 0)]),
an (.store 3 (.t 10) (.t 35)),
mv 11 36])
(.seq (.reg [ao 37 (.load true 3 (.t 10)),
an (.store 3 (.t 4) (.t 37))])
(.reg [mv 38 6,
mv 39 9,
mv 40 11,
ao 41 (.build [(.int .i64 0), (.list [] true)] [(0, 1, (.t 39)), (1, 1, (.t 40))]),
ao 42 (.buildSlice 2 1 [(.int .i64 0), (.list [] true)] [(0, 2, (.t 41))]),
ao 43 (.append 2 32 none (.t 38) (.t 42)),
mv 6 43])))))
(.reg [mv 25 7,
ao 26 (.bin .add .no (.t 25) (.c (.int .i64 1))),
mv 7 26]))))))
(.seq (.reg [ao 44 (.load true 3 (.t 4)),
mv 45 6,
an (.store 3 (.t 2) (.t 44)),
mv 3 45])
.ret))))) }
def w96 : WF := { nt := 43, results := [(2, some (true, 3)), (3, some (true, 2))], code :=
(.seq (.reg [ao 1 (.box (.t 0)),
ao 2 (.alloc [(.list [] true), (.int .i64 0), (.int .i64 0)]),
ao 3 (.alloc [(.int .i64 0), (.list [] true)])])
(.seq (.reg [ao 12 (.load true 3 (.t 1)),
ao 13 (.call 116 [(.t 12)]),
mv 11 13,
ao 14 (.extract 0 (.t 11)),
ao 15 (.extract 1 (.t 11)),
ao 16 (.extract 2 (.t 11)),
ao 4 (.alloc [(.list [] true), (.int .i64 0), (.int .i64 0)]),
an (.store 3 (.t 4) (.t 14)),
mv 5 15,
mv 6 16])
(.seq (.reg [mv 17 5,
ao 18 (.build [(.int .i64 0), (.list [] true)] [(0, 1, (.t 17))]),
ao 7 (.alloc [(.int .i64 0), (.list [] true)]),
an (.store 2 (.t 7) (.t 18))])
(.seq (.seq (.reg [ao 8 (.mov (.c (.int .i64 0)))])
(.block 0 (.loop (.seq (.seq (.reg [mv 19 8,
mv 20 6,
ao 21 (.bin .lss .no (.t 19) (.t 20)),
mv 22 21,
ag 23 (.fieldAddr 2 (.t 4)) 22 true,
ag 24 (.load false 1 (.t 23)) 22 true,
ag 25 (.bin .eql .no (.t 24) (.c (.int .i64 0))) 22 true,
ao 26 (.pick (.t 22) (.t 25) (.c (.bool false)))])
(.cond (.t 26)
.skip
(.exit 0)))
(.seq (.block 1 (.seq (.reg [ao 30 (.load true 3 (.t 4)),
ao 31 (.call 100 [(.t 30)]),
mv 29 31,
ao 32 (.extract 0 (.t 29)),
ao 33 (.extract 1 (.t 29)),
ao 9 (.alloc [(.list [] true), (.int .i64 0), (.int .i64 0)]),
an (.store 3 (.t 9) (.t 32)),
mv 10 33])
(.seq (.reg [ao 34 (.load true 3 (.t 9)),
an (.store 3 (.t 4) (.t 34))])
(.reg [ao 35 (.fieldAddr 1 (.t 7)),
ao 36 (.load false 1 (.t 35)),
mv 37 10,
ao 38 (.buildSlice 1 1 [(.int .i64 0)] [(0, 1, (.t 37))]),
ao 39 (.append 1 8 none (.t 36) (.t 38)),
ao 40 (.fieldAddr 1 (.t 7)),
an (.store 1 (.t 40) (.t 39))]))))
(.reg [mv 27 8,
ao 28 (.bin .add .no (.t 27) (.c (.int .i64 1))),
mv 8 28]))))))
(.seq (.draw [ao 41 (.load true 3 (.t 4)),
ao 42 (.load true 2 (.t 7)),
⟨none, .store 3 (.t 2) (.t 41), none, [0, 0], true⟩,
⟨none, .store 2 (.t 3) (.t 42), none, [1, 2, 0, 1, 2], true⟩])
.ret))))) }
def w97 : WF := { nt := 53, results := [(2, some (true, 3)), (3, some (true, 2))], code :=
(.seq (.reg [ao 1 (.box (.t 0)),
ao 2 (.alloc [(.list [] true), (.int .i64 0), (.int .i64 0)]),
ao 3 (.alloc [(.int .i64 0), (.list [] true)])])
(.seq (.reg [ao 14 (.load true 3 (.t 1)),
ao 15 (.call 116 [(.t 14)]),
mv 13 15,
ao 16 (.extract 0 (.t 13)),
ao 17 (.extract 1 (.t 13)),
ao 18 (.extract 2 (.t 13)),
ao 4 (.alloc [(.list [] true), (.int .i64 0), (.int .i64 0)]),
an (.store 3 (.t 4) (.t 16)),
mv 5 17,
mv 6 18])
(.seq (.reg [mv 19 5,
ao 20 (.build [(.int .i64 0), (.list [] true)] [(0, 1, (.t 19))]),
ao 7 (.alloc [(.int .i64 0), (.list [] true)]),
an (.store 2 (.t 7) (.t 20))])
(.seq (.seq (.reg [ao 8 (.mov (.c (.int .i64 0)))])
(.block 0 (.loop (.seq (.seq (.reg [mv 21 8,
mv 22 6,
ao 23 (.bin .lss .no (.t 21) (.t 22)),
mv 24 23,
ag 25 (.fieldAddr 2 (.t 4)) 24 true,
ag 26 (.load false 1 (.t 25)) 24 true,
ag 27 (.bin .eql .no (.t 26) (.c (.int .i64 0))) 24 true,
ao 28 (.pick (.t 24) (.t 27) (.c (.bool false)))])
(.cond (.t 28)
.skip
(.exit 0)))
(.seq (.block 1 (.seq (.reg [ao 32 (.load true 3 (.t 4)),
ao 33 (.call 100 [(.t 32)]),
mv 31 33,
ao 34 (.extract 0 (.t 31)),
ao 35 (.extract 1 (.t 31)),
ao 9 (.alloc [(.list [] true), (.int .i64 0), (.int .i64 0)]),
an (.store 3 (.t 9) (.t 34)),
mv 10 35])
(.seq (.reg [ao 37 (.load true 3 (.t 9)),
ao 38 (.call 93 [(.t 37), (.c (.int .i64 0)), (.c (.int .i64 1))]),
mv 36 38,
ao 39 (.extract 0 (.t 36)),
ao 40 (.extract 1 (.t 36)),
ao 11 (.alloc [(.list [] true), (.int .i64 0), (.int .i64 0)]),
an (.store 3 (.t 11) (.t 39)),
mv 12 40])
(.seq (.reg [ao 41 (.load true 3 (.t 11)),
an (.store 3 (.t 4) (.t 41))])
(.reg [ao 42 (.fieldAddr 1 (.t 7)),
ao 43 (.load false 1 (.t 42)),
mv 44 10,
mv 45 12,
ao 46 (.bin .eql .no (.t 45) (.c (.int .i64 1))),
ao 47 (.build [(.int .i64 0), (.bool false)] [(0, 1, (.t 44)), (1, 1, (.t 46))]),
ao 48 (.buildSlice 2 1 [(.int .i64 0), (.bool false)] [(0, 2, (.t 47))]),
ao 49 (.append 2 16 none (.t 43) (.t 48)),
ao 50 (.fieldAddr 1 (.t 7)),
an (.store 1 (.t 50) (.t 49))])))))
(.reg [mv 29 8,
ao 30 (.bin .add .no (.t 29) (.c (.int .i64 1))),
mv 8 30]))))))
(.seq (.draw [ao 51 (.load true 3 (.t 4)),
ao 52 (.load true 2 (.t 7)),
⟨none, .store 3 (.t 2) (.t 51), none, [0, 0], true⟩,
⟨none, .store 2 (.t 3) (.t 52), none, [1, 2, 0, 1, 2], true⟩])
.ret))))) }
def w98 : WF := { nt := 66, results := [(2, some (true, 3)), (3, some (true, 2))], code :=
(.seq (.reg [ao 1 (.box (.t 0)),
ao 2 (.alloc [(.list [] true), (.int .i64 0), (.int .i64 0)]),
ao 3 (.alloc [(.int .i64 0), (.list [] true)])])
(.seq (.reg [ao 16 (.load true 3 (.t 1)),
ao 17 (.call 116 [(.t 16)]),
mv 15 17,
ao 18 (.extract 0 (.t 15)),
ao 19 (.extract 1 (.t 15)),
ao 20 (.extract 2 (.t 15)),
ao 4 (.alloc [(.list [] true), (.int .i64 0), (.int .i64 0)]),
an (.store 3 (.t 4) (.t 18)),
mv 5 19,
mv 6 20])
(.seq (.reg [mv 21 5,
ao 22 (.build [(.int .i64 0), (.list [] true)] [(0, 1, (.t 21))]),
ao 7 (.alloc [(.int .i64 0), (.list [] true)]),
an (.store 2 (.t 7) (.t 22))])
(.seq (.seq (.reg [ao 8 (.mov (.c (.int .i64 0)))])
(.block 0 (.loop (.seq (.seq (.reg [mv 23 8,
mv 24 6,
ao 25 (.bin .lss .no (.t 23) (.t 24)),
mv 26 25,
ag 27 (.fieldAddr 2 (.t 4)) 26 true,
ag 28 (.load false 1 (.t 27)) 26 true,
ag 29 (.bin .eql .no (.t 28) (.c (.int .i64 0))) 26 true,
ao 30 (.pick (.t 26) (.t 29) (.c (.bool false)))])
(.cond (.t 30)
.skip
(.exit 0)))
(.seq (.block 1 (.seq (.reg [ao 34 (.load true 3 (.t 4)),
ao 35 (.call 39 [(.t 34), (.c (.int .i64 65536))]),
mv 33 35,
ao 36 (.extract 0 (.t 33)),
ao 37 (.extract 1 (.t 33)),
ao 9 (.alloc [(.list [] true), (.int .i64 0), (.int .i64 0)]),
an (.store 3 (.t 9) (.t 36)),
mv 10 37])
(.seq (.reg [ao 39 (.load true 3 (.t 9)),
ao 40 (.call 100 [(.t 39)]),
mv 38 40,
ao 41 (.extract 0 (.t 38)),
ao 42 (.extract 1 (.t 38)),
ao 11 (.alloc [(.list [] true), (.int .i64 0), (.int .i64 0)]),
an (.store 3 (.t 11) (.t 41)),
mv 12 42])
(.seq (.reg [ao 44 (.load true 3 (.t 11)),
ao 45 (.call 93 [(.t 44), (.c (.int .i64 0)), (.c (.int .i64 3))]),
mv 43 45,
ao 46 (.extract 0 (.t 43)),
ao 47 (.extract 1 (.t 43)),
ao 13 (.alloc [(.list [] true), (.int .i64 0), (.int .i64 0)]),
an (.store 3 (.t 13) (.t 46)),
mv 14 47])
(.seq (.reg [ao 48 (.load true 3 (.t 13)),
an (.store 3 (.t 4) (.t 48))])
(.reg [ao 49 (.fieldAddr 1 (.t 7)),
ao 50 (.load false 1 (.t 49)),
mv 51 10,
ao 52 (.conv .b2s (.t 51)),
mv 53 12,
mv 54 14,
ao 55 (.bin .rem .no (.t 54) (.c (.int .i64 2))),
ao 56 (.bin .eql .no (.t 55) (.c (.int .i64 1))),
mv 57 14,
ao 58 (.bin .quo .no (.t 57) (.c (.int .i64 2))),
ao 59 (.bin .eql .no (.t 58) (.c (.int .i64 1))),
ao 60 (.build [(.str ⟨#[]⟩), (.int .i64 0), (.bool false), (.bool false)] [(0, 1, (.t 52)), (1, 1, (.t 53)), (2, 1, (.t 56)), (3, 1, (.t 59))]),
ao 61 (.buildSlice 4 1 [(.str ⟨#[]⟩), (.int .i64 0), (.bool false), (.bool false)] [(0, 4, (.t 60))]),
ao 62 (.append 4 32 none (.t 50) (.t 61)),
ao 63 (.fieldAddr 1 (.t 7)),
an (.store 1 (.t 63) (.t 62))]))))))
(.reg [mv 31 8,
ao 32 (.bin .add .no (.t 31) (.c (.int .i64 1))),
mv 8 32]))))))
(.seq (.draw [ao 64 (.load true 3 (.t 4)),
ao 65 (.load true 2 (.t 7)),
⟨none, .store 3 (.t 2) (.t 64), none, [0, 0], true⟩,
⟨none, .store 2 (.t 3) (.t 65), none, [1, 2, 0, 1, 2], true⟩])
.ret))))) }
def w99 : WF := { nt := 52, results := [(2, some (true, 3)), (3, some (true, 2))], code :=
(.seq (.reg [ao 1 (.box (.t 0)),
ao 2 (.alloc [(.list [] true), (.int .i64 0), (.int .i64 0)]),
ao 3 (.alloc [(.int .i64 0), (.list [] true)])])
(.seq (.reg [ao 14 (.load true 3 (.t 1)),
ao 15 (.call 116 [(.t 14)]),
mv 13 15,
ao 16 (.extract 0 (.t 13)),
ao 17 (.extract 1 (.t 13)),
ao 18 (.extract 2 (.t 13)),
ao 4 (.alloc [(.list [] true), (.int .i64 0), (.int .i64 0)]),
an (.store 3 (.t 4) (.t 16)),
mv 5 17,
mv 6 18])
(.seq (.reg [mv 19 5,
ao 20 (.build [(.int .i64 0), (.list [] true)] [(0, 1, (.t 19))]),
ao 7 (.alloc [(.int .i64 0), (.list [] true)]),
an (.store 2 (.t 7) (.t 20))])
(.seq (.seq (.reg [ao 8 (.mov (.c (.int .i64 0)))])
(.block 0 (.loop (.seq (.seq (.reg [mv 21 8,
mv 22 6,
ao 23 (.bin .lss .no (.t 21) (.t 22)),
mv 24 23,
ag 25 (.fieldAddr 2 (.t 4)) 24 true,
ag 26 (.load false 1 (.t 25)) 24 true,
ag 27 (.bin .eql .no (.t 26) (.c (.int .i64 0))) 24 true,
ao 28 (.pick (.t 24) (.t 27) (.c (.bool false)))])
(.cond (.t 28)
.skip
(.exit 0)))
(.seq (.block 1 (.seq (.reg [ao 32 (.load true 3 (.t 4)),
ao 33 (.call 100 [(.t 32)]),
mv 31 33,
ao 34 (.extract 0 (.t 31)),
ao 35 (.extract 1 (.t 31)),
ao 9 (.alloc [(.list [] true), (.int .i64 0), (.int .i64 0)]),
an (.store 3 (.t 9) (.t 34)),
mv 10 35])
(.seq (.reg [ao 37 (.load true 3 (.t 9)),
ao 38 (.call 100 [(.t 37)]),
mv 36 38,
ao 39 (.extract 0 (.t 36)),
ao 40 (.extract 1 (.t 36)),
ao 11 (.alloc [(.list [] true), (.int .i64 0), (.int .i64 0)]),
an (.store 3 (.t 11) (.t 39)),
mv 12 40])
(.seq (.reg [ao 41 (.load true 3 (.t 11)),
an (.store 3 (.t 4) (.t 41))])
(.reg [ao 42 (.fieldAddr 1 (.t 7)),
ao 43 (.load false 1 (.t 42)),
mv 44 10,
mv 45 12,
ao 46 (.build [(.int .i64 0), (.int .i64 0)] [(0, 1, (.t 44)), (1, 1, (.t 45))]),
ao 47 (.buildSlice 2 1 [(.int .i64 0), (.int .i64 0)] [(0, 2, (.t 46))]),
ao 48 (.append 2 16 none (.t 43) (.t 47)),
ao 49 (.fieldAddr 1 (.t 7)),
an (.store 1 (.t 49) (.t 48))])))))
(.reg [mv 29 8,
ao 30 (.bin .add .no (.t 29) (.c (.int .i64 1))),
mv 8 30]))))))
(.seq (.draw [ao 50 (.load true 3 (.t 4)),
ao 51 (.load true 2 (.t 7)),
⟨none, .store 3 (.t 2) (.t 50), none, [0, 0], true⟩,
⟨none, .store 2 (.t 3) (.t 51), none, [1, 2, 0, 1, 2], true⟩])
.ret))))) }
def w100 : WF := { nt := 8, results := [(2, some (true, 3)), (3, none)], code :=
(.seq (.reg [ao 1 (.box (.t 0)),
ao 2 (.alloc [(.list [] true), (.int .i64 0), (.int .i64 0)]),
ao 3 (.mov (.c (.int .i64 0)))])
(.seq (.reg [ao 4 (.load true 3 (.t 1)),
ao 5 (.call 93 [(.t 4), (.c (.int .i64 (-9223372036854775808))), (.c (.int .i64 9223372036854775807))]),
ao 6 (.extract 0 (.t 5)),
ao 7 (.extract 1 (.t 5)),
an (.store 3 (.t 2) (.t 6)),
mv 3 7])
.ret)) }
def w101 : WF := { nt := 95, results := [(4, none)], code :=
(.seq (.reg [ao 2 (.box (.t 0)),
ao 3 (.box (.t 1)),
ao 4 (.mov (.c (.bool false)))])
(.seq (.seq (.reg [ao 5 (.mov (.c (.int .i64 0)))])
(.block 0 (.loop (.seq (.seq (.reg [mv 6 5,
ao 7 (.fieldAddr 0 (.t 3)),
ao 8 (.load false 1 (.t 7)),
ao 9 (.len (.t 8)),
ao 10 (.bin .lss .no (.t 6) (.t 9))])
(.cond (.t 10)
.skip
(.exit 0)))
(.seq (.block 1 (.seq (.calm [ao 13 (.fieldAddr 0 (.t 3)),
⟨(some 14), .load false 1 (.t 13), none, [0], false⟩,
mv 15 5,
⟨(some 16), .indexSl 2 (.t 14) (.t 15), none, [1, 2], false⟩,
⟨(some 17), .fieldAddr 0 (.t 16), none, [3], false⟩,
⟨(some 18), .load false 1 (.t 17), none, [4], false⟩,
ao 19 (.fieldAddr 0 (.t 2)),
⟨(some 20), .load false 1 (.t 19), none, [6], false⟩,
⟨(some 21), .len (.t 20), none, [7], false⟩,
⟨(some 22), .call 117 [(.t 18), (.t 21)], none, [5, 8], false⟩,
⟨(some 23), .un .not (.t 22), none, [9], false⟩,
⟨(some 24), .mov (.t 23), none, [10, 9], false⟩,
⟨(some 25), .fieldAddr 0 (.t 3), some (24, false), [11], false⟩,
⟨(some 26), .load false 1 (.t 25), some (24, false), [12, 11], false⟩,
⟨(some 27), .mov (.t 5), some (24, false), [11], false⟩,
⟨(some 28), .indexSl 2 (.t 26) (.t 27), some (24, false), [13, 14, 11], false⟩,
⟨(some 29), .fieldAddr 0 (.t 28), some (24, false), [15, 11], false⟩,
⟨(some 30), .load false 1 (.t 29), some (24, false), [16, 11], false⟩,
⟨(some 31), .fieldAddr 0 (.t 3), some (24, false), [11], false⟩,
⟨(some 32), .load false 1 (.t 31), some (24, false), [18, 11], false⟩,
⟨(some 33), .mov (.t 5), some (24, false), [11], false⟩,
⟨(some 34), .indexSl 2 (.t 32) (.t 33), some (24, false), [19, 20, 11], false⟩,
⟨(some 35), .fieldAddr 1 (.t 34), some (24, false), [21, 11], false⟩,
⟨(some 36), .load false 1 (.t 35), some (24, false), [22, 11], false⟩,
⟨(some 37), .len (.t 36), some (24, false), [23, 11], false⟩,
⟨(some 38), .bin .add .no (.t 30) (.t 37), some (24, false), [17, 24, 11], false⟩,
⟨(some 39), .fieldAddr 0 (.t 2), some (24, false), [11], false⟩,
⟨(some 40), .load false 1 (.t 39), some (24, false), [26, 11], false⟩,
⟨(some 41), .len (.t 40), some (24, false), [27, 11], false⟩,
⟨(some 42), .bin .gtr .no (.t 38) (.t 41), some (24, false), [25, 28, 11], false⟩,
⟨(some 43), .pick (.t 24) (.c (.bool true)) (.t 42), none, [11, 29], false⟩])
(.cond (.t 43)
(.seq (.reg [ao 4 (.mov (.c (.bool false)))])
.ret)
.skip)))
(.reg [mv 11 5,
ao 12 (.bin .add .no (.t 11) (.c (.int .i64 1))),
mv 5 12]))))))
(.seq (.reg [ao 44 (.fieldAddr 1 (.t 3)),
ao 45 (.fieldAddr 0 (.t 44)),
ao 46 (.load false 1 (.t 45)),
ao 47 (.fieldAddr 1 (.t 2)),
ao 48 (.load false 1 (.t 47)),
ao 49 (.len (.t 48)),
ao 50 (.call 117 [(.t 46), (.t 49)]),
mv 51 50,
ag 52 (.fieldAddr 3 (.t 3)) 51 true,
ag 53 (.fieldAddr 0 (.t 52)) 51 true,
ag 54 (.load false 1 (.t 53)) 51 true,
ag 55 (.fieldAddr 2 (.t 2)) 51 true,
ag 56 (.load false 1 (.t 55)) 51 true,
ag 57 (.len (.t 56)) 51 true,
ag 58 (.call 117 [(.t 54), (.t 57)]) 51 true,
ao 59 (.pick (.t 51) (.t 58) (.c (.bool false))),
mv 60 59,
ag 61 (.fieldAddr 5 (.t 3)) 60 true,
ag 62 (.fieldAddr 0 (.t 61)) 60 true,
ag 63 (.load false 1 (.t 62)) 60 true,
ag 64 (.fieldAddr 3 (.t 2)) 60 true,
ag 65 (.load false 1 (.t 64)) 60 true,
ag 66 (.len (.t 65)) 60 true,
ag 67 (.call 117 [(.t 63), (.t 66)]) 60 true,
ao 68 (.pick (.t 60) (.t 67) (.c (.bool false))),
mv 69 68,
ag 70 (.fieldAddr 7 (.t 3)) 69 true,
ag 71 (.fieldAddr 0 (.t 70)) 69 true,
ag 72 (.load false 1 (.t 71)) 69 true,
ag 73 (.fieldAddr 4 (.t 2)) 69 true,
ag 74 (.load false 1 (.t 73)) 69 true,
ag 75 (.len (.t 74)) 69 true,
ag 76 (.call 117 [(.t 72), (.t 75)]) 69 true,
ao 77 (.pick (.t 69) (.t 76) (.c (.bool false))),
mv 78 77,
ag 79 (.fieldAddr 9 (.t 3)) 78 true,
ag 80 (.fieldAddr 0 (.t 79)) 78 true,
ag 81 (.load false 1 (.t 80)) 78 true,
ag 82 (.fieldAddr 5 (.t 2)) 78 true,
ag 83 (.load false 1 (.t 82)) 78 true,
ag 84 (.len (.t 83)) 78 true,
ag 85 (.call 117 [(.t 81), (.t 84)]) 78 true,
ao 86 (.pick (.t 78) (.t 85) (.c (.bool false))),
mv 87 86,
ag 88 (.fieldAddr 11 (.t 3)) 87 true,
ag 89 (.load false 1 (.t 88)) 87 true,
ag 90 (.fieldAddr 6 (.t 2)) 87 true,
ag 91 (.load false 1 (.t 90)) 87 true,
ag 92 (.len (.t 91)) 87 true,
ag 93 (.call 117 [(.t 89), (.t 92)]) 87 true,
ao 94 (.pick (.t 87) (.t 93) (.c (.bool false))),
mv 4 94])
.ret))) }
def w102 : WF := { nt := 43, results := [], code :=
(.block 0 (.loop (.seq (.seq (.reg [ao 4 (.load false 1 (.t 1)),
ao 5 (.len (.t 4)),
ao 6 (.bin .gtr .no (.t 5) (.c (.int .i64 0)))])
(.cond (.t 6)
.skip
(.exit 0)))
(.block 1 (.seq (.calm [ao 7 (.load false 1 (.t 1)),
⟨(some 8), .len (.t 7), none, [0], false⟩,
ao 9 (.load false 1 (.t 1)),
⟨(some 10), .call 103 [(.t 9), (.c (.str ⟨#[0]⟩))], none, [2], false⟩,
⟨(some 11), .len (.t 10), none, [3], false⟩,
⟨(some 12), .bin .sub .no (.t 8) (.t 11), none, [1, 4], false⟩,
⟨(some 3), .mov (.t 12), none, [5, 3, 0, 1, 2, 3, 4, 5], false⟩])
(.seq (.seq (.reg [ao 13 (.load false 1 (.t 1)),
ao 14 (.indexSl 1 (.t 13) (.c (.int .i64 0))),
ao 15 (.load false 1 (.t 14)),
ao 16 (.bin .neq .no (.t 15) (.c (.int .u8 0)))])
(.cond (.t 16)
(.seq (.reg [ao 3 (.mov (.c (.int .i64 1)))])
(.block 2 (.loop (.seq (.seq (.calm [mv 17 3,
ao 18 (.load false 1 (.t 1)),
⟨(some 19), .len (.t 18), none, [1], false⟩,
⟨(some 20), .bin .lss .no (.t 17) (.t 19), none, [0, 2], false⟩,
⟨(some 21), .mov (.t 20), none, [3], false⟩,
⟨(some 22), .load false 1 (.t 1), some (21, true), [4], false⟩,
⟨(some 23), .mov (.t 3), some (21, true), [4], false⟩,
⟨(some 24), .indexSl 1 (.t 22) (.t 23), some (21, true), [5, 6, 4], false⟩,
⟨(some 25), .load false 1 (.t 24), some (21, true), [7, 4], false⟩,
⟨(some 26), .load false 1 (.t 1), some (21, true), [4], false⟩,
⟨(some 27), .indexSl 1 (.t 26) (.c (.int .i64 0)), some (21, true), [9, 4], false⟩,
⟨(some 28), .load false 1 (.t 27), some (21, true), [10, 4], false⟩,
⟨(some 29), .bin .eql .no (.t 25) (.t 28), some (21, true), [8, 11, 4], false⟩,
⟨(some 30), .pick (.t 21) (.t 29) (.c (.bool false)), none, [4, 12], false⟩])
(.cond (.t 30)
.skip
(.exit 2)))
(.block 3 (.reg [mv 31 3,
ao 32 (.bin .add .no (.t 31) (.c (.int .i64 1))),
mv 3 32]))))))
.skip))
(.seq (.seq (.reg [mv 33 0,
mv 34 3,
ao 35 (.load false 1 (.t 1)),
ao 36 (.indexSl 1 (.t 35) (.c (.int .i64 0))),
ao 37 (.load false 1 (.t 36)),
ao 38 (.callv (.t 33) [(.t 34), (.t 37)]),
ao 39 (.un .not (.t 38))])
(.cond (.t 39)
.ret
.skip))
(.reg [ao 40 (.load false 1 (.t 1)),
mv 41 3,
ao 42 (.slice (.sl 1) (.t 40) (some (.t 41)) none none),
an (.store 1 (.t 1) (.t 42))])))))))) }
def w103 : WF := { nt := 36, results := [(4, none)], code :=
(.seq (.reg [ao 4 (.mov (.c (.list [] true)))])
(.seq (.seq (.reg [mv 7 0,
ao 8 (.len (.t 7)),
ao 9 (.bin .eql .no (.t 8) (.c (.int .i64 0)))])
(.cond (.t 9)
(.seq (.reg [ao 4 (.mov (.c (.list [] true)))])
.ret)
.skip))
(.seq (.seq (.reg [mv 10 1,
ao 11 (.bin .eql .no (.t 10) (.c (.str ⟨#[]⟩)))])
(.cond (.t 11)
(.seq (.reg [mv 12 0,
mv 4 12])
.ret)
.skip))
(.seq (.seq (.reg [mv 13 1,
ao 14 (.lenS (.t 13)),
ao 15 (.bin .eql .no (.t 14) (.c (.int .i64 1))),
mv 16 15,
ag 17 (.mov (.t 1)) 16 true,
ag 18 (.indexStr (.t 17) (.c (.int .i64 0))) 16 true,
ag 19 (.bin .lss .no (.t 18) (.c (.int .u8 128))) 16 true,
ao 20 (.pick (.t 16) (.t 19) (.c (.bool false)))])
(.cond (.t 20)
(.seq (.reg [mv 21 0,
mv 22 1,
ao 23 (.indexStr (.t 22) (.c (.int .i64 0))),
ao 24 (.call 118 [(.t 21), (.t 23)]),
mv 4 24])
.ret)
.skip))
(.seq (.seq (.reg [mv 26 1,
ao 27 (.call 119 [(.t 26)]),
mv 25 27,
ao 28 (.extract 0 (.t 25)),
ao 29 (.extract 1 (.t 25)),
ao 5 (.alloc [(.bool false), (.bool false), (.bool false), (.bool false), (.bool false), (.bool false), (.bool false), (.bool false), (.bool false), (.bool false), (.bool false), (.bool false), (.bool false), (.bool false), (.bool false), (.bool false), (.bool false), (.bool false), (.bool false), (.bool false), (.bool false), (.bool false), (.bool false), (.bool false), (.bool false), (.bool false), (.bool false), (.bool false), (.bool false), (.bool false), (.bool false), (.bool false), (.bool false), (.bool false), (.bool false), (.bool false), (.bool false), (.bool false), (.bool false), (.bool false), (.bool false), (.bool false), (.bool false), (.bool false), (.bool false), (.bool false), (.bool false), (.bool false), (.bool false), (.bool false), (.bool false), (.bool false), (.bool false), (.bool false), (.bool false), (.bool false), (.bool false), (.bool false), (.bool false), (.bool false), (.bool false), (.bool false), (.bool false), (.bool false), (.bool false), (.bool false), (.bool false), (.bool false), (.bool false), (.bool false), (.bool false), (.bool false), (.bool false), (.bool false), (.bool false), (.bool false), (.bool false), (.bool false), (.bool false), (.bool false), (.bool false), (.bool false), (.bool false), (.bool false), (.bool false), (.bool false), (.bool false), (.bool false), (.bool false), (.bool false), (.bool false), (.bool false), (.bool false), (.bool false), (.bool false), (.bool false), (.bool false), (.bool false), (.bool false), (.bool false), (.bool false), (.bool false), (.bool false), (.bool false), (.bool false), (.bool false), (.bool false), (.bool false), (.bool false), (.bool false), (.bool false), (.bool false), (.bool false), (.bool false), (.bool false), (.bool false), (.bool false), (.bool false), (.bool false), (.bool false), (.bool false), (.bool false), (.bool false), (.bool false), (.bool false), (.bool false), (.bool false), (.bool false), (.bool false), (.bool false), (.bool false), (.bool false), (.bool false), (.bool false), (.bool false), (.bool false), (.bool false), (.bool false), (.bool false), (.bool false), (.bool false), (.bool false), (.bool false), (.bool false), (.bool false), (.bool false), (.bool false), (.bool false), (.bool false), (.bool false), (.bool false), (.bool false), (.bool false), (.bool false), (.bool false), (.bool false), (.bool false), (.bool false), (.bool false), (.bool false), (.bool false), (.bool false), (.bool false), (.bool false), (.bool false), (.bool false), (.bool false), (.bool false), (.bool false), (.bool false), (.bool false), (.bool false), (.bool false), (.bool false), (.bool false), (.bool false), (.bool false), (.bool false), (.bool false), (.bool false), (.bool false), (.bool false), (.bool false), (.bool false), (.bool false), (.bool false), (.bool false), (.bool false), (.bool false), (.bool false), (.bool false), (.bool false), (.bool false), (.bool false), (.bool false), (.bool false), (.bool false), (.bool false), (.bool false), (.bool false), (.bool false), (.bool false), (.bool false), (.bool false), (.bool false), (.bool false), (.bool false), (.bool false), (.bool false), (.bool false), (.bool false), (.bool false), (.bool false), (.bool false), (.bool false), (.bool false), (.bool false), (.bool false), (.bool false), (.bool false), (.bool false), (.bool false), (.bool false), (.bool false), (.bool false), (.bool false), (.bool false), (.bool false), (.bool false), (.bool false), (.bool false), (.bool false), (.bool false), (.bool false), (.bool false), (.bool false), (.bool false), (.bool false), (.bool false), (.bool false), (.bool false), (.bool false), (.bool false), (.bool false), (.bool false), (.bool false), (.bool false), (.bool false), (.bool false), (.bool false), (.bool false), (.bool false), (.bool false), (.bool false), (.bool false), (.bool false)]),
an (.store 256 (.t 5) (.t 28)),
mv 6 29])
(.seq (.reg [mv 30 6])
(.cond (.t 30)
(.seq (.reg [mv 31 0,
ao 32 (.call 120 [(.t 31), (.t 5)]),
mv 4 32])
.ret)
.skip)))
(.seq (.reg [mv 33 0,
mv 34 1,
ao 35 (.call 121 [(.t 33), (.t 34)]),
mv 4 35])
.ret)))))) }
def w104 : WF := { nt := 45, results := [], code :=
(.seq (.reg [ao 4 (.mov (.c (.int .i64 0)))])
(.block 0 (.loop (.seq (.seq (.reg [mv 6 4,
ao 7 (.load false 1 (.t 1)),
ao 8 (.len (.t 7)),
ao 9 (.bin .lss .no (.t 6) (.t 8))])
(.cond (.t 9)
.skip
(.exit 0)))
(.seq (.block 1 (.seq (.reg [mv 12 4,
mv 5 12])
(.seq (.block 2 (.loop (.seq (.seq (.calm [mv 13 4,
ao 14 (.load false 1 (.t 1)),
⟨(some 15), .len (.t 14), none, [1], false⟩,
⟨(some 16), .bin .lss .no (.t 13) (.t 15), none, [0, 2], false⟩,
⟨(some 17), .mov (.t 16), none, [3], false⟩,
⟨(some 18), .load false 1 (.t 1), some (17, true), [4], false⟩,
⟨(some 19), .mov (.t 4), some (17, true), [4], false⟩,
⟨(some 20), .indexSl 1 (.t 18) (.t 19), some (17, true), [5, 6, 4], false⟩,
⟨(some 21), .load false 1 (.t 20), some (17, true), [7, 4], false⟩,
⟨(some 22), .load false 1 (.t 2), some (17, true), [4], false⟩,
⟨(some 23), .mov (.t 4), some (17, true), [4], false⟩,
⟨(some 24), .indexSl 1 (.t 22) (.t 23), some (17, true), [9, 10, 4], false⟩,
⟨(some 25), .load false 1 (.t 24), some (17, true), [11, 4], false⟩,
⟨(some 26), .bin .neq .no (.t 21) (.t 25), some (17, true), [8, 12, 4], false⟩,
⟨(some 27), .pick (.t 17) (.t 26) (.c (.bool false)), none, [4, 13], false⟩])
(.cond (.t 27)
.skip
(.exit 2)))
(.block 3 (.reg [mv 28 4,
ao 29 (.bin .add .no (.t 28) (.c (.int .i64 1))),
mv 4 29])))))
(.seq (.reg [mv 30 4,
mv 31 5,
ao 32 (.bin .gtr .no (.t 30) (.t 31)),
mv 33 32,
ag 34 (.mov (.t 0)) 33 true,
ag 35 (.mov (.t 5)) 33 true,
ag 36 (.load false 1 (.t 1)) 33 true,
ag 37 (.mov (.t 5)) 33 true,
ag 38 (.mov (.t 4)) 33 true,
ag 39 (.mov (.t 4)) 33 true,
ag 40 (.slice (.sl 1) (.t 36) (some (.t 37)) (some (.t 38)) (some (.t 39))) 33 true,
ag 41 (.build [(.int .i64 0), (.list [] true)] [(0, 1, (.t 35)), (1, 1, (.t 40))]) 33 true,
ag 42 (.callv (.t 34) [(.t 41)]) 33 true,
ag 43 (.un .not (.t 42)) 33 true,
ao 44 (.pick (.t 33) (.t 43) (.c (.bool false)))])
(.cond (.t 44)
.ret
.skip)))))
(.reg [mv 10 4,
ao 11 (.bin .add .no (.t 10) (.c (.int .i64 1))),
mv 4 11])))))) }
def w105 : WF := { nt := 53, results := [(2, none), (3, none)], code :=
(.seq (.reg [ao 2 (.mov (.c (.int .i64 0))),
ao 3 (.mov (.c (.int .i64 0)))])
(.seq (.seq (.reg [mv 6 0,
ao 7 (.nilCheck (.t 6)),
ao 8 (.fieldAddr 0 (.t 7)),
ao 9 (.load false 1 (.t 8)),
ao 10 (.len (.t 9)),
ao 11 (.mov (.c (.int .i64 0)))])
(.block 0 (.loop (.seq (.reg [ao 12 (.bin .lss .no (.t 11) (.t 10))])
(.seq (.cond (.t 12)
.skip
(.exit 0))
(.seq (.block 1 (.seq (.reg [mv 13 11,
ao 14 (.indexSl 1 (.t 9) (.t 11)),
ao 15 (.load false 1 (.t 14)),
mv 4 13,
mv 5 15])
(.block 2 (.seq (.reg [mv 17 4,
ao 18 (.bin .eql .no (.t 17) (.c (.int .i64 0))),
mv 19 18,
ag 20 (.mov (.t 5)) 19 true,
ag 21 (.bin .eql .no (.t 20) (.c (.int .u8 128))) 19 true,
ao 22 (.pick (.t 19) (.t 21) (.c (.bool false))),
mv 23 22,
ag 24 (.mov (.t 4)) 23 false,
ag 25 (.bin .eql .no (.t 24) (.c (.int .i64 9))) 23 false,
ag 26 (.mov (.t 25)) 23 false,
ag 27 (.mov (.t 5)) 26 true,
ag 28 (.bin .geq .no (.t 27) (.c (.int .u8 128))) 26 true,
ag 29 (.pick (.t 26) (.t 28) (.c (.bool false))) 23 false,
ao 30 (.pick (.t 23) (.c (.bool true)) (.t 29)),
mv 16 30])
(.cond (.t 16)
(.seq (.reg [ao 2 (.mov (.c (.int .i64 0))),
ao 3 (.mov (.c (.int .i64 2)))])
.ret)
(.seq (.reg [mv 32 5,
ao 33 (.bin .lss .no (.t 32) (.c (.int .u8 128))),
mv 34 33,
ag 35 (.mov (.t 4)) 34 true,
ag 36 (.bin .eql .no (.t 35) (.c (.int .i64 9))) 34 true,
ao 37 (.pick (.t 34) (.t 36) (.c (.bool false))),
mv 38 37,
ag 39 (.mov (.t 0)) 38 true,
ag 40 (.nilCheck (.t 39)) 38 true,
ag 41 (.fieldAddr 0 (.t 40)) 38 true,
ag 42 (.load false 1 (.t 41)) 38 true,
ag 43 (.indexSl 1 (.t 42) (.c (.int .i64 0))) 38 true,
ag 44 (.load false 1 (.t 43)) 38 true,
ag 45 (.bin .gtr .no (.t 44) (.c (.int .u8 129))) 38 true,
ao 46 (.pick (.t 38) (.t 45) (.c (.bool false))),
mv 31 46])
(.cond (.t 31)
(.seq (.reg [ao 2 (.mov (.c (.int .i64 0))),
ao 3 (.mov (.c (.int .i64 2)))])
.ret)
(.seq (.reg [mv 48 5,
ao 49 (.bin .lss .no (.t 48) (.c (.int .u8 128))),
mv 47 49])
(.cond (.t 47)
(.seq (.reg [mv 50 4,
ao 51 (.bin .add .no (.t 50) (.c (.int .i64 1))),
mv 2 51,
ao 3 (.mov (.c (.int .i64 0)))])
.ret)
.skip)))))))))
(.reg [ao 52 (.bin .add .no (.t 11) (.c (.int .i64 1))),
mv 11 52])))))))
(.seq (.reg [ao 2 (.mov (.c (.int .i64 0))),
ao 3 (.mov (.c (.int .i64 3)))])
.ret))) }
def w106 : WF := { nt := 9, results := [], code :=
(.seq (.reg [ao 3 (.load false 1 (.t 1)),
ao 4 (.load false 1 (.t 0)),
ao 5 (.nilCheck (.t 3)),
ao 6 (.fieldAddr 1 (.t 5)),
an (.store 1 (.t 6) (.t 4))])
(.seq (.reg [ao 7 (.load false 1 (.t 0)),
ao 8 (.bin .neq .no (.t 7) (.c (.int .i64 0)))])
(.cond (.t 8)
(.reg [an (.store 1 (.t 2) (.c (.int .i64 0)))])
.skip))) }
def w107 : WF := { nt := 17, results := [(3, none)], code :=
(.seq (.reg [ao 3 (.mov (.c (.bool false)))])
(.seq (.reg [ao 4 (.load false 1 (.t 1)),
ao 5 (.len (.t 4)),
ao 6 (.bin .gtr .no (.t 5) (.c (.int .i64 0))),
mv 7 6,
ag 8 (.load false 1 (.t 1)) 7 true,
ag 9 (.load false 1 (.t 1)) 7 true,
ag 10 (.len (.t 9)) 7 true,
ag 11 (.bin .sub .no (.t 10) (.c (.int .i64 1))) 7 true,
ag 12 (.indexSl 1 (.t 8) (.t 11)) 7 true,
ag 13 (.load false 1 (.t 12)) 7 true,
ag 14 (.mov (.t 0)) 7 true,
ag 15 (.bin .eql .no (.t 13) (.t 14)) 7 true,
ao 16 (.pick (.t 7) (.t 15) (.c (.bool false))),
mv 3 16])
.ret)) }
def w108 : WF := { nt := 20, results := [(4, none), (5, none), (6, none)], code :=
(.seq (.reg [ao 4 (.mov (.c (.int .i64 0))),
ao 5 (.mov (.c (.int .i64 0))),
ao 6 (.mov (.c (.int .i64 0)))])
(.seq (.reg [mv 9 0,
ao 10 (.call 30 [(.t 9)]),
mv 7 10])
(.seq (.reg [mv 11 7,
mv 12 1,
ao 13 (.call 74 [(.t 11), (.c (.int .i64 1)), (.t 12)]),
mv 8 13])
(.seq (.reg [mv 14 8,
mv 15 8,
ao 16 (.call 16 [(.t 15)]),
ao 17 (.len (.t 16)),
mv 18 7,
ao 19 (.call 75 [(.t 18)]),
mv 4 14,
mv 5 17,
mv 6 19])
.ret)))) }
def w109 : WF := { nt := 77, results := [(4, none)], code :=
(.seq (.reg [ao 4 (.mov (.c (.list [] true)))])
(.seq (.seq (.reg [mv 12 1,
ao 13 (.bin .eql .no (.t 12) (.c (.int .i64 0)))])
(.cond (.t 13)
(.seq (.reg [ao 14 (.buildSlice 1 0 [(.int .u8 0)] []),
mv 4 14])
.ret)
.skip))
(.seq (.seq (.reg [mv 15 1,
ao 16 (.bin .lss .no (.t 15) (.c (.int .i64 0)))])
(.cond (.t 16)
(.reg [ao 17 (.makeIface 9 (.c (.str ⟨#[98, 121, 116, 101, 115, 58, 32, 110, 101, 103, 97, 116, 105, 118, 101, 32, 82, 101, 112, 101, 97, 116, 32, 99, 111, 117, 110, 116]⟩))),
an (.panic (.t 17))])
.skip))
(.seq (.reg [mv 19 0,
ao 20 (.len (.t 19)),
ao 21 (.conv (.int .u64) (.t 20)),
mv 22 1,
ao 23 (.conv (.int .u64) (.t 22)),
ao 24 (.call 122 [(.t 21), (.t 23)]),
mv 18 24,
ao 25 (.extract 0 (.t 18)),
ao 26 (.extract 1 (.t 18)),
mv 5 25,
mv 6 26])
(.seq (.seq (.reg [mv 27 5,
ao 28 (.bin .gtr .no (.t 27) (.c (.int .u64 0))),
mv 29 28,
ag 30 (.mov (.t 6)) 29 false,
ag 31 (.bin .gtr .no (.t 30) (.c (.int .u64 9223372036854775807))) 29 false,
ao 32 (.pick (.t 29) (.c (.bool true)) (.t 31))])
(.cond (.t 32)
(.reg [ao 33 (.makeIface 9 (.c (.str ⟨#[98, 121, 116, 101, 115, 58, 32, 82, 101, 112, 101, 97, 116, 32, 111, 117, 116, 112, 117, 116, 32, 108, 101, 110, 103, 116, 104, 32, 111, 118, 101, 114, 102, 108, 111, 119]⟩))),
an (.panic (.t 33))])
.skip))
(.seq (.reg [mv 34 6,
ao 35 (.conv (.int .i64) (.t 34)),
mv 7 35])
(.seq (.seq (.reg [mv 36 0,
ao 37 (.len (.t 36)),
ao 38 (.bin .eql .no (.t 37) (.c (.int .i64 0)))])
(.cond (.t 38)
(.seq (.reg [ao 39 (.buildSlice 1 0 [(.int .u8 0)] []),
mv 4 39])
.ret)
.skip))
(.seq (.reg [mv 40 7,
mv 8 40])
(.seq (.seq (.reg [mv 41 8,
ao 42 (.bin .gtr .no (.t 41) (.c (.int .i64 8192)))])
(.cond (.t 42)
(.seq (.reg [mv 43 0,
ao 44 (.len (.t 43)),
ao 45 (.bin .quo .no (.c (.int .i64 8192)) (.t 44)),
mv 46 0,
ao 47 (.len (.t 46)),
ao 48 (.bin .mul .no (.t 45) (.t 47)),
mv 8 48])
(.seq (.reg [mv 49 8,
ao 50 (.bin .eql .no (.t 49) (.c (.int .i64 0)))])
(.cond (.t 50)
(.reg [mv 51 0,
ao 52 (.len (.t 51)),
mv 8 52])
.skip)))
.skip))
(.seq (.reg [mv 53 7,
ao 54 (.call 123 [(.t 53)]),
mv 55 7,
mv 56 7,
ao 57 (.slice (.sl 1) (.t 54) none (some (.t 55)) (some (.t 56))),
mv 9 57])
(.seq (.reg [mv 58 9,
mv 59 0,
ao 60 (.copy 1 (.t 58) (.t 59)),
mv 10 60])
(.seq (.block 0 (.loop (.seq (.seq (.reg [mv 61 10,
mv 62 7,
ao 63 (.bin .lss .no (.t 61) (.t 62))])
(.cond (.t 63)
.skip
(.exit 0)))
(.block 1 (.seq (.reg [mv 64 10,
mv 65 8,
ao 66 (.min [(.t 64), (.t 65)]),
mv 11 66])
(.calm [mv 67 10,
mv 68 9,
mv 69 10,
⟨(some 70), .slice (.sl 1) (.t 68) (some (.t 69)) none none, none, [1, 2], false⟩,
mv 71 9,
mv 72 11,
⟨(some 73), .slice (.sl 1) (.t 71) none (some (.t 72)) none, none, [4, 5], false⟩,
⟨(some 74), .copy 1 (.t 70) (.t 73), none, [3, 6], true⟩,
⟨(some 75), .bin .add .no (.t 67) (.t 74), none, [0, 7], false⟩,
⟨(some 10), .mov (.t 75), none, [8, 7, 0, 1, 2, 3, 4, 5, 6, 7, 8], false⟩]))))))
(.seq (.reg [mv 76 9,
mv 4 76])
.ret))))))))))))) }
def w110 : WF := { nt := 36, results := [(2, none)], code :=
(.seq (.reg [ao 2 (.mov (.c (.list [] true)))])
(.seq (.reg [ao 3 (.mov (.c (.int .i64 0)))])
(.seq (.seq (.reg [mv 9 0,
ao 10 (.len (.t 9)),
ao 11 (.mov (.c (.int .i64 0)))])
(.block 0 (.loop (.seq (.reg [ao 12 (.bin .lss .no (.t 11) (.t 10))])
(.seq (.cond (.t 12)
.skip
(.exit 0))
(.seq (.block 1 (.seq (.reg [ao 13 (.indexSl 1 (.t 9) (.t 11)),
ao 14 (.load false 1 (.t 13)),
mv 5 14])
(.seq (.reg [mv 15 3,
mv 16 5,
ao 17 (.len (.t 16)),
ao 18 (.bin .add .no (.t 15) (.t 17)),
mv 3 18])
(.seq (.reg [mv 19 3,
ao 20 (.bin .lss .no (.t 19) (.c (.int .i64 0)))])
(.cond (.t 20)
(.reg [ao 21 (.makeIface 9 (.c (.str ⟨#[108, 101, 110, 32, 111, 117, 116, 32, 111, 102, 32, 114, 97, 110, 103, 101]⟩))),
an (.panic (.t 21))])
.skip)))))
(.reg [ao 22 (.bin .add .no (.t 11) (.c (.int .i64 1))),
mv 11 22])))))))
(.seq (.reg [mv 23 3,
ao 24 (.call 124 [(.c (.list [] true)), (.t 23)]),
mv 6 24])
(.seq (.seq (.reg [mv 25 0,
ao 26 (.len (.t 25)),
ao 27 (.mov (.c (.int .i64 0)))])
(.block 2 (.loop (.seq (.reg [ao 28 (.bin .lss .no (.t 27) (.t 26))])
(.seq (.cond (.t 28)
.skip
(.exit 2))
(.seq (.block 3 (.seq (.reg [ao 29 (.indexSl 1 (.t 25) (.t 27)),
ao 30 (.load false 1 (.t 29)),
mv 8 30])
(.reg [mv 31 6,
mv 32 8,
ao 33 (.append 1 8 none (.t 31) (.t 32)),
mv 6 33])))
(.reg [ao 34 (.bin .add .no (.t 27) (.c (.int .i64 1))),
mv 27 34])))))))
(.seq (.reg [mv 35 6,
mv 2 35])
.ret)))))) }
def w111 : WF := { nt := 36, results := [(2, none)], code :=
(.seq (.reg [ao 2 (.mov (.c (.list [] true)))])
(.seq (.reg [ao 3 (.mov (.c (.int .i64 0)))])
(.seq (.seq (.reg [mv 9 0,
ao 10 (.len (.t 9)),
ao 11 (.mov (.c (.int .i64 0)))])
(.block 0 (.loop (.seq (.reg [ao 12 (.bin .lss .no (.t 11) (.t 10))])
(.seq (.cond (.t 12)
.skip
(.exit 0))
(.seq (.block 1 (.seq (.reg [ao 13 (.indexSl 1 (.t 9) (.t 11)),
ao 14 (.load false 1 (.t 13)),
mv 5 14])
(.seq (.reg [mv 15 3,
mv 16 5,
ao 17 (.len (.t 16)),
ao 18 (.bin .add .no (.t 15) (.t 17)),
mv 3 18])
(.seq (.reg [mv 19 3,
ao 20 (.bin .lss .no (.t 19) (.c (.int .i64 0)))])
(.cond (.t 20)
(.reg [ao 21 (.makeIface 9 (.c (.str ⟨#[108, 101, 110, 32, 111, 117, 116, 32, 111, 102, 32, 114, 97, 110, 103, 101]⟩))),
an (.panic (.t 21))])
.skip)))))
(.reg [ao 22 (.bin .add .no (.t 11) (.c (.int .i64 1))),
mv 11 22])))))))
(.seq (.reg [mv 23 3,
ao 24 (.call 125 [(.c (.list [] true)), (.t 23)]),
mv 6 24])
(.seq (.seq (.reg [mv 25 0,
ao 26 (.len (.t 25)),
ao 27 (.mov (.c (.int .i64 0)))])
(.block 2 (.loop (.seq (.reg [ao 28 (.bin .lss .no (.t 27) (.t 26))])
(.seq (.cond (.t 28)
.skip
(.exit 2))
(.seq (.block 3 (.seq (.reg [ao 29 (.indexSl 1 (.t 25) (.t 27)),
ao 30 (.load false 1 (.t 29)),
mv 8 30])
(.reg [mv 31 6,
mv 32 8,
ao 33 (.append 2 16 none (.t 31) (.t 32)),
mv 6 33])))
(.reg [ao 34 (.bin .add .no (.t 27) (.c (.int .i64 1))),
mv 27 34])))))))
(.seq (.reg [mv 35 6,
mv 2 35])
.ret)))))) }
def w112 : WF := { nt := 36, results := [(2, none)], code :=
(.seq (.reg [ao 2 (.mov (.c (.list [] true)))])
(.seq (.reg [ao 3 (.mov (.c (.int .i64 0)))])
(.seq (.seq (.reg [mv 9 0,
ao 10 (.len (.t 9)),
ao 11 (.mov (.c (.int .i64 0)))])
(.block 0 (.loop (.seq (.reg [ao 12 (.bin .lss .no (.t 11) (.t 10))])
(.seq (.cond (.t 12)
.skip
(.exit 0))
(.seq (.block 1 (.seq (.reg [ao 13 (.indexSl 1 (.t 9) (.t 11)),
ao 14 (.load false 1 (.t 13)),
mv 5 14])
(.seq (.reg [mv 15 3,
mv 16 5,
ao 17 (.len (.t 16)),
ao 18 (.bin .add .no (.t 15) (.t 17)),
mv 3 18])
(.seq (.reg [mv 19 3,
ao 20 (.bin .lss .no (.t 19) (.c (.int .i64 0)))])
(.cond (.t 20)
(.reg [ao 21 (.makeIface 9 (.c (.str ⟨#[108, 101, 110, 32, 111, 117, 116, 32, 111, 102, 32, 114, 97, 110, 103, 101]⟩))),
an (.panic (.t 21))])
.skip)))))
(.reg [ao 22 (.bin .add .no (.t 11) (.c (.int .i64 1))),
mv 11 22])))))))
(.seq (.reg [mv 23 3,
ao 24 (.call 126 [(.c (.list [] true)), (.t 23)]),
mv 6 24])
(.seq (.seq (.reg [mv 25 0,
ao 26 (.len (.t 25)),
ao 27 (.mov (.c (.int .i64 0)))])
(.block 2 (.loop (.seq (.reg [ao 28 (.bin .lss .no (.t 27) (.t 26))])
(.seq (.cond (.t 28)
.skip
(.exit 2))
(.seq (.block 3 (.seq (.reg [ao 29 (.indexSl 1 (.t 25) (.t 27)),
ao 30 (.load false 1 (.t 29)),
mv 8 30])
(.reg [mv 31 6,
mv 32 8,
ao 33 (.append 4 32 none (.t 31) (.t 32)),
mv 6 33])))
(.reg [ao 34 (.bin .add .no (.t 27) (.c (.int .i64 1))),
mv 27 34])))))))
(.seq (.reg [mv 35 6,
mv 2 35])
.ret)))))) }
def w113 : WF := { nt := 36, results := [(2, none)], code :=
(.seq (.reg [ao 2 (.mov (.c (.list [] true)))])
(.seq (.reg [ao 3 (.mov (.c (.int .i64 0)))])
(.seq (.seq (.reg [mv 9 0,
ao 10 (.len (.t 9)),
ao 11 (.mov (.c (.int .i64 0)))])
(.block 0 (.loop (.seq (.reg [ao 12 (.bin .lss .no (.t 11) (.t 10))])
(.seq (.cond (.t 12)
.skip
(.exit 0))
(.seq (.block 1 (.seq (.reg [ao 13 (.indexSl 1 (.t 9) (.t 11)),
ao 14 (.load false 1 (.t 13)),
mv 5 14])
(.seq (.reg [mv 15 3,
mv 16 5,
ao 17 (.len (.t 16)),
ao 18 (.bin .add .no (.t 15) (.t 17)),
mv 3 18])
(.seq (.reg [mv 19 3,
ao 20 (.bin .lss .no (.t 19) (.c (.int .i64 0)))])
(.cond (.t 20)
(.reg [ao 21 (.makeIface 9 (.c (.str ⟨#[108, 101, 110, 32, 111, 117, 116, 32, 111, 102, 32, 114, 97, 110, 103, 101]⟩))),
an (.panic (.t 21))])
.skip)))))
(.reg [ao 22 (.bin .add .no (.t 11) (.c (.int .i64 1))),
mv 11 22])))))))
(.seq (.reg [mv 23 3,
ao 24 (.call 127 [(.c (.list [] true)), (.t 23)]),
mv 6 24])
(.seq (.seq (.reg [mv 25 0,
ao 26 (.len (.t 25)),
ao 27 (.mov (.c (.int .i64 0)))])
(.block 2 (.loop (.seq (.reg [ao 28 (.bin .lss .no (.t 27) (.t 26))])
(.seq (.cond (.t 28)
.skip
(.exit 2))
(.seq (.block 3 (.seq (.reg [ao 29 (.indexSl 1 (.t 25) (.t 27)),
ao 30 (.load false 1 (.t 29)),
mv 8 30])
(.reg [mv 31 6,
mv 32 8,
ao 33 (.append 2 16 none (.t 31) (.t 32)),
mv 6 33])))
(.reg [ao 34 (.bin .add .no (.t 27) (.c (.int .i64 1))),
mv 27 34])))))))
(.seq (.reg [mv 35 6,
mv 2 35])
.ret)))))) }
def w114 : WF := { nt := 19, results := [(4, none)], code :=
(.seq (.reg [ao 4 (.mov (.c (.int .i64 0)))])
(.seq (.seq (.reg [mv 6 0,
ao 7 (.len (.t 6)),
ao 8 (.mov (.c (.int .i64 0)))])
(.block 0 (.loop (.seq (.reg [ao 9 (.bin .lss .no (.t 8) (.t 7))])
(.seq (.cond (.t 9)
.skip
(.exit 0))
(.seq (.block 1 (.seq (.reg [mv 10 8,
mv 5 10])
(.seq (.reg [mv 11 1,
mv 12 0,
mv 13 5,
ao 14 (.indexSl 1 (.t 12) (.t 13)),
ao 15 (.load false 1 (.t 14)),
ao 16 (.bin .eql .bool (.t 11) (.t 15))])
(.cond (.t 16)
(.seq (.reg [mv 17 5,
mv 4 17])
.ret)
.skip))))
(.reg [ao 18 (.bin .add .no (.t 8) (.c (.int .i64 1))),
mv 8 18])))))))
(.seq (.reg [ao 4 (.mov (.c (.int .i64 (-1))))])
.ret))) }
def w115 : WF := { nt := 49, results := [(2, none), (3, none)], code :=
(.seq (.reg [ao 2 (.mov (.c (.int .i64 0))),
ao 3 (.mov (.c (.int .i64 0)))])
(.seq (.reg [ao 4 (.mov (.c (.int .i64 0)))])
(.seq (.block 0 (.loop (.seq (.seq (.reg [mv 5 4,
mv 6 0,
ao 7 (.len (.t 6)),
ao 8 (.bin .lss .no (.t 5) (.t 7)),
mv 9 8,
ag 10 (.mov (.t 4)) 9 true,
ag 11 (.bin .lss .no (.t 10) (.c (.int .i64 10))) 9 true,
ao 12 (.pick (.t 9) (.t 11) (.c (.bool false))),
mv 13 12,
ag 14 (.mov (.t 0)) 13 true,
ag 15 (.mov (.t 4)) 13 true,
ag 16 (.indexSl 1 (.t 14) (.t 15)) 13 true,
ag 17 (.load false 1 (.t 16)) 13 true,
ag 18 (.bin .geq .no (.t 17) (.c (.int .u8 128))) 13 true,
ao 19 (.pick (.t 13) (.t 18) (.c (.bool false)))])
(.cond (.t 19)
.skip
(.exit 0)))
(.block 1 (.reg [mv 20 4,
ao 21 (.bin .add .no (.t 20) (.c (.int .i64 1))),
mv 4 21])))))
(.seq (.seq (.reg [mv 22 0,
ao 23 (.len (.t 22)),
ao 24 (.bin .gtr .no (.t 23) (.c (.int .i64 0))),
mv 25 24,
ag 26 (.mov (.t 0)) 25 true,
ag 27 (.indexSl 1 (.t 26) (.c (.int .i64 0))) 25 true,
ag 28 (.load false 1 (.t 27)) 25 true,
ag 29 (.bin .eql .no (.t 28) (.c (.int .u8 128))) 25 true,
ao 30 (.pick (.t 25) (.t 29) (.c (.bool false))),
mv 31 30,
ag 32 (.mov (.t 4)) 31 false,
ag 33 (.bin .eql .no (.t 32) (.c (.int .i64 10))) 31 false,
ao 34 (.pick (.t 31) (.c (.bool true)) (.t 33))])
(.cond (.t 34)
(.seq (.reg [ao 2 (.mov (.c (.int .i64 0))),
ao 3 (.mov (.c (.int .i64 2)))])
.ret)
.skip))
(.seq (.seq (.reg [mv 35 4,
mv 36 0,
ao 37 (.len (.t 36)),
ao 38 (.bin .eql .no (.t 35) (.t 37))])
(.cond (.t 38)
(.seq (.reg [ao 2 (.mov (.c (.int .i64 0))),
ao 3 (.mov (.c (.int .i64 3)))])
.ret)
.skip))
(.seq (.seq (.reg [mv 39 4,
ao 40 (.bin .eql .no (.t 39) (.c (.int .i64 9))),
mv 41 40,
ag 42 (.mov (.t 0)) 41 true,
ag 43 (.indexSl 1 (.t 42) (.c (.int .i64 0))) 41 true,
ag 44 (.load false 1 (.t 43)) 41 true,
ag 45 (.bin .gtr .no (.t 44) (.c (.int .u8 129))) 41 true,
ao 46 (.pick (.t 41) (.t 45) (.c (.bool false)))])
(.cond (.t 46)
(.seq (.reg [ao 2 (.mov (.c (.int .i64 0))),
ao 3 (.mov (.c (.int .i64 2)))])
.ret)
.skip))
(.seq (.reg [mv 47 4,
ao 48 (.bin .add .no (.t 47) (.c (.int .i64 1))),
mv 2 48,
ao 3 (.mov (.c (.int .i64 0)))])
.ret))))))) }
def w116 : WF := { nt := 22, results := [(2, some (true, 3)), (3, none), (4, none)], code :=
(.seq (.reg [ao 1 (.box (.t 0)),
ao 2 (.alloc [(.list [] true), (.int .i64 0), (.int .i64 0)]),
ao 3 (.mov (.c (.int .i64 0))),
ao 4 (.mov (.c (.int .i64 0)))])
(.seq (.reg [ao 10 (.load true 3 (.t 1)),
ao 11 (.call 93 [(.t 10), (.c (.int .i64 (-9223372036854775808))), (.c (.int .i64 9223372036854775807))]),
mv 9 11,
ao 12 (.extract 0 (.t 9)),
ao 13 (.extract 1 (.t 9)),
ao 5 (.alloc [(.list [] true), (.int .i64 0), (.int .i64 0)]),
an (.store 3 (.t 5) (.t 12)),
mv 6 13])
(.seq (.reg [ao 15 (.load true 3 (.t 5)),
ao 16 (.call 93 [(.t 15), (.c (.int .i64 0)), (.c (.int .i64 65536))]),
mv 14 16,
ao 17 (.extract 0 (.t 14)),
ao 18 (.extract 1 (.t 14)),
ao 7 (.alloc [(.list [] true), (.int .i64 0), (.int .i64 0)]),
an (.store 3 (.t 7) (.t 17)),
mv 8 18])
(.seq (.reg [ao 19 (.load true 3 (.t 7)),
mv 20 6,
mv 21 8,
an (.store 3 (.t 2) (.t 19)),
mv 3 20,
mv 4 21])
.ret)))) }
def w117 : WF := { nt := 12, results := [(4, none)], code :=
(.seq (.reg [ao 4 (.mov (.c (.bool false)))])
(.seq (.reg [mv 5 0,
ao 6 (.bin .geq .no (.t 5) (.c (.int .i64 0))),
mv 7 6,
ag 8 (.mov (.t 0)) 7 true,
ag 9 (.mov (.t 1)) 7 true,
ag 10 (.bin .leq .no (.t 8) (.t 9)) 7 true,
ao 11 (.pick (.t 7) (.t 10) (.c (.bool false))),
mv 4 11])
.ret)) }
def w118 : WF := { nt := 21, results := [(4, none)], code :=
(.seq (.reg [ao 4 (.mov (.c (.list [] true)))])
(.seq (.block 0 (.loop (.seq (.seq (.reg [mv 5 0,
ao 6 (.len (.t 5)),
ao 7 (.bin .gtr .no (.t 6) (.c (.int .i64 0))),
mv 8 7,
ag 9 (.mov (.t 0)) 8 true,
ag 10 (.indexSl 1 (.t 9) (.c (.int .i64 0))) 8 true,
ag 11 (.load false 1 (.t 10)) 8 true,
ag 12 (.mov (.t 1)) 8 true,
ag 13 (.bin .eql .no (.t 11) (.t 12)) 8 true,
ao 14 (.pick (.t 8) (.t 13) (.c (.bool false)))])
(.cond (.t 14)
.skip
(.exit 0)))
(.block 1 (.reg [mv 15 0,
ao 16 (.slice (.sl 1) (.t 15) (some (.c (.int .i64 1))) none none),
mv 0 16])))))
(.seq (.seq (.reg [mv 17 0,
ao 18 (.len (.t 17)),
ao 19 (.bin .eql .no (.t 18) (.c (.int .i64 0)))])
(.cond (.t 19)
(.seq (.reg [ao 4 (.mov (.c (.list [] true)))])
.ret)
.skip))
(.seq (.reg [mv 20 0,
mv 4 20])
.ret)))) }
def w122 : WF := { nt := 30, results := [(4, none), (5, none)], code :=
(.seq (.reg [ao 4 (.mov (.c (.int .u64 0))),
ao 5 (.mov (.c (.int .u64 0)))])
(.seq (.cond (.c (.bool false))
(.seq (.reg [mv 11 0,
ao 12 (.conv (.int .u32) (.t 11)),
mv 13 1,
ao 14 (.conv (.int .u32) (.t 13)),
ao 15 (.call 131 [(.t 12), (.t 14)]),
mv 10 15,
ao 16 (.extract 0 (.t 10)),
ao 17 (.extract 1 (.t 10)),
mv 6 16,
mv 7 17])
(.seq (.reg [mv 18 6,
ao 19 (.conv (.int .u64) (.t 18)),
mv 20 7,
ao 21 (.conv (.int .u64) (.t 20)),
mv 4 19,
mv 5 21])
.ret))
.skip)
(.seq (.reg [mv 23 0,
mv 24 1,
ao 25 (.call 132 [(.t 23), (.t 24)]),
mv 22 25,
ao 26 (.extract 0 (.t 22)),
ao 27 (.extract 1 (.t 22)),
mv 8 26,
mv 9 27])
(.seq (.reg [mv 28 8,
mv 29 9,
mv 4 28,
mv 5 29])
.ret)))) }
def w124 : WF := { nt := 27, results := [(4, none)], code :=
(.seq (.reg [ao 4 (.mov (.c (.list [] true)))])
(.seq (.seq (.reg [mv 5 1,
ao 6 (.bin .lss .no (.t 5) (.c (.int .i64 0)))])
(.cond (.t 6)
(.reg [ao 7 (.makeIface 9 (.c (.str ⟨#[99, 97, 110, 110, 111, 116, 32, 98, 101, 32, 110, 101, 103, 97, 116, 105, 118, 101]⟩))),
an (.panic (.t 7))])
.skip))
(.seq (.seq (.reg [mv 8 1,
mv 9 0,
ao 10 (.cap (.t 9)),
mv 11 0,
ao 12 (.len (.t 11)),
ao 13 (.bin .sub .no (.t 10) (.t 12)),
ao 14 (.bin .sub .no (.t 8) (.t 13)),
mv 1 14])
(.seq (.reg [mv 15 1,
ao 16 (.bin .gtr .no (.t 15) (.c (.int .i64 0)))])
(.cond (.t 16)
(.reg [mv 17 0,
mv 18 0,
ao 19 (.cap (.t 18)),
ao 20 (.slice (.sl 1) (.t 17) none (some (.t 19)) none),
mv 21 1,
ao 22 (.append 1 8 (some [(.int .i64 0)]) (.t 20) (.t 21)),
mv 23 0,
ao 24 (.len (.t 23)),
ao 25 (.slice (.sl 1) (.t 22) none (some (.t 24)) none),
mv 0 25])
.skip)))
(.seq (.reg [mv 26 0,
mv 4 26])
.ret)))) }
def w125 : WF := { nt := 27, results := [(4, none)], code :=
(.seq (.reg [ao 4 (.mov (.c (.list [] true)))])
(.seq (.seq (.reg [mv 5 1,
ao 6 (.bin .lss .no (.t 5) (.c (.int .i64 0)))])
(.cond (.t 6)
(.reg [ao 7 (.makeIface 9 (.c (.str ⟨#[99, 97, 110, 110, 111, 116, 32, 98, 101, 32, 110, 101, 103, 97, 116, 105, 118, 101]⟩))),
an (.panic (.t 7))])
.skip))
(.seq (.seq (.reg [mv 8 1,
mv 9 0,
ao 10 (.cap (.t 9)),
mv 11 0,
ao 12 (.len (.t 11)),
ao 13 (.bin .sub .no (.t 10) (.t 12)),
ao 14 (.bin .sub .no (.t 8) (.t 13)),
mv 1 14])
(.seq (.reg [mv 15 1,
ao 16 (.bin .gtr .no (.t 15) (.c (.int .i64 0)))])
(.cond (.t 16)
(.reg [mv 17 0,
mv 18 0,
ao 19 (.cap (.t 18)),
ao 20 (.slice (.sl 2) (.t 17) none (some (.t 19)) none),
mv 21 1,
ao 22 (.append 2 16 (some [(.int .i64 0), (.bool false)]) (.t 20) (.t 21)),
mv 23 0,
ao 24 (.len (.t 23)),
ao 25 (.slice (.sl 2) (.t 22) none (some (.t 24)) none),
mv 0 25])
.skip)))
(.seq (.reg [mv 26 0,
mv 4 26])
.ret)))) }
def w126 : WF := { nt := 27, results := [(4, none)], code :=
(.seq (.reg [ao 4 (.mov (.c (.list [] true)))])
(.seq (.seq (.reg [mv 5 1,
ao 6 (.bin .lss .no (.t 5) (.c (.int .i64 0)))])
(.cond (.t 6)
(.reg [ao 7 (.makeIface 9 (.c (.str ⟨#[99, 97, 110, 110, 111, 116, 32, 98, 101, 32, 110, 101, 103, 97, 116, 105, 118, 101]⟩))),
an (.panic (.t 7))])
.skip))
(.seq (.seq (.reg [mv 8 1,
mv 9 0,
ao 10 (.cap (.t 9)),
mv 11 0,
ao 12 (.len (.t 11)),
ao 13 (.bin .sub .no (.t 10) (.t 12)),
ao 14 (.bin .sub .no (.t 8) (.t 13)),
mv 1 14])
(.seq (.reg [mv 15 1,
ao 16 (.bin .gtr .no (.t 15) (.c (.int .i64 0)))])
(.cond (.t 16)
(.reg [mv 17 0,
mv 18 0,
ao 19 (.cap (.t 18)),
ao 20 (.slice (.sl 4) (.t 17) none (some (.t 19)) none),
mv 21 1,
ao 22 (.append 4 32 (some [(.str ⟨#[]⟩), (.int .i64 0), (.bool false), (.bool false)]) (.t 20) (.t 21)),
mv 23 0,
ao 24 (.len (.t 23)),
ao 25 (.slice (.sl 4) (.t 22) none (some (.t 24)) none),
mv 0 25])
.skip)))
(.seq (.reg [mv 26 0,
mv 4 26])
.ret)))) }
def w127 : WF := { nt := 27, results := [(4, none)], code :=
(.seq (.reg [ao 4 (.mov (.c (.list [] true)))])
(.seq (.seq (.reg [mv 5 1,
ao 6 (.bin .lss .no (.t 5) (.c (.int .i64 0)))])
(.cond (.t 6)
(.reg [ao 7 (.makeIface 9 (.c (.str ⟨#[99, 97, 110, 110, 111, 116, 32, 98, 101, 32, 110, 101, 103, 97, 116, 105, 118, 101]⟩))),
an (.panic (.t 7))])
.skip))
(.seq (.seq (.reg [mv 8 1,
mv 9 0,
ao 10 (.cap (.t 9)),
mv 11 0,
ao 12 (.len (.t 11)),
ao 13 (.bin .sub .no (.t 10) (.t 12)),
ao 14 (.bin .sub .no (.t 8) (.t 13)),
mv 1 14])
(.seq (.reg [mv 15 1,
ao 16 (.bin .gtr .no (.t 15) (.c (.int .i64 0)))])
(.cond (.t 16)
(.reg [mv 17 0,
mv 18 0,
ao 19 (.cap (.t 18)),
ao 20 (.slice (.sl 2) (.t 17) none (some (.t 19)) none),
mv 21 1,
ao 22 (.append 2 16 (some [(.int .i64 0), (.int .i64 0)]) (.t 20) (.t 21)),
mv 23 0,
ao 24 (.len (.t 23)),
ao 25 (.slice (.sl 2) (.t 22) none (some (.t 24)) none),
mv 0 25])
.skip)))
(.seq (.reg [mv 26 0,
mv 4 26])
.ret)))) }
def w131 : WF := { nt := 17, results := [(4, none), (5, none)], code :=
(.seq (.reg [ao 4 (.mov (.c (.int .u32 0))),
ao 5 (.mov (.c (.int .u32 0)))])
(.seq (.reg [mv 7 0,
ao 8 (.conv (.int .u64) (.t 7)),
mv 9 1,
ao 10 (.conv (.int .u64) (.t 9)),
ao 11 (.bin .mul .no (.t 8) (.t 10)),
mv 6 11])
(.seq (.reg [mv 12 6,
ao 13 (.bin .shr .no (.t 12) (.c (.int .u64 32))),
ao 14 (.conv (.int .u32) (.t 13)),
mv 15 6,
ao 16 (.conv (.int .u32) (.t 15)),
mv 4 14,
mv 5 16])
.ret))) }
def w132 : WF := { nt := 51, results := [(4, none), (5, none)], code :=
(.seq (.reg [ao 4 (.mov (.c (.int .u64 0))),
ao 5 (.mov (.c (.int .u64 0)))])
(.seq (.reg [mv 14 0,
ao 15 (.bin .and .no (.t 14) (.c (.int .u64 4294967295))),
mv 6 15])
(.seq (.reg [mv 16 0,
ao 17 (.bin .shr .no (.t 16) (.c (.int .u64 32))),
mv 7 17])
(.seq (.reg [mv 18 1,
ao 19 (.bin .and .no (.t 18) (.c (.int .u64 4294967295))),
mv 8 19])
(.seq (.reg [mv 20 1,
ao 21 (.bin .shr .no (.t 20) (.c (.int .u64 32))),
mv 9 21])
(.seq (.reg [mv 22 6,
mv 23 8,
ao 24 (.bin .mul .no (.t 22) (.t 23)),
mv 10 24])
(.seq (.reg [mv 25 7,
mv 26 8,
ao 27 (.bin .mul .no (.t 25) (.t 26)),
mv 28 10,
ao 29 (.bin .shr .no (.t 28) (.c (.int .u64 32))),
ao 30 (.bin .add .no (.t 27) (.t 29)),
mv 11 30])
(.seq (.reg [mv 31 11,
ao 32 (.bin .and .no (.t 31) (.c (.int .u64 4294967295))),
mv 12 32])
(.seq (.reg [mv 33 11,
ao 34 (.bin .shr .no (.t 33) (.c (.int .u64 32))),
mv 13 34])
(.seq (.reg [mv 35 12,
mv 36 6,
mv 37 9,
ao 38 (.bin .mul .no (.t 36) (.t 37)),
ao 39 (.bin .add .no (.t 35) (.t 38)),
mv 12 39])
(.seq (.reg [mv 40 7,
mv 41 9,
ao 42 (.bin .mul .no (.t 40) (.t 41)),
mv 43 13,
ao 44 (.bin .add .no (.t 42) (.t 43)),
mv 45 12,
ao 46 (.bin .shr .no (.t 45) (.c (.int .u64 32))),
ao 47 (.bin .add .no (.t 44) (.t 46)),
mv 4 47])
(.seq (.reg [mv 48 0,
mv 49 1,
ao 50 (.bin .mul .no (.t 48) (.t 49)),
mv 5 50])
.ret)))))))))))) }
def tab : List (Nat × AFun) := [(3, w3.toA), (4, w4.toA), (5, w5.toA), (6, w6.toA), (7, w7.toA), (8, w8.toA), (9, w9.toA), (10, w10.toA), (11, w11.toA), (12, w12.toA), (13, w13.toA), (14, w14.toA), (15, w15.toA), (16, w16.toA), (17, w17.toA), (18, w18.toA), (19, w19.toA), (20, w20.toA), (21, w21.toA), (22, w22.toA), (23, w23.toA), (24, w24.toA), (25, w25.toA), (26, w26.toA), (27, w27.toA), (28, w28.toA), (29, w29.toA), (30, w30.toA), (31, w31.toA), (32, w32.toA), (33, w33.toA), (34, w34.toA), (35, w35.toA), (36, w36.toA), (37, w37.toA), (38, w38.toA), (39, w39.toA), (40, w40.toA), (41, w41.toA), (42, w42.toA), (43, w43.toA), (44, w44.toA), (45, w45.toA), (46, w46.toA), (47, w47.toA), (48, w48.toA), (49, w49.toA), (50, w50.toA), (51, w51.toA), (52, w52.toA), (53, w53.toA), (54, w54.toA), (55, w55.toA), (56, w56.toA), (57, w57.toA), (58, w58.toA), (59, w59.toA), (60, w60.toA), (61, w61.toA), (62, w62.toA), (63, w63.toA), (64, w64.toA), (65, w65.toA), (66, w66.toA), (67, w67.toA), (68, w68.toA), (69, w69.toA), (70, w70.toA), (71, w71.toA), (72, w72.toA), (73, w73.toA), (74, w74.toA), (75, w75.toA), (76, w76.toA), (77, w77.toA), (78, w78.toA), (79, w79.toA), (80, w80.toA), (81, w81.toA), (82, w82.toA), (83, w83.toA), (84, w84.toA), (85, w85.toA), (86, w86.toA), (87, w87.toA), (88, w88.toA), (89, w89.toA), (90, w90.toA), (91, w91.toA), (92, w92.toA), (93, w93.toA), (94, w94.toA), (95, w95.toA), (96, w96.toA), (97, w97.toA), (98, w98.toA), (99, w99.toA), (100, w100.toA), (101, w101.toA), (102, w102.toA), (103, w103.toA), (104, w104.toA), (105, w105.toA), (106, w106.toA), (107, w107.toA), (108, w108.toA), (109, w109.toA), (110, w110.toA), (111, w111.toA), (112, w112.toA), (113, w113.toA), (114, w114.toA), (115, w115.toA), (116, w116.toA), (117, w117.toA), (118, w118.toA), (122, w122.toA), (124, w124.toA), (125, w125.toA), (126, w126.toA), (127, w127.toA), (131, w131.toA), (132, w132.toA)]
theorem tab_ok : ∀ x ∈ tab, cFun Tryz.prog x.1 = some x.2.erase := by
  intro x hx
  simp only [tab, List.mem_cons, List.not_mem_nil, or_false] at hx
  rcases hx with rfl | rfl | rfl | rfl | rfl | rfl | rfl | rfl | rfl | rfl | rfl | rfl | rfl | rfl | rfl | rfl | rfl | rfl | rfl | rfl | rfl | rfl | rfl | rfl | rfl | rfl | rfl | rfl | rfl | rfl | rfl | rfl | rfl | rfl | rfl | rfl | rfl | rfl | rfl | rfl | rfl | rfl | rfl | rfl | rfl | rfl | rfl | rfl | rfl | rfl | rfl | rfl | rfl | rfl | rfl | rfl | rfl | rfl | rfl | rfl | rfl | rfl | rfl | rfl | rfl | rfl | rfl | rfl | rfl | rfl | rfl | rfl | rfl | rfl | rfl | rfl | rfl | rfl | rfl | rfl | rfl | rfl | rfl | rfl | rfl | rfl | rfl | rfl | rfl | rfl | rfl | rfl | rfl | rfl | rfl | rfl | rfl | rfl | rfl | rfl | rfl | rfl | rfl | rfl | rfl | rfl | rfl | rfl | rfl | rfl | rfl | rfl | rfl | rfl | rfl | rfl | rfl | rfl | rfl | rfl | rfl | rfl | rfl
  · kernel_rfl
  · kernel_rfl
  · kernel_rfl
  · kernel_rfl
  · kernel_rfl
  · kernel_rfl
  · kernel_rfl
  · kernel_rfl
  · kernel_rfl
  · kernel_rfl
  · kernel_rfl
  · kernel_rfl
  · kernel_rfl
  · kernel_rfl
  · kernel_rfl
  · kernel_rfl
  · kernel_rfl
  · kernel_rfl
  · kernel_rfl
  · kernel_rfl
  · kernel_rfl
  · kernel_rfl
  · kernel_rfl
  · kernel_rfl
  · kernel_rfl
  · kernel_rfl
  · kernel_rfl
  · kernel_rfl
  · kernel_rfl
  · kernel_rfl
  · kernel_rfl
  · kernel_rfl
  · kernel_rfl
  · kernel_rfl
  · kernel_rfl
  · kernel_rfl
  · kernel_rfl
  · kernel_rfl
  · kernel_rfl
  · kernel_rfl
  · kernel_rfl
  · kernel_rfl
  · kernel_rfl
  · kernel_rfl
  · kernel_rfl
  · kernel_rfl
  · kernel_rfl
  · kernel_rfl
  · kernel_rfl
  · kernel_rfl
  · kernel_rfl
  · kernel_rfl
  · kernel_rfl
  · kernel_rfl
  · kernel_rfl
  · kernel_rfl
  · kernel_rfl
  · kernel_rfl
  · kernel_rfl
  · kernel_rfl
  · kernel_rfl
  · kernel_rfl
  · kernel_rfl
  · kernel_rfl
  · kernel_rfl
  · kernel_rfl
  · kernel_rfl
  · kernel_rfl
  · kernel_rfl
  · kernel_rfl
  · kernel_rfl
  · kernel_rfl
  · kernel_rfl
  · kernel_rfl
  · kernel_rfl
  · kernel_rfl
  · kernel_rfl
  · kernel_rfl
  · kernel_rfl
  · kernel_rfl
  · kernel_rfl
  · kernel_rfl
  · kernel_rfl
  · kernel_rfl
  · kernel_rfl
  · kernel_rfl
  · kernel_rfl
  · kernel_rfl
  · kernel_rfl
  · kernel_rfl
  · kernel_rfl
  · kernel_rfl
  · kernel_rfl
  · kernel_rfl
  · kernel_rfl
  · kernel_rfl
  · kernel_rfl
  · kernel_rfl
  · kernel_rfl
  · kernel_rfl
  · kernel_rfl
  · kernel_rfl
  · kernel_rfl
  · kernel_rfl
  · kernel_rfl
  · kernel_rfl
  · kernel_rfl
  · kernel_rfl
  · kernel_rfl
  · kernel_rfl
  · kernel_rfl
  · kernel_rfl
  · kernel_rfl
  · kernel_rfl
  · kernel_rfl
  · kernel_rfl
  · kernel_rfl
  · kernel_rfl
  · kernel_rfl
  · kernel_rfl
  · kernel_rfl
  · kernel_rfl
  · kernel_rfl
theorem k3 : okW w3.code = true := by kernel_rfl
theorem k4 : okW w4.code = true := by kernel_rfl
theorem k5 : okW w5.code = true := by kernel_rfl
theorem k6 : okW w6.code = true := by kernel_rfl
theorem k10 : okW w10.code = true := by kernel_rfl
theorem k11 : okW w11.code = true := by kernel_rfl
theorem k13 : okW w13.code = true := by kernel_rfl
theorem k14 : okW w14.code = true := by kernel_rfl
theorem k16 : okW w16.code = true := by kernel_rfl
theorem k22 : okW w22.code = true := by kernel_rfl
theorem k23 : okW w23.code = true := by kernel_rfl
theorem k29 : okW w29.code = true := by kernel_rfl
theorem k30 : okW w30.code = true := by kernel_rfl
theorem k31 : okW w31.code = true := by kernel_rfl
theorem k32 : okW w32.code = true := by kernel_rfl
theorem k33 : okW w33.code = true := by kernel_rfl
theorem k34 : okW w34.code = true := by kernel_rfl
theorem k35 : okW w35.code = true := by kernel_rfl
theorem k36 : okW w36.code = true := by kernel_rfl
theorem k37 : okW w37.code = true := by kernel_rfl
theorem k38 : okW w38.code = true := by kernel_rfl
theorem k39 : okW w39.code = true := by kernel_rfl
theorem k40 : okW w40.code = true := by kernel_rfl
theorem k41 : okW w41.code = true := by kernel_rfl
theorem k42 : okW w42.code = true := by kernel_rfl
theorem k43 : okW w43.code = true := by kernel_rfl
theorem k44 : okW w44.code = true := by kernel_rfl
theorem k45 : okW w45.code = true := by kernel_rfl
theorem k46 : okW w46.code = true := by kernel_rfl
theorem k47 : okW w47.code = true := by kernel_rfl
theorem k49 : okW w49.code = true := by kernel_rfl
theorem k75 : okW w75.code = true := by kernel_rfl
theorem k76 : okW w76.code = true := by kernel_rfl
theorem k77 : okW w77.code = true := by kernel_rfl
theorem k78 : okW w78.code = true := by kernel_rfl
theorem k79 : okW w79.code = true := by kernel_rfl
theorem k80 : okW w80.code = true := by kernel_rfl
theorem k81 : okW w81.code = true := by kernel_rfl
theorem k82 : okW w82.code = true := by kernel_rfl
theorem k83 : okW w83.code = true := by kernel_rfl
theorem k84 : okW w84.code = true := by kernel_rfl
theorem k85 : okW w85.code = true := by kernel_rfl
theorem k86 : okW w86.code = true := by kernel_rfl
theorem k87 : okW w87.code = true := by kernel_rfl
theorem k88 : okW w88.code = true := by kernel_rfl
theorem k89 : okW w89.code = true := by kernel_rfl
theorem k90 : okW w90.code = true := by kernel_rfl
theorem k91 : okW w91.code = true := by kernel_rfl
theorem k92 : okW w92.code = true := by kernel_rfl
theorem k93 : okW w93.code = true := by kernel_rfl
theorem k94 : okW w94.code = true := by kernel_rfl
theorem k95 : okW w95.code = true := by kernel_rfl
theorem k96 : okW w96.code = true := by kernel_rfl
theorem k97 : okW w97.code = true := by kernel_rfl
theorem k98 : okW w98.code = true := by kernel_rfl
theorem k99 : okW w99.code = true := by kernel_rfl
theorem k100 : okW w100.code = true := by kernel_rfl
theorem k101 : okW w101.code = true := by kernel_rfl
theorem k105 : okW w105.code = true := by kernel_rfl
theorem k106 : okW w106.code = true := by kernel_rfl
theorem k107 : okW w107.code = true := by kernel_rfl
theorem k108 : okW w108.code = true := by kernel_rfl
theorem k109 : okW w109.code = true := by kernel_rfl
theorem k110 : okW w110.code = true := by kernel_rfl
theorem k111 : okW w111.code = true := by kernel_rfl
theorem k112 : okW w112.code = true := by kernel_rfl
theorem k113 : okW w113.code = true := by kernel_rfl
theorem k114 : okW w114.code = true := by kernel_rfl
theorem k115 : okW w115.code = true := by kernel_rfl
theorem k116 : okW w116.code = true := by kernel_rfl
theorem k117 : okW w117.code = true := by kernel_rfl
theorem k122 : okW w122.code = true := by kernel_rfl
theorem k124 : okW w124.code = true := by kernel_rfl
theorem k125 : okW w125.code = true := by kernel_rfl
theorem k126 : okW w126.code = true := by kernel_rfl
theorem k127 : okW w127.code = true := by kernel_rfl
theorem k132 : okW w132.code = true := by kernel_rfl
theorem kd9 : okD w9 = true := by kernel_rfl
theorem kd74 : okD w74 = true := by kernel_rfl
theorem ka310 : okW ca310 = true := by kernel_rfl
theorem kb310 : okW cb310 = true := by kernel_rfl
def bods (k : Nat) : Option ABody := if k = 70 then some bd70 else if k = 180 then some bd180 else if k = 200 then some bd200 else if k = 310 then some bd310 else none
theorem bods_ok (k : Nat) (ab : ABody) (h : bods k = some ab) : hasR ab.assign = false ∧ hasR ab.body = false := by
  unfold bods at h
  split at h
  · cases h; exact ⟨by kernel_rfl, by kernel_rfl⟩
  split at h
  · cases h; exact ⟨by kernel_rfl, by kernel_rfl⟩
  split at h
  · cases h; exact ⟨by kernel_rfl, by kernel_rfl⟩
  split at h
  · cases h; exact ⟨by kernel_rfl, by kernel_rfl⟩
  cases h
def lk : List (Nat × AFun) → FuncId → Option AFun
  | [], _ => none
  | (i, a) :: r, f => if f = i then some a else lk r f
theorem lk_mem : ∀ (t : List (Nat × AFun)) (f : FuncId) (a : AFun), lk t f = some a → (f, a) ∈ t
  | [], _, _, h => by cases h
  | (i, b) :: r, f, a, h => by
    unfold lk at h
    split at h
    · rename_i e; cases h; subst e; exact List.mem_cons_self ..
    · exact List.mem_cons_of_mem _ (lk_mem r f a h)
end Fz.D
set_option maxRecDepth 100000
namespace Fz.D
open Go Go.Proofs
def isInl (f : FuncId) : Bool := f == 86 || f == 84 || f == 82 || f == 79 || f == 81 || f == 105 || f == 75 || f == 34 || f == 32 || f == 74 || f == 87 || f == 85 || f == 83 || f == 80 || f == 78 || f == 30 || f == 61 || f == 15 || f == 49 || f == 92 || f == 48 || f == 110 || f == 111 || f == 112 || f == 113 || f == 114 || f == 124 || f == 125 || f == 126 || f == 127 || f == 123 || f == 31 || f == 13 || f == 47 || f == 50 || f == 102 || f == 107 || f == 33 || f == 77 || f == 36
def wrongT : TypeId := 63
def p : AP := { fn := lk tab, prim := fun f => if f = 123 then some rowP else none, inl := isInl, body := bods }
@[simp] theorem inl_eq (f : FuncId) : p.inlY f = (f == 4000000000 || isInl f) := (rfl)
def isTrue : Option (CR × List Ob) → Bool
  | some (.ret (.bool b), _) => b
  | _ => false
theorem isTrue_ok {r : Option (CR × List Ob)} (h : isTrue r = true) : ∃ H, r = some (.ret (.bool true), H) := by
  unfold isTrue at h
  split at h
  · subst h; exact ⟨_, rfl⟩
  · cases h
theorem awake_run : isTrue (acall p 400 5 [] []) = true := by kernel_rfl
end Fz.D
set_option maxRecDepth 100000
namespace Fz.D
open Go
def byV (b : List Int) : V := .list (b.map (V.int .u8)) false
@[simp] theorem byV.gd (b : List Int) : ground (byV b) = true := by simp [byV]
@[simp] theorem byV.gk (b : List Int) (k : Nat) : gk (k + 1) (byV b) = true := by simp [byV]
@[simp] theorem byV.nr (b : List Int) : nrm (byV b) = byV b := by simp [byV]
@[simp] theorem byV.nrc : nrm ∘ byV = byV := funext fun x => byV.nr x
@[simp] theorem byV.nm (b : List Int) : nm (byV b) = true := by simp [byV]
@[simp] theorem byV.any (b : List Int) : isAny (byV b) = false := rfl
@[simp] theorem byV.cells (b : List Int) : cellsOf (byV b) = [byV b] := rfl
@[simp] theorem byV.st (b : List Int) : storable (byV b) = true := rfl
@[simp] theorem byV.lf (b : List Int) : leafy (byV b) = true := rfl
@[simp] theorem byV.uni (l : List (List Int)) : uni 1 (l.map byV) = true := uni_map fun _ => rfl
@[simp] theorem byV.flat (l : List (List Int)) : flat (l.map byV) = l.map byV := flat_one fun _ => rfl
@[simp] theorem byV.sl (b : List Int) (L : List V → Bool → Prop) (O : Nat → Nat → Nat → Nat → Prop) : wSl (byV b) L O = L (b.map (V.int .u8)) false := (rfl)
@[simp] theorem byV.el (b : List Int) (H : List Ob) (n : Nat) (K : List V → Nat → Prop) : xElems H n (byV b) K = xElems H n (.list (b.map (V.int .u8)) false) K := (rfl)
@[simp] theorem byV.xs (b : List Int) (H : List Ob) (n : Nat) (lo hi mx : Option V) (K : V → Prop) : xSlice H (.sl n) (byV b) lo hi mx K = xSlice H (.sl n) (.list (b.map (V.int .u8)) false) lo hi mx K := (rfl)
def inV (b : List Int) : V := .list (b.map (V.int .i64)) false
@[simp] theorem inV.gd (b : List Int) : ground (inV b) = true := by simp [inV]
@[simp] theorem inV.gk (b : List Int) (k : Nat) : gk (k + 1) (inV b) = true := by simp [inV]
@[simp] theorem inV.nr (b : List Int) : nrm (inV b) = inV b := by simp [inV]
@[simp] theorem inV.nrc : nrm ∘ inV = inV := funext fun x => inV.nr x
@[simp] theorem inV.nm (b : List Int) : nm (inV b) = true := by simp [inV]
@[simp] theorem inV.any (b : List Int) : isAny (inV b) = false := rfl
@[simp] theorem inV.cells (b : List Int) : cellsOf (inV b) = [inV b] := rfl
@[simp] theorem inV.st (b : List Int) : storable (inV b) = true := rfl
@[simp] theorem inV.lf (b : List Int) : leafy (inV b) = true := rfl
@[simp] theorem inV.uni (l : List (List Int)) : uni 1 (l.map inV) = true := uni_map fun _ => rfl
@[simp] theorem inV.flat (l : List (List Int)) : flat (l.map inV) = l.map inV := flat_one fun _ => rfl
@[simp] theorem inV.sl (b : List Int) (L : List V → Bool → Prop) (O : Nat → Nat → Nat → Nat → Prop) : wSl (inV b) L O = L (b.map (V.int .i64)) false := (rfl)
@[simp] theorem inV.el (b : List Int) (H : List Ob) (n : Nat) (K : List V → Nat → Prop) : xElems H n (inV b) K = xElems H n (.list (b.map (V.int .i64)) false) K := (rfl)
@[simp] theorem inV.xs (b : List Int) (H : List Ob) (n : Nat) (lo hi mx : Option V) (K : V → Prop) : xSlice H (.sl n) (inV b) lo hi mx K = xSlice H (.sl n) (.list (b.map (V.int .i64)) false) lo hi mx K := (rfl)
structure Slo where
  v : Int
  call : Bool
deriving Inhabited, DecidableEq
structure Wor where
  name : ByteArray
  code : Int
  now : Bool
  hid : Bool
deriving Inhabited
structure Spo where
  addr : Int
  at_ : Int
deriving Inhabited, DecidableEq
structure Rn where
  at_ : Int
  b : List Int
deriving Inhabited, DecidableEq
def sloV (s : Slo) : V := .agg [.int .i64 s.v, .bool s.call]
@[simp] theorem sloV.gd (s : Slo) : ground (sloV s) = true := by simp [sloV]
@[simp] theorem sloV.gk (s : Slo) (k : Nat) : gk (k + 2) (sloV s) = true := by simp [sloV]
@[simp] theorem sloV.nr (s : Slo) : nrm (sloV s) = sloV s := by simp [sloV]
@[simp] theorem sloV.nrc : nrm ∘ sloV = sloV := funext fun x => sloV.nr x
@[simp] theorem sloV.nm (s : Slo) : nm (sloV s) = true := by simp [sloV]
@[simp] theorem sloV.any (s : Slo) : isAny (sloV s) = false := rfl
@[simp] theorem sloV.cells (s : Slo) : cellsOf (sloV s) = [.int .i64 s.v, .bool s.call] := rfl
@[simp] theorem sloV.uni (l : List (Slo)) : uni 2 (l.map sloV) = true := uni_map fun _ => rfl
@[simp] theorem sloV.flat (l : List (Slo)) : flat (l.map sloV) = l.flatMap fun s => [.int .i64 s.v, .bool s.call] := by rw [flat_map]; rfl
def worV (s : Wor) : V := .agg [.str s.name, .int .i64 s.code, .bool s.now, .bool s.hid]
@[simp] theorem worV.gd (s : Wor) : ground (worV s) = true := by simp [worV]
@[simp] theorem worV.gk (s : Wor) (k : Nat) : gk (k + 2) (worV s) = true := by simp [worV]
@[simp] theorem worV.nr (s : Wor) : nrm (worV s) = worV s := by simp [worV]
@[simp] theorem worV.nrc : nrm ∘ worV = worV := funext fun x => worV.nr x
@[simp] theorem worV.nm (s : Wor) : nm (worV s) = true := by simp [worV]
@[simp] theorem worV.any (s : Wor) : isAny (worV s) = false := rfl
@[simp] theorem worV.cells (s : Wor) : cellsOf (worV s) = [.str s.name, .int .i64 s.code, .bool s.now, .bool s.hid] := rfl
@[simp] theorem worV.uni (l : List (Wor)) : uni 4 (l.map worV) = true := uni_map fun _ => rfl
@[simp] theorem worV.flat (l : List (Wor)) : flat (l.map worV) = l.flatMap fun s => [.str s.name, .int .i64 s.code, .bool s.now, .bool s.hid] := by rw [flat_map]; rfl
def spoV (s : Spo) : V := .agg [.int .i64 s.addr, .int .i64 s.at_]
@[simp] theorem spoV.gd (s : Spo) : ground (spoV s) = true := by simp [spoV]
@[simp] theorem spoV.gk (s : Spo) (k : Nat) : gk (k + 2) (spoV s) = true := by simp [spoV]
@[simp] theorem spoV.nr (s : Spo) : nrm (spoV s) = spoV s := by simp [spoV]
@[simp] theorem spoV.nrc : nrm ∘ spoV = spoV := funext fun x => spoV.nr x
@[simp] theorem spoV.nm (s : Spo) : nm (spoV s) = true := by simp [spoV]
@[simp] theorem spoV.any (s : Spo) : isAny (spoV s) = false := rfl
@[simp] theorem spoV.cells (s : Spo) : cellsOf (spoV s) = [.int .i64 s.addr, .int .i64 s.at_] := rfl
@[simp] theorem spoV.uni (l : List (Spo)) : uni 2 (l.map spoV) = true := uni_map fun _ => rfl
@[simp] theorem spoV.flat (l : List (Spo)) : flat (l.map spoV) = l.flatMap fun s => [.int .i64 s.addr, .int .i64 s.at_] := by rw [flat_map]; rfl
def runV (s : Rn) : V := .agg [.int .i64 s.at_, byV s.b]
@[simp] theorem runV.gd (s : Rn) : ground (runV s) = true := by simp [runV]
@[simp] theorem runV.gk (s : Rn) (k : Nat) : gk (k + 2) (runV s) = true := by simp [runV]
@[simp] theorem runV.nr (s : Rn) : nrm (runV s) = runV s := by simp [runV]
@[simp] theorem runV.nrc : nrm ∘ runV = runV := funext fun x => runV.nr x
@[simp] theorem runV.nm (s : Rn) : nm (runV s) = true := by simp [runV]
@[simp] theorem runV.any (s : Rn) : isAny (runV s) = false := rfl
@[simp] theorem runV.cells (s : Rn) : cellsOf (runV s) = [.int .i64 s.at_, byV s.b] := rfl
@[simp] theorem runV.uni (l : List (Rn)) : uni 2 (l.map runV) = true := uni_map fun _ => rfl
@[simp] theorem runV.flat (l : List (Rn)) : flat (l.map runV) = l.flatMap fun s => [.int .i64 s.at_, byV s.b] := by rw [flat_map]; rfl
def slosV (l : List Slo) : V := .list (l.map sloV) false
@[simp] theorem slosV.gd (l : List Slo) : ground (slosV l) = true := by simp [slosV]
@[simp] theorem slosV.gk (l : List Slo) (k : Nat) : gk (k + 1) (slosV l) = true := by simp [slosV]
@[simp] theorem slosV.nr (l : List Slo) : nrm (slosV l) = slosV l := by simp [slosV]
@[simp] theorem slosV.nrc : nrm ∘ slosV = slosV := funext fun x => slosV.nr x
@[simp] theorem slosV.nm (l : List Slo) : nm (slosV l) = true := by simp [slosV]
@[simp] theorem slosV.any (l : List Slo) : isAny (slosV l) = false := rfl
@[simp] theorem slosV.cells (l : List Slo) : cellsOf (slosV l) = [slosV l] := rfl
@[simp] theorem slosV.st (l : List Slo) : storable (slosV l) = true := rfl
@[simp] theorem slosV.lf (l : List Slo) : leafy (slosV l) = true := rfl
@[simp] theorem slosV.uni (l : List (List Slo)) : uni 1 (l.map slosV) = true := uni_map fun _ => rfl
@[simp] theorem slosV.flat (l : List (List Slo)) : flat (l.map slosV) = l.map slosV := flat_one fun _ => rfl
@[simp] theorem slosV.sl (l : List Slo) (L : List V → Bool → Prop) (O : Nat → Nat → Nat → Nat → Prop) : wSl (slosV l) L O = L (l.map sloV) false := (rfl)
@[simp] theorem slosV.el (l : List Slo) (H : List Ob) (n : Nat) (K : List V → Nat → Prop) : xElems H n (slosV l) K = xElems H n (.list (l.map sloV) false) K := (rfl)
@[simp] theorem slosV.xs (l : List Slo) (H : List Ob) (n : Nat) (lo hi mx : Option V) (K : V → Prop) : xSlice H (.sl n) (slosV l) lo hi mx K = xSlice H (.sl n) (.list (l.map sloV) false) lo hi mx K := (rfl)
def worsV (l : List Wor) : V := .list (l.map worV) false
@[simp] theorem worsV.gd (l : List Wor) : ground (worsV l) = true := by simp [worsV]
@[simp] theorem worsV.gk (l : List Wor) (k : Nat) : gk (k + 1) (worsV l) = true := by simp [worsV]
@[simp] theorem worsV.nr (l : List Wor) : nrm (worsV l) = worsV l := by simp [worsV]
@[simp] theorem worsV.nrc : nrm ∘ worsV = worsV := funext fun x => worsV.nr x
@[simp] theorem worsV.nm (l : List Wor) : nm (worsV l) = true := by simp [worsV]
@[simp] theorem worsV.any (l : List Wor) : isAny (worsV l) = false := rfl
@[simp] theorem worsV.cells (l : List Wor) : cellsOf (worsV l) = [worsV l] := rfl
@[simp] theorem worsV.st (l : List Wor) : storable (worsV l) = true := rfl
@[simp] theorem worsV.lf (l : List Wor) : leafy (worsV l) = true := rfl
@[simp] theorem worsV.uni (l : List (List Wor)) : uni 1 (l.map worsV) = true := uni_map fun _ => rfl
@[simp] theorem worsV.flat (l : List (List Wor)) : flat (l.map worsV) = l.map worsV := flat_one fun _ => rfl
@[simp] theorem worsV.sl (l : List Wor) (L : List V → Bool → Prop) (O : Nat → Nat → Nat → Nat → Prop) : wSl (worsV l) L O = L (l.map worV) false := (rfl)
@[simp] theorem worsV.el (l : List Wor) (H : List Ob) (n : Nat) (K : List V → Nat → Prop) : xElems H n (worsV l) K = xElems H n (.list (l.map worV) false) K := (rfl)
@[simp] theorem worsV.xs (l : List Wor) (H : List Ob) (n : Nat) (lo hi mx : Option V) (K : V → Prop) : xSlice H (.sl n) (worsV l) lo hi mx K = xSlice H (.sl n) (.list (l.map worV) false) lo hi mx K := (rfl)
def sposV (l : List Spo) : V := .list (l.map spoV) false
@[simp] theorem sposV.gd (l : List Spo) : ground (sposV l) = true := by simp [sposV]
@[simp] theorem sposV.gk (l : List Spo) (k : Nat) : gk (k + 1) (sposV l) = true := by simp [sposV]
@[simp] theorem sposV.nr (l : List Spo) : nrm (sposV l) = sposV l := by simp [sposV]
@[simp] theorem sposV.nrc : nrm ∘ sposV = sposV := funext fun x => sposV.nr x
@[simp] theorem sposV.nm (l : List Spo) : nm (sposV l) = true := by simp [sposV]
@[simp] theorem sposV.any (l : List Spo) : isAny (sposV l) = false := rfl
@[simp] theorem sposV.cells (l : List Spo) : cellsOf (sposV l) = [sposV l] := rfl
@[simp] theorem sposV.st (l : List Spo) : storable (sposV l) = true := rfl
@[simp] theorem sposV.lf (l : List Spo) : leafy (sposV l) = true := rfl
@[simp] theorem sposV.uni (l : List (List Spo)) : uni 1 (l.map sposV) = true := uni_map fun _ => rfl
@[simp] theorem sposV.flat (l : List (List Spo)) : flat (l.map sposV) = l.map sposV := flat_one fun _ => rfl
@[simp] theorem sposV.sl (l : List Spo) (L : List V → Bool → Prop) (O : Nat → Nat → Nat → Nat → Prop) : wSl (sposV l) L O = L (l.map spoV) false := (rfl)
@[simp] theorem sposV.el (l : List Spo) (H : List Ob) (n : Nat) (K : List V → Nat → Prop) : xElems H n (sposV l) K = xElems H n (.list (l.map spoV) false) K := (rfl)
@[simp] theorem sposV.xs (l : List Spo) (H : List Ob) (n : Nat) (lo hi mx : Option V) (K : V → Prop) : xSlice H (.sl n) (sposV l) lo hi mx K = xSlice H (.sl n) (.list (l.map spoV) false) lo hi mx K := (rfl)
def runsV (l : List Rn) : V := .list (l.map runV) false
@[simp] theorem runsV.gd (l : List Rn) : ground (runsV l) = true := by simp [runsV]
@[simp] theorem runsV.gk (l : List Rn) (k : Nat) : gk (k + 1) (runsV l) = true := by simp [runsV]
@[simp] theorem runsV.nr (l : List Rn) : nrm (runsV l) = runsV l := by simp [runsV]
@[simp] theorem runsV.nrc : nrm ∘ runsV = runsV := funext fun x => runsV.nr x
@[simp] theorem runsV.nm (l : List Rn) : nm (runsV l) = true := by simp [runsV]
@[simp] theorem runsV.any (l : List Rn) : isAny (runsV l) = false := rfl
@[simp] theorem runsV.cells (l : List Rn) : cellsOf (runsV l) = [runsV l] := rfl
@[simp] theorem runsV.st (l : List Rn) : storable (runsV l) = true := rfl
@[simp] theorem runsV.lf (l : List Rn) : leafy (runsV l) = true := rfl
@[simp] theorem runsV.uni (l : List (List Rn)) : uni 1 (l.map runsV) = true := uni_map fun _ => rfl
@[simp] theorem runsV.flat (l : List (List Rn)) : flat (l.map runsV) = l.map runsV := flat_one fun _ => rfl
@[simp] theorem runsV.sl (l : List Rn) (L : List V → Bool → Prop) (O : Nat → Nat → Nat → Nat → Prop) : wSl (runsV l) L O = L (l.map runV) false := (rfl)
@[simp] theorem runsV.el (l : List Rn) (H : List Ob) (n : Nat) (K : List V → Nat → Prop) : xElems H n (runsV l) K = xElems H n (.list (l.map runV) false) K := (rfl)
@[simp] theorem runsV.xs (l : List Rn) (H : List Ob) (n : Nat) (lo hi mx : Option V) (K : V → Prop) : xSlice H (.sl n) (runsV l) lo hi mx K = xSlice H (.sl n) (.list (l.map runV) false) lo hi mx K := (rfl)
structure St where
  mem : List Int
  data : List Int
  ret : List Slo
  ctl : List Int
  words : List Wor
  spots : List Spo
  out : List Int
  ip : Int
  here : Int
  at_ : Int
  tok : Int
  in_ : Int
  err : Int
  comp : Bool
  halt : Bool
deriving Inhabited
structure De where
  mem : List Rn
  dk : Int
  dt : List Int
  rk : Int
  rt : List Slo
  ck : Int
  ct : List Int
  wk : Int
  wt : List Wor
  sk : Int
  st : List Spo
  out : Int
  r0 : Int
  r1 : Int
  r2 : Int
  r3 : Int
  r4 : Int
  r5 : Int
  comp : Bool
  halt : Bool
deriving Inhabited
def stV (s : St) : V := .agg [byV s.mem, inV s.data, slosV s.ret, inV s.ctl, worsV s.words, sposV s.spots, byV s.out, .int .i64 s.ip, .int .i64 s.here, .int .i64 s.at_, .int .i64 s.tok, .int .i64 s.in_, .int .i64 s.err, .bool s.comp, .bool s.halt]
@[simp] theorem stV.gd (s : St) : ground (stV s) = true := by simp [stV]
@[simp] theorem stV.gk (s : St) (k : Nat) : gk (k + 2) (stV s) = true := by simp [stV]
@[simp] theorem stV.nr (s : St) : nrm (stV s) = stV s := by simp [stV]
@[simp] theorem stV.nrc : nrm ∘ stV = stV := funext fun x => stV.nr x
@[simp] theorem stV.nm (s : St) : nm (stV s) = true := by simp [stV]
@[simp] theorem stV.any (s : St) : isAny (stV s) = false := rfl
@[simp] theorem stV.cells (s : St) : cellsOf (stV s) = [byV s.mem, inV s.data, slosV s.ret, inV s.ctl, worsV s.words, sposV s.spots, byV s.out, .int .i64 s.ip, .int .i64 s.here, .int .i64 s.at_, .int .i64 s.tok, .int .i64 s.in_, .int .i64 s.err, .bool s.comp, .bool s.halt] := rfl
@[simp] theorem stV.uni (l : List (St)) : uni 15 (l.map stV) = true := uni_map fun _ => rfl
@[simp] theorem stV.flat (l : List (St)) : flat (l.map stV) = l.flatMap fun s => [byV s.mem, inV s.data, slosV s.ret, inV s.ctl, worsV s.words, sposV s.spots, byV s.out, .int .i64 s.ip, .int .i64 s.here, .int .i64 s.at_, .int .i64 s.tok, .int .i64 s.in_, .int .i64 s.err, .bool s.comp, .bool s.halt] := by rw [flat_map]; rfl
def deV (d : De) : V := .agg [runsV d.mem, .int .i64 d.dk, inV d.dt, .int .i64 d.rk, slosV d.rt, .int .i64 d.ck, inV d.ct, .int .i64 d.wk, worsV d.wt, .int .i64 d.sk, sposV d.st, .int .i64 d.out, .int .i64 d.r0, .int .i64 d.r1, .int .i64 d.r2, .int .i64 d.r3, .int .i64 d.r4, .int .i64 d.r5, .bool d.comp, .bool d.halt]
@[simp] theorem deV.gd (d : De) : ground (deV d) = true := by simp [deV]
@[simp] theorem deV.gk (d : De) (k : Nat) : gk (k + 2) (deV d) = true := by simp [deV]
@[simp] theorem deV.nr (d : De) : nrm (deV d) = deV d := by simp [deV]
@[simp] theorem deV.nrc : nrm ∘ deV = deV := funext fun x => deV.nr x
@[simp] theorem deV.nm (d : De) : nm (deV d) = true := by simp [deV]
@[simp] theorem deV.any (d : De) : isAny (deV d) = false := rfl
@[simp] theorem deV.cells (d : De) : cellsOf (deV d) = [runsV d.mem, .int .i64 d.dk, inV d.dt, .int .i64 d.rk, slosV d.rt, .int .i64 d.ck, inV d.ct, .int .i64 d.wk, worsV d.wt, .int .i64 d.sk, sposV d.st, .int .i64 d.out, .int .i64 d.r0, .int .i64 d.r1, .int .i64 d.r2, .int .i64 d.r3, .int .i64 d.r4, .int .i64 d.r5, .bool d.comp, .bool d.halt] := rfl
@[simp] theorem deV.uni (l : List (De)) : uni 20 (l.map deV) = true := uni_map fun _ => rfl
@[simp] theorem deV.flat (l : List (De)) : flat (l.map deV) = l.flatMap fun d => [runsV d.mem, .int .i64 d.dk, inV d.dt, .int .i64 d.rk, slosV d.rt, .int .i64 d.ck, inV d.ct, .int .i64 d.wk, worsV d.wt, .int .i64 d.sk, sposV d.st, .int .i64 d.out, .int .i64 d.r0, .int .i64 d.r1, .int .i64 d.r2, .int .i64 d.r3, .int .i64 d.r4, .int .i64 d.r5, .bool d.comp, .bool d.halt] := by rw [flat_map]; rfl
end Fz.D
set_option maxRecDepth 100000
namespace Fz.D
open Go
def i64 (a : Int) : Prop := -9223372036854775808 ≤ a ∧ a ≤ 9223372036854775807
def zz (n : Int) : Int := if 0 ≤ n then 2 * n else -2 * n - 1
theorem zz_le {n : Int} (h : i64 n) : 0 ≤ zz n ∧ zz n < 18446744073709551616 := by
  unfold i64 at h; unfold zz; split <;> omega
theorem u64 {a : Int} (h0 : 0 ≤ a) (h1 : a < 18446744073709551616) : IntKind.u64.wrap a = a := by
  show a % 18446744073709551616 = a
  omega
def numC (x : Nat) : List Int := if h : x = 0 then [] else numC (x / 128) ++ [((x % 128 : Nat) : Int) + 128]
termination_by x
decreasing_by omega
def numB (x : Nat) : List Int := numC (x / 128) ++ [((x % 128 : Nat) : Int)]
theorem numC_zero : numC 0 = [] := by rw [numC]; simp
theorem numC_pos {x : Nat} (h : x ≠ 0) : numC x = numC (x / 128) ++ [((x % 128 : Nat) : Int) + 128] := by rw [numC]; simp [h]
end Fz.D
