import Derived.Test.YtagdmfgnnhlakaaGreatDoorFzRa9M3
import Derived.Test.YtagdmfgnnhlakaaGreatDoorProg
set_option linter.all false
set_option linter.unusedVariables false
set_option linter.unusedSimpArgs false
set_option linter.unnecessarySimpa false
namespace Fz
open Go
def Sees (H H' : List Ob) : Prop := ∀ i : Nat, match H[i]? with
  | some (.live l) => H'[i]? = some (.live l) ∨ H'[i]? = some (.fixed l)
  | some .dead => True
  | some o => H'[i]? = some o
  | none => True
theorem Sees.refl (H : List Ob) : Sees H H := by
  intro i
  cases h : H[i]? with
  | none => trivial
  | some o => cases o <;> simp
theorem Sees.trans {A B C : List Ob} (h : Sees A B) (g : Sees B C) : Sees A C := by
  intro i
  have h1 := h i
  have h2 := g i
  cases ho : A[i]? with
  | none => trivial
  | some o =>
    rw [ho] at h1
    cases o with
    | live l =>
      rcases h1 with h1 | h1
      · rw [h1] at h2; exact h2
      · rw [h1] at h2; exact .inr h2
    | dead => trivial
    | _ => rw [show B[i]? = _ from h1] at h2; exact h2
theorem Sees.app (H G : List Ob) : Sees H (H ++ G) := by
  intro i
  cases ho : H[i]? with
  | none => trivial
  | some o =>
    have : (H ++ G)[i]? = some o := by rw [List.getElem?_append_left (List.getElem?_eq_some_iff.1 ho).1]; exact ho
    cases o <;> simp [this]
theorem Sees.set {H : List Ob} {i : Nat} {l : List V} (h : H[i]? = some (.live l)) : Sees H (H.set i (.fixed l)) := by
  intro j
  rw [List.getElem?_set]
  by_cases e : i = j
  · subst e
    rw [h, if_pos rfl, if_pos (List.getElem?_eq_some_iff.1 h).1]
    exact .inr rfl
  · rw [if_neg e]
    cases ho : H[j]? with
    | none => trivial
    | some o => cases o <;> simp
theorem peek_see {H : List Ob} {n : Nat} {v : V} {l : List V} {H' : List Ob} (G : Sees H H') (h : peek H n v = some l) : peek (H') n v = some l := by
  cases v with
  | ref x => exact h
  | ptr id off =>
    simp only [peek] at h ⊢
    cases ho : H[id]? with
    | none => rw [ho] at h; cases h
    | some o =>
      have hs := G id
      rw [ho] at h hs
      cases o with
      | live x => rcases hs with hs | hs <;> (rw [hs]; exact h)
      | fixed x => rw [show H'[id]? = _ from hs]; exact h
      | _ => cases h
  | _ => cases h
theorem elems_see {H : List Ob} {n : Nat} {v : V} {l : List V × Nat} {H' : List Ob} (G : Sees H H') (h : elems H n v = some l) : elems (H') n v = some l := by
  cases v with
  | own id off len m =>
    simp only [elems] at h ⊢
    split at h
    · rename_i hm
      rw [if_pos hm]
      obtain ⟨x, hx, hh⟩ := Option.map_eq_some_iff.1 h
      rw [peek_see G hx, Option.map_some, hh]
    · cases h
  | _ => exact h
theorem lend_see {H : List Ob} {H' : List Ob} (G : Sees H H') : ∀ (k : Nat) (v v' : V), lendV H k v = some v' → lendV (H') k v = some v' := by
  intro k
  induction k with
  | zero => intro v v' h; cases h
  | succ k ih =>
    have hm : ∀ (l x : List V), mapOpt (lendV H k) l = some x → mapOpt (lendV (H') k) l = some x := by
      intro l
      induction l with
      | nil => intro x h; exact h
      | cons v l ihl =>
        intro x h
        simp only [mapOpt] at h ⊢
        split at h <;> cases h
        rename_i a b ha hb
        rw [ih _ _ ha, ihl _ hb]
    intro v v' h
    cases v with
    | own id off len n =>
      simp only [lendV] at h ⊢
      split at h
      · cases h
      · rename_i hn
        rw [if_neg hn]
        split at h
        · rename_i l hl
          rw [peek_see G hl]
          dsimp only
          split at h
          · rename_i x hx; rw [hm _ _ hx]; exact h
          · cases h
        · cases h
    | agg l =>
      simp only [lendV] at h ⊢
      obtain ⟨x, hx, hh⟩ := Option.map_eq_some_iff.1 h
      rw [hm _ _ hx, Option.map_some, hh]
    | tuple l =>
      simp only [lendV] at h ⊢
      obtain ⟨x, hx, hh⟩ := Option.map_eq_some_iff.1 h
      rw [hm _ _ hx, Option.map_some, hh]
    | _ => exact h
theorem lends_see {H : List Ob} {H' : List Ob} (G : Sees H H') (k : Nat) : ∀ (l x : List V), mapOpt (lendV H k) l = some x → mapOpt (lendV (H') k) l = some x := by
  intro l
  induction l with
  | nil => intro x h; exact h
  | cons v l ihl =>
    intro x h
    simp only [mapOpt] at h ⊢
    split at h <;> cases h
    rename_i a b ha hb
    rw [lend_see G _ _ _ ha, ihl _ hb]
theorem mapOf_see {H : List Ob} {H' : List Ob} (G : Sees H H') {m : V} {x : List V × List V} (h : mapOf H m = some x) : mapOf (H') m = some x := by
  unfold mapOf at h ⊢
  split at h <;> try (cases h; done)
  · exact h
  · exact h
  · rename_i id
    split at h <;> cases h
    rename_i ho
    have hs := G id
    rw [ho] at hs
    rw [show H'[id]? = _ from hs]
theorem rd_see {H : List Ob} {H' : List Ob} (G : Sees H H') {k : RK} {l : List V} {v : V} (h : rdV H k l = some v) : rdV (H') k l = some v := by
  unfold rdV at h ⊢
  split at h
  · rename_i kk z ok m k
    cases hm : mapOf H m with
    | none => rw [hm] at h; cases h
    | some x => rw [hm] at h; rw [mapOf_see G hm]; exact h
  · cases h
theorem evOp_see {ρ : Opd → V} {op : AOp} (hp : pureOp op = true) {H : List Ob} {H' : List Ob} (G : Sees H H') {v : V} {H1 : List Ob} (h : evOp ρ H op = some (.val v H1)) :
    ∃ H2, evOp ρ (H') op = some (.val v H2) := by
  by_cases hf : heapFree op = true
  · exact ⟨_, evOp_free hf H (H') h⟩
  · cases op with
    | rd k l =>
      simp only [evOp, ans] at h ⊢
      obtain ⟨u, hu, h⟩ := Option.map_eq_some_iff.1 h
      rw [rd_see G hu]; cases h; exact ⟨_, rfl⟩
    | load agg n x =>
      simp only [evOp] at h ⊢
      cases hl : peek H n (ρ x) with
      | none => rw [hl] at h; cases h
      | some l =>
        rw [hl] at h
        rw [peek_see G hl]
        dsimp only at h ⊢
        split at h
        · rename_i ha; cases h; exact ⟨_, if_pos ha⟩
        · rename_i ha
          rw [if_neg ha]
          split at h
          · cases h; exact ⟨_, rfl⟩
          · cases h
    | conv k x =>
      cases k with
      | b2s =>
        simp only [evOp] at h ⊢
        cases hx : ρ x with
        | list l c =>
          rw [hx] at h
          dsimp only at h ⊢
          obtain ⟨q, hq, h⟩ := Option.bind_eq_some_iff.1 h
          rw [elems_see G hq, Option.bind_some]
          split at h <;> cases h
          rename_i hc
          exact ⟨_, if_pos hc⟩
        | own a b c d =>
          rw [hx] at h
          dsimp only at h ⊢
          obtain ⟨q, hq, h⟩ := Option.bind_eq_some_iff.1 h
          rw [elems_see G hq, Option.bind_some]
          split at h <;> cases h
          rename_i hc
          exact ⟨_, if_pos hc⟩
        | _ => rw [hx] at h; cases h
      | _ => exact absurd rfl hf
    | slice k x lo hi mx =>
      cases k with
      | arr alen n =>
        simp only [evOp, ans] at h ⊢
        obtain ⟨u, hu, hh⟩ := Option.map_eq_some_iff.1 h
        refine ⟨H', ?_⟩
        have : sliceV (H') (.arr alen n) (ρ x) (lo.map ρ) (hi.map ρ) (mx.map ρ) = some u := by
          unfold sliceV at hu ⊢
          split at hu
          · cases hu
          · rename_i hc
            rw [if_neg hc]
            cases hx : ρ x with
            | ptr id off =>
              rw [hx] at hu
              dsimp only at hu ⊢
              split at hu
              · rename_i h1 h2 h3 h4
                rw [h1, h2, h3, peek_see G h4]
                exact hu
              · cases hu
            | _ => rw [hx] at hu; cases hu
        rw [this]
        cases hh
        rfl
      | _ => exact absurd rfl hf
    | _ => first | (exact absurd rfl hf) | (cases hp)
theorem quiet_see {call : CallT} {inl : FuncId → Bool} {e : Env} {o : AO} {H : List Ob} {H' : List Ob} (G : Sees H H') {v : V} (h : quietOp call inl e H o = some v) :
    quietOp call inl e (H') o = some v := by
  have go : ∀ (hh : (match evOp (evO e) H o.op with
    | some (.val v _) => if pureOp o.op then some v else none
    | some (.call k args) => match mapOpt (lendV H depthF) args with
      | some l => if groundL l then (match doCall call inl k l [] with
        | some (.ret v, []) => if ground v && (listFree v || groundL args) then some v else none
        | _ => none) else none
      | none => none
    | _ => none) = some v), (match evOp (evO e) (H') o.op with
    | some (.val v _) => if pureOp o.op then some v else none
    | some (.call k args) => match mapOpt (lendV (H') depthF) args with
      | some l => if groundL l then (match doCall call inl k l [] with
        | some (.ret v, []) => if ground v && (listFree v || groundL args) then some v else none
        | _ => none) else none
      | none => none
    | _ => none) = some v := by
    intro hh
    cases hv : evOp (evO e) H o.op with
    | none => rw [hv] at hh; cases hh
    | some q =>
      cases q with
      | val u H1 =>
        rw [hv] at hh
        dsimp only at hh
        have hp : pureOp o.op = true := by
          split at hh
          · assumption
          · cases hh
        obtain ⟨H2, h2⟩ := evOp_see hp G hv
        rw [h2]
        exact hh
      | skip _ => rw [hv] at hh; cases hh
      | panic _ _ => rw [hv] at hh; cases hh
      | call k args =>
        have hc : evOp (evO e) (H') o.op = some (.call k args) := by
          generalize o.op = op at hv
          cases op with
          | call f l => exact hv
          | callv f l => exact hv
          | conv kk x =>
            exfalso
            cases kk with
            | b2s =>
              simp only [evOp] at hv
              split at hv
              · obtain ⟨a, _, hv⟩ := Option.bind_eq_some_iff.1 hv
                split at hv <;> cases hv
              · obtain ⟨a, _, hv⟩ := Option.bind_eq_some_iff.1 hv
                split at hv <;> cases hv
              · cases hv
            | _ =>
              simp only [evOp] at hv
              first
              | (cases hv; done)
              | (split at hv <;> cases hv)
          | append n b z s x =>
            exfalso
            simp only [evOp] at hv
            repeat' split at hv
            all_goals cases hv
          | mem k l =>
            exfalso
            simp only [evOp] at hv
            exact memV_nocall hv
          | _ =>
            exfalso
            simp only [evOp, ans] at hv
            repeat' split at hv
            all_goals first | (cases hv; done) | (obtain ⟨_, _, hv⟩ := Option.map_eq_some_iff.1 hv; cases hv)
        rw [hc]
        rw [hv] at hh
        dsimp only at hh ⊢
        split at hh
        · rename_i l hl
          rw [lends_see G _ _ _ hl]
          exact hh
        · cases hh
  unfold quietOp at h ⊢
  dsimp only at h ⊢
  cases hg : o.guard with
  | none => rw [hg] at h; exact go h
  | some tw =>
    rw [hg] at h
    obtain ⟨t', w⟩ := tw
    dsimp only at h ⊢
    cases he : e t' with
    | bool b =>
      simp only [he] at h ⊢
      by_cases hb : b = w
      · simp only [hb, if_true] at h ⊢; exact go h
      · simp only [hb, if_false] at h ⊢; exact h
    | tuple l =>
      simp only [he] at h ⊢
      cases l with
      | nil => exact h
      | cons _ _ => cases h
    | _ => simp only [he] at h; cases h
def wExt (p : AP) (Q : X → Env → List Ob → Prop) (H0 : List Ob) : List AO → Env → List Ob → Prop
  | [], e, H => Q .normal e H
  | o :: r, e, H => if o.eff = true then
      wGuard e o.guard (wAct p e H (fun v H' => Sees H0 H' ∧ wExt p Q H0 r (putE e o.dst v) H') (fun _ _ => False) o.op) (wExt p Q H0 r (putE e o.dst uv) H)
    else wGuard e o.guard (wQ p e H0 (fun v => wExt p Q H0 r (putE e o.dst v) H) o.op) (wExt p Q H0 r (putE e o.dst uv) H)
def AtH (call : CallT) (inl : FuncId → Bool) (H0 : List Ob) : List AO → List (Env × Nat × V) → Prop
  | [], [] => True
  | o :: r, (e, _, v) :: t => (o.eff = true ∨ quietOp call inl e H0 o = some v) ∧ AtH call inl H0 r t
  | _, _ => False
theorem AtH_mono {f g : CallT} (h : LeC f g) {inl : FuncId → Bool} {H0 : List Ob} : ∀ {r : List AO} {t : List (Env × Nat × V)}, AtH f inl H0 r t → AtH g inl H0 r t
  | [], [], _ => trivial
  | o :: r, (e, k, v) :: t, ⟨h1, h2⟩ => ⟨h1.imp id (quietOp_mono h inl e H0 o v), AtH_mono h h2⟩
  | [], _ :: _, h => h.elim
  | _ :: _, [], h => h.elim
theorem AtH_steady {call : CallT} {inl : FuncId → Bool} {ops : List AO} {an : List (List Nat)} {H0 : List Ob} {hs : List (List Ob)} (hx : ∀ G ∈ hs, Sees H0 G) : ∀ (r : List AO) (s : Nat) (t : List (Env × Nat × V)), AtH call inl H0 r t → steadyAll call inl ops an hs (r.zipIdx s) t = true
  | [], s, [], _ => rfl
  | o :: r, s, (e, k, v) :: t, ⟨h1, h2⟩ => by
    rw [List.zipIdx_cons]
    unfold steadyAll
    rw [Bool.and_eq_true]
    refine ⟨?_, AtH_steady hx r (s + 1) t h2⟩
    rw [Bool.or_eq_true]
    refine h1.imp id fun hq => ?_
    have : ∀ l : List (List Ob), (∀ G ∈ l, Sees H0 G) → steady call inl e v o l = true := by
      intro l
      induction l with
      | nil => intro _; rfl
      | cons H' l ihl =>
        intro hl'
        have J := hl' H' (List.mem_cons_self ..)
        unfold steady
        rw [quiet_see J hq, Bool.and_eq_true]
        exact ⟨veq_refl v, ihl fun G hG => hl' G (List.mem_cons_of_mem _ hG)⟩
    exact this _ fun G hG => hx G (List.mem_of_mem_drop (List.mem_of_mem_take hG))
  | [], _, _ :: _, h => h.elim
  | _ :: _, _, [], h => h.elim
theorem wExt_trace {p : AP} {Q : X → Env → List Ob → Prop} {H0 : List Ob} (ops : List AO) : ∀ (e : Env) (H : List Ob) (hs : List (List Ob)), wExt p Q H0 ops e H → hs.getLast? = some H → (Sees H0 H) → (∀ G ∈ hs, Sees H0 G) →
    ∃ n t hs' e' H', trace (acall p n) p.inlY ops e hs = some (t, hs', e') ∧ hs'.getLast? = some H' ∧ (∀ G ∈ hs', Sees H0 G) ∧ AtH (acall p n) p.inlY H0 ops t ∧ Q .normal e' H' := by
  induction ops with
  | nil => intro e H hs h hl hJ ha; exact ⟨0, _, _, _, H, rfl, hl, ha, trivial, h⟩
  | cons o r ih =>
    intro e H hs h hl hJ ha
    unfold wExt at h
    unfold trace
    rw [hl]
    dsimp only
    have ha' : ∀ H', (Sees H0 H') → ∀ G ∈ hs ++ [H'], Sees H0 G := by
      intro H' hH' G hG
      rcases List.mem_append.1 hG with h | h
      · exact ha G h
      · rw [List.mem_singleton.1 h]; exact hH'
    by_cases he : o.eff = true
    · rw [if_pos he] at h
      simp only [if_pos he]
      rcases wEff_ok h with ⟨n, v, H1, h1, hG, h2⟩ | ⟨h1, h2⟩
      · have hJ' : Sees H0 H1 := hG
        obtain ⟨m, t, hs', e', H2, h3, h4, h5, h6, h7⟩ := ih _ _ (hs ++ [H1]) h2 (by simp) hJ' (ha' _ hJ')
        refine ⟨max n m, (e, hs.length - 1, v) :: t, hs', e', H2, ?_, h4, h5, ⟨.inl he, AtH_mono (acall_le p (Nat.le_max_right n m)) h6⟩, h7⟩
        rw [effOp_mono (acall_le p (Nat.le_max_left n m)) _ _ _ _ _ h1]
        dsimp only
        rw [trace_mono (acall_le p (Nat.le_max_right n m)) _ _ _ _ _ h3]
        rfl
      · obtain ⟨m, t, hs', e', H2, h3, h4, h5, h6, h7⟩ := ih _ _ (hs ++ [H]) h2 (by simp) hJ (ha' _ hJ)
        refine ⟨m, (e, hs.length - 1, uv) :: t, hs', e', H2, ?_, h4, h5, ⟨.inl he, h6⟩, h7⟩
        rw [h1]
        dsimp only
        rw [h3]
        rfl
    · rw [if_neg he] at h
      simp only [if_neg he]
      rcases wQuiet_ok h with ⟨n, v, h1, h2⟩ | ⟨h1, h2⟩
      · obtain ⟨m, t, hs', e', H2, h3, h4, h5, h6, h7⟩ := ih _ _ hs h2 hl hJ ha
        refine ⟨max n m, (e, hs.length - 1, v) :: t, hs', e', H2, ?_, h4, h5, ⟨.inr (quietOp_mono (acall_le p (Nat.le_max_left n m)) _ _ _ _ _ h1), AtH_mono (acall_le p (Nat.le_max_right n m)) h6⟩, h7⟩
        rw [quiet_see hJ (quietOp_mono (acall_le p (Nat.le_max_left n m)) _ _ _ _ _ h1)]
        dsimp only
        rw [trace_mono (acall_le p (Nat.le_max_right n m)) _ _ _ _ _ h3]
        rfl
      · obtain ⟨m, t, hs', e', H2, h3, h4, h5, h6, h7⟩ := ih _ _ hs h2 hl hJ ha
        refine ⟨m, (e, hs.length - 1, uv) :: t, hs', e', H2, ?_, h4, h5, ⟨.inr (h1 m), h6⟩, h7⟩
        rw [quiet_see hJ (h1 m)]
        dsimp only
        rw [h3]
        rfl
theorem WDraw_see {p : AP} {ops : List AO} (hc : okDraw ops = true) {e : Env} {H R : List Ob} {Q : X → Env → List Ob → Prop} (hR : Sees R H) (h : wExt p Q R ops e H) : WDraw p ops e H Q := by
  obtain ⟨n, t, hs', e', H', h1, h2, h3, h4, h5⟩ := wExt_trace ops e H [H] h rfl hR (fun G hG => by rw [List.mem_singleton.1 hG]; exact hR)
  refine ⟨n, .normal, e', H', ?_, h5⟩
  refine runDraw_of ?_
  unfold runDrawN
  rw [h1]
  dsimp only
  rw [hc, AtH_steady h3 ops 0 t h4, h2]
  rfl
section
variable {p : AP} {Q : X → Env → List Ob → Prop} {e : Env} {H H0 : List Ob}
@[simp ↓] theorem wExt_nil : wExt p Q H0 [] e H = Q .normal e H := (rfl)
@[simp ↓] theorem wExt_eff {d : Option Nat} {op : AOp} {af : List Nat} {r : List AO} :
    wExt p Q H0 (⟨d, op, none, af, true⟩ :: r) e H = wAct p e H (fun v H' => Sees H0 H' ∧ wVal v fun v => wExt p Q H0 r (putE e d v) H') (fun _ _ => False) op := (rfl)
@[simp ↓] theorem wExt_effG {d : Option Nat} {op : AOp} {t : Nat} {w : Bool} {af : List Nat} {r : List AO} :
    wExt p Q H0 (⟨d, op, some (t, w), af, true⟩ :: r) e H = wGuardV (e t) w (wAct p e H (fun v H' => Sees H0 H' ∧ wVal v fun v => wExt p Q H0 r (putE e d v) H') (fun _ _ => False) op) (wExt p Q H0 r (putE e d uv) H) := (rfl)
@[simp ↓] theorem wExt_q {d : Option Nat} {op : AOp} {af : List Nat} {r : List AO} :
    wExt p Q H0 (⟨d, op, none, af, false⟩ :: r) e H = wQ p e H0 (fun v => wVal v fun v => wExt p Q H0 r (putE e d v) H) op := (rfl)
@[simp ↓] theorem wExt_qG {d : Option Nat} {op : AOp} {t : Nat} {w : Bool} {af : List Nat} {r : List AO} :
    wExt p Q H0 (⟨d, op, some (t, w), af, false⟩ :: r) e H = wGuardV (e t) w (wQ p e H0 (fun v => wVal v fun v => wExt p Q H0 r (putE e d v) H) op) (wExt p Q H0 r (putE e d uv) H) := (rfl)
def see1 : Ob → Ob → Prop
  | .live l, o => o = .live l ∨ o = .fixed l
  | .dead, _ => True
  | x, o => o = x
@[simp] theorem see1_live {l m : List V} : see1 (.live l) (.live m) = (m = l) := by simp [see1]
@[simp] theorem see1_lf {l m : List V} : see1 (.live l) (.fixed m) = (m = l) := by simp [see1]
@[simp] theorem see1_dead {o : Ob} : see1 .dead o = True := (rfl)
@[simp] theorem see1_fixed {l m : List V} : see1 (.fixed l) (.fixed m) = (m = l) := by simp [see1]
@[simp] theorem sees_nil {H : List Ob} : Sees [] H = True := eq_true fun i => by simp
@[simp] theorem sees_cons {o o' : Ob} {R H : List Ob} : Sees (o :: R) (o' :: H) = (see1 o o' ∧ Sees R H) := by
  refine propext ⟨fun h => ⟨?_, fun i => ?_⟩, fun h i => ?_⟩
  · have := h 0
    cases o <;> simpa [see1] using this
  · have := h (i + 1)
    simpa only [List.getElem?_cons_succ] using this
  · cases i with
    | zero => have := h.1; cases o <;> simpa [see1] using this
    | succ i => have := h.2 i; simpa only [List.getElem?_cons_succ] using this
@[simp] theorem sees_self {H : List Ob} : Sees H H = True := eq_true (Sees.refl H)
@[simp] theorem sees_app {H G : List Ob} : Sees H (H ++ G) = True := eq_true (Sees.app H G)
end
end Fz
namespace Fz
open Go
@[simp] theorem ex3 {α β γ : Type} {x : α} {y : β} {z : γ} {K : α → β → γ → Prop} : (∃ a b c, (x = a ∧ y = b ∧ z = c) ∧ K a b c) = K x y z :=
  propext ⟨fun ⟨_, _, _, ⟨rfl, rfl, rfl⟩, h⟩ => h, fun h => ⟨x, y, z, ⟨rfl, rfl, rfl⟩, h⟩⟩
theorem reach_go {H : List Ob} {k i : Nat} {todo seen : List Nat} {o : Ob} (hs : seen.contains i = false) (ho : H[i]? = some o) : reach H (k + 1) (i :: todo) seen = reach H k (todo ++ refsOb o) (seen ++ [i]) := by
  conv => lhs; unfold reach
  rw [if_neg (by rw [hs]; exact Bool.false_ne_true), ho]
theorem reach_end {H : List Ob} {k : Nat} {seen : List Nat} : reach H (k + 1) [] seen = some seen := by
  unfold reach; rfl
def roundQ (id : Nat) (Q : CR → List Ob → Prop) : QX := fun x _ H2 => ∃ k2 ts2 l2, H2[id]? = some (.loop k2 ts2 l2 .busy) ∧ match x with
  | .normal => Q (.ret (.bool true)) (H2.set id (.loop k2 ts2 l2 .ready))
  | .ret => Q (.ret (.bool false)) (H2.set id (.loop k2 ts2 l2 (.done .ret)))
  | .exit i => Q (.ret (.bool false)) (H2.set id (.loop k2 ts2 l2 (.done (.exit i))))
  | _ => False
def assignQ (p : AP) (cb : WC) (id : Nat) (Q : CR → List Ob → Prop) : QX := fun x e1 H1 => match x with
  | .normal => ∃ k1 ts1 l1, H1[id]? = some (.loop k1 ts1 l1 .ready) ∧ wx p cb e1 (H1.set id (.loop k1 ts1 l1 .busy)) (roundQ id Q)
  | _ => False
end Fz
namespace Fz
open Go
def Has (n : Nat) (H : List Ob) (v : V) (l : List V) : Prop :=
  uni n l = true ∧ n ≠ 0 ∧ ((∃ c, v = .list l c) ∨ ∃ id cells, v = .own id 0 l.length n ∧ (H[id]? = some (.live cells) ∨ H[id]? = some (.fixed cells)) ∧ l.length * n ≤ cells.length ∧ cells.take (l.length * n) = flat l)
theorem Has.list {n : Nat} {H : List Ob} {l : List V} {c : Bool} (hu : uni n l = true) (hn : n ≠ 0) : Has n H (.list l c) l := ⟨hu, hn, .inl ⟨c, rfl⟩⟩
end Fz
namespace Fz
open Go
def gho (n m : Nat) (H : List Ob) : List Ob := (H.set n .dead).set m .dead
end Fz
namespace Fz
open Go
end Fz
namespace Fz
open Go
def roundL (p : AP) (b : WC) (Q : QX) : QX := fun x e H => match x with
  | .normal => xL p b e H Q
  | .mayRet => False
  | x => Q x e H
theorem xL_one {p : AP} {b : WC} {Q : QX} {e : Env} {H : List Ob} (hc : okW b = true) (h : wx p b e H (roundL p b Q)) : xL p b e H Q := by
  show WX p (.loop (toA b)) e H Q
  obtain ⟨n, x, e', H', h1, h2⟩ := wx_ok b e H _ hc h
  cases x with
  | normal =>
    obtain ⟨m, x, e'', H'', h3, h4⟩ := (show WX p (.loop (toA b)) e' H' Q from h2)
    refine ⟨max n m + 1, x, e'', H'', ?_, h4⟩
    rw [exec, exec_le p (Nat.le_max_left n m) _ _ _ _ h1]
    exact exec_le p (Nat.le_max_right n m) _ _ _ _ h3
  | mayRet => cases h2
  | _ => exact ⟨n + 1, _, _, _, by rw [exec, h1], h2⟩
end Fz
namespace Fz
open Go
def liftE (g : List V → Option V) : List V → List Ob → Option (V × List Ob) := fun args H => match H with
  | [] => (g args).map fun v => (v, [])
  | _ => none
theorem proved_own {P : Program} {p : AP} (hp : APOk P p) {f : FuncId} {g : List V → List Ob → Option (V × List Ob)} (hg : ∀ args H v H', g args H = some (v, H') → H = [] ∧ ∃ n, acall p n f args [] = some (.ret v, H'))
    (args : List V) (H : List Ob) (v : V) (H' : List Ob) (h : g args H = some (v, H')) (K : Kn) (β : Bi) (w : World) (cargs : Array Value) (hL : K.lp = lpOf P p) (hI : Inv K β H w) (ha : LR K β args cargs.toList) : DoesOk P f cargs w (CallPost K β H w (.ret v) H') := by
  obtain ⟨rfl, n, h2⟩ := hg _ _ _ _ h
  exact acall_sound hp n f args [] _ H' h2 K β w cargs hL hI ha
def stiff : V → Bool
  | .bool _ => true
  | .int _ _ => true
  | .str _ => true
  | _ => false
end Fz
namespace Fz
open Go
theorem frz_acgQ (b : Nat) {H : List Ob} {n k : Nat} {v : V} {l : List V} {K : V → List Ob → Prop} (ha : Ac n b (H.drop b) v l) (hg : (flat l).all (gk k) = true)
    (hl : (n = 1 ∧ l.all leafy = true) ∨ (n ≠ 1 ∧ ∀ v ∈ l, ∃ c, v = .agg c)) (hK : ∀ H', H'.take b = H.take b → H'.length = H.length → K (.list (l.map nrm) false) H') : xFrz (k + 1) v H K := by
  obtain ⟨h1, h2, h3⟩ := ha
  rcases h3 with ⟨rfl, rfl⟩ | ⟨j, cells, rfl, h4, h5, h6⟩
  · rw [frz_gk (by rw [gk_list]; rfl)]
    exact hK H rfl rfl
  · rw [List.getElem?_drop] at h4
    rw [frz_own, wOb_at h4]
    refine ⟨⟨by omega, h2⟩, ?_⟩
    rw [wVal_eq, wSetOb_eq]
    have e1 : (cells.drop 0).take (l.length * n) = flat l := by rw [List.drop_zero, h6]
    rw [e1, frzL_gk hg, wVal_eq]
    have e3 : ∀ H', (H.set (b + j) (.fixed cells)) = H' → H'.take b = H.take b ∧ H'.length = H.length := by
      rintro H' rfl
      refine ⟨?_, by simp⟩
      rw [List.take_set_of_le (by omega)]
    obtain ⟨q1, q2⟩ := e3 _ rfl
    generalize H.set (b + j) (.fixed cells) = H' at q1 q2 ⊢
    rcases hl with ⟨rfl, hl⟩ | ⟨hn, hl⟩
    · rw [wChunk_one]
      obtain ⟨f1, _⟩ := flat_leafy hl
      rw [f1]
      refine ⟨by rw [leafy_nrm]; exact hl, ?_⟩
      show K _ _
      rw [List.take_of_length_le (by simp)]
      exact hK _ q1 q2
    · refine ⟨.inl hn, ?_⟩
      have : chunk n l.length ((flat l).map nrm) = l.map nrm := by
        rw [← chunk_nrm]
        unfold chunk
        rw [if_neg hn, chunk_of h1 hn hl]
      rw [this]
      exact hK _ q1 q2
end Fz
namespace Fz
open Go
def panOk (ops : List AO) (q : Nat) : Bool := okDraw ops && okDraw (ops.take q) && lateOk ops q && (match ops[q]? with | some o => o.eff && o.guard.isNone | none => false)
end Fz
namespace Fz
open Go
def isLd : AOp → Bool
  | .load _ _ _ => true
  | _ => false
def wExtP (p : AP) (Q : X → Env → List Ob → Prop) (P : List Ob → Prop) : List AO → Env → List Ob → Prop
  | [], e, H => Q .normal e H
  | o :: r, e, H => if o.eff = true then
      wGuard e o.guard (wAct p e H (fun v H' => P H' ∧ wExtP p Q P r (putE e o.dst v) H') (fun _ _ => False) o.op) (wExtP p Q P r (putE e o.dst uv) H)
    else if isLd o.op = true then o.guard = none ∧ ∃ v, (∀ G, P G → evOp (evO e) G o.op = some (.val v G)) ∧ wExtP p Q P r (putE e o.dst v) H
    else wGuard e o.guard (wQ p e [] (fun v => wExtP p Q P r (putE e o.dst v) H) o.op) (wExtP p Q P r (putE e o.dst uv) H)
def AtP (call : CallT) (inl : FuncId → Bool) (P : List Ob → Prop) : List AO → List (Env × Nat × V) → Prop
  | [], [] => True
  | o :: r, (e, _, v) :: t => (o.eff = true ∨ ∀ G, P G → quietOp call inl e G o = some v) ∧ AtP call inl P r t
  | _, _ => False
def wExtL (p : AP) (Q : X → Env → List Ob → Prop) (P : List Ob → Prop) : List AO → Env → List Ob → Prop
  | [], e, H => Q .normal e H
  | o :: r, e, H => if o.eff = true then
      wGuard e o.guard (wAct p e H (fun v H' => (r.isEmpty = true ∨ P H') ∧ wExtL p Q P r (putE e o.dst v) H') (fun _ _ => False) o.op) (wExtL p Q P r (putE e o.dst uv) H)
    else if isLd o.op = true then o.guard = none ∧ ∃ v, (∀ G, P G → evOp (evO e) G o.op = some (.val v G)) ∧ wExtL p Q P r (putE e o.dst v) H
    else wGuard e o.guard (wQ p e [] (fun v => wExtL p Q P r (putE e o.dst v) H) o.op) (wExtL p Q P r (putE e o.dst uv) H)
def effN (ops : List AO) : Nat := (ops.filter fun o => o.eff).length
def lateL (ops : List AO) : Bool := ops.zipIdx.all fun p => p.1.eff || decide (hiOf ops (ancs ops) p.2 + 1 ≤ effN ops)
section
variable {p : AP} {Q : X → Env → List Ob → Prop} {P : List Ob → Prop} {e : Env} {H : List Ob}
@[simp ↓] theorem wExtP_nil : wExtP p Q P [] e H = Q .normal e H := (rfl)
@[simp ↓] theorem wExtP_eff {d : Option Nat} {op : AOp} {af : List Nat} {r : List AO} :
    wExtP p Q P (⟨d, op, none, af, true⟩ :: r) e H = wAct p e H (fun v H' => P H' ∧ wVal v fun v => wExtP p Q P r (putE e d v) H') (fun _ _ => False) op := (rfl)
@[simp ↓] theorem wExtP_ld {d : Option Nat} {a : Bool} {n : Nat} {x : Opd} {af : List Nat} {r : List AO} :
    wExtP p Q P (⟨d, .load a n x, none, af, false⟩ :: r) e H = ∃ v, (∀ G, P G → evOp (fun _ => evO e x) G (.load a n x) = some (.val v G)) ∧ wVal v fun v => wExtP p Q P r (putE e d v) H := by
  show (none = none ∧ ∃ v, _) = _
  refine propext ⟨fun h => h.2, fun h => ⟨rfl, h⟩⟩
@[simp ↓] theorem wExtP_mov {d : Option Nat} {x : Opd} {af : List Nat} {r : List AO} :
    wExtP p Q P (⟨d, .mov x, none, af, false⟩ :: r) e H = wQ p e [] (fun v => wVal v fun v => wExtP p Q P r (putE e d v) H) (.mov x) := (rfl)
@[simp ↓] theorem wExtP_nc {d : Option Nat} {x : Opd} {af : List Nat} {r : List AO} :
    wExtP p Q P (⟨d, .nilCheck x, none, af, false⟩ :: r) e H = wQ p e [] (fun v => wVal v fun v => wExtP p Q P r (putE e d v) H) (.nilCheck x) := (rfl)
@[simp ↓] theorem wExtP_fa {d : Option Nat} {k : Nat} {x : Opd} {af : List Nat} {r : List AO} :
    wExtP p Q P (⟨d, .fieldAddr k x, none, af, false⟩ :: r) e H = wQ p e [] (fun v => wVal v fun v => wExtP p Q P r (putE e d v) H) (.fieldAddr k x) := (rfl)
@[simp ↓] theorem wExtP_ex {d : Option Nat} {k : Nat} {x : Opd} {af : List Nat} {r : List AO} :
    wExtP p Q P (⟨d, .extract k x, none, af, false⟩ :: r) e H = wQ p e [] (fun v => wVal v fun v => wExtP p Q P r (putE e d v) H) (.extract k x) := (rfl)
@[simp ↓] theorem wExtP_call {d : Option Nat} {f : FuncId} {l : List Opd} {af : List Nat} {r : List AO} :
    wExtP p Q P (⟨d, .call f l, none, af, false⟩ :: r) e H = wQ p e [] (fun v => wVal v fun v => wExtP p Q P r (putE e d v) H) (.call f l) := (rfl)
@[simp ↓] theorem wExtP_bin {d : Option Nat} {o : BinOp} {q : EqK} {x y : Opd} {af : List Nat} {r : List AO} :
    wExtP p Q P (⟨d, .bin o q x y, none, af, false⟩ :: r) e H = wQ p e [] (fun v => wVal v fun v => wExtP p Q P r (putE e d v) H) (.bin o q x y) := (rfl)
@[simp ↓] theorem wExtP_un {d : Option Nat} {o : UnOp} {x : Opd} {af : List Nat} {r : List AO} :
    wExtP p Q P (⟨d, .un o x, none, af, false⟩ :: r) e H = wQ p e [] (fun v => wVal v fun v => wExtP p Q P r (putE e d v) H) (.un o x) := (rfl)
@[simp ↓] theorem wExtP_pick {d : Option Nat} {x y z : Opd} {af : List Nat} {r : List AO} :
    wExtP p Q P (⟨d, .pick x y z, none, af, false⟩ :: r) e H = wQ p e [] (fun v => wVal v fun v => wExtP p Q P r (putE e d v) H) (.pick x y z) := (rfl)
@[simp ↓] theorem wExtL_nil : wExtL p Q P [] e H = Q .normal e H := (rfl)
@[simp ↓] theorem wExtL_eff {d : Option Nat} {op : AOp} {af : List Nat} {r : List AO} :
    wExtL p Q P (⟨d, op, none, af, true⟩ :: r) e H = wAct p e H (fun v H' => (r.isEmpty = true ∨ P H') ∧ wVal v fun v => wExtL p Q P r (putE e d v) H') (fun _ _ => False) op := (rfl)
@[simp ↓] theorem wExtL_ld {d : Option Nat} {a : Bool} {n : Nat} {x : Opd} {af : List Nat} {r : List AO} :
    wExtL p Q P (⟨d, .load a n x, none, af, false⟩ :: r) e H = ∃ v, (∀ G, P G → evOp (fun _ => evO e x) G (.load a n x) = some (.val v G)) ∧ wVal v fun v => wExtL p Q P r (putE e d v) H := by
  show (none = none ∧ ∃ v, _) = _
  refine propext ⟨fun h => h.2, fun h => ⟨rfl, h⟩⟩
@[simp ↓] theorem wExtL_mov {d : Option Nat} {x : Opd} {af : List Nat} {r : List AO} :
    wExtL p Q P (⟨d, .mov x, none, af, false⟩ :: r) e H = wQ p e [] (fun v => wVal v fun v => wExtL p Q P r (putE e d v) H) (.mov x) := (rfl)
@[simp ↓] theorem wExtL_nc {d : Option Nat} {x : Opd} {af : List Nat} {r : List AO} :
    wExtL p Q P (⟨d, .nilCheck x, none, af, false⟩ :: r) e H = wQ p e [] (fun v => wVal v fun v => wExtL p Q P r (putE e d v) H) (.nilCheck x) := (rfl)
@[simp ↓] theorem wExtL_fa {d : Option Nat} {k : Nat} {x : Opd} {af : List Nat} {r : List AO} :
    wExtL p Q P (⟨d, .fieldAddr k x, none, af, false⟩ :: r) e H = wQ p e [] (fun v => wVal v fun v => wExtL p Q P r (putE e d v) H) (.fieldAddr k x) := (rfl)
@[simp ↓] theorem wExtL_ex {d : Option Nat} {k : Nat} {x : Opd} {af : List Nat} {r : List AO} :
    wExtL p Q P (⟨d, .extract k x, none, af, false⟩ :: r) e H = wQ p e [] (fun v => wVal v fun v => wExtL p Q P r (putE e d v) H) (.extract k x) := (rfl)
@[simp ↓] theorem wExtL_call {d : Option Nat} {f : FuncId} {l : List Opd} {af : List Nat} {r : List AO} :
    wExtL p Q P (⟨d, .call f l, none, af, false⟩ :: r) e H = wQ p e [] (fun v => wVal v fun v => wExtL p Q P r (putE e d v) H) (.call f l) := (rfl)
@[simp ↓] theorem wExtL_bin {d : Option Nat} {o : BinOp} {q : EqK} {x y : Opd} {af : List Nat} {r : List AO} :
    wExtL p Q P (⟨d, .bin o q x y, none, af, false⟩ :: r) e H = wQ p e [] (fun v => wVal v fun v => wExtL p Q P r (putE e d v) H) (.bin o q x y) := (rfl)
@[simp ↓] theorem wExtL_un {d : Option Nat} {o : UnOp} {x : Opd} {af : List Nat} {r : List AO} :
    wExtL p Q P (⟨d, .un o x, none, af, false⟩ :: r) e H = wQ p e [] (fun v => wVal v fun v => wExtL p Q P r (putE e d v) H) (.un o x) := (rfl)
@[simp ↓] theorem wExtL_pick {d : Option Nat} {x y z : Opd} {af : List Nat} {r : List AO} :
    wExtL p Q P (⟨d, .pick x y z, none, af, false⟩ :: r) e H = wQ p e [] (fun v => wVal v fun v => wExtL p Q P r (putE e d v) H) (.pick x y z) := (rfl)
end
end Fz
set_option maxRecDepth 100000
namespace Fz.D
open Go Go.Proofs
def w3 : WF := { nt := 60, results := [(6, none)], code :=
(.seq (.reg [ao 6 (.mov (.c (.bool false)))])
(.seq (.reg [ao 15 (.call 13 []),
mv 7 15])
(.seq (.seq (.reg [mv 16 1,
ao 17 (.len (.t 16)),
ao 18 (.bin .gtr .no (.t 17) (.c (.int .i64 40)))])
(.cond (.t 18)
(.seq (.reg [mv 19 7,
mv 6 19])
.ret)
.skip))
(.seq (.reg [ao 20 (.buildSlice 1 0 [(.int .i64 0)] []),
mv 21 1,
ao 22 (.append 1 8 none (.t 20) (.t 21)),
mv 8 22])
(.seq (.reg [mv 24 0,
mv 25 1,
mv 26 2,
ao 27 (.call 14 [(.t 24), (.t 25), (.t 26)]),
mv 23 27,
ao 28 (.extract 0 (.t 23)),
ao 29 (.extract 1 (.t 23)),
ao 30 (.extract 2 (.t 23)),
mv 9 28,
mv 10 29,
mv 11 30])
(.seq (.reg [mv 32 0,
mv 33 1,
mv 34 2,
ao 35 (.call 15 [(.t 32), (.t 33), (.t 34)]),
mv 31 35,
ao 36 (.extract 0 (.t 31)),
ao 37 (.extract 1 (.t 31)),
ao 38 (.extract 2 (.t 31)),
mv 12 36,
mv 13 37,
mv 14 38])
(.seq (.reg [mv 39 7,
mv 40 39,
ag 41 (.mov (.t 10)) 40 true,
ag 42 (.mov (.t 13)) 40 true,
ag 43 (.bin .eql .no (.t 41) (.t 42)) 40 true,
ao 44 (.pick (.t 40) (.t 43) (.c (.bool false))),
mv 45 44,
ag 46 (.mov (.t 11)) 45 true,
ag 47 (.mov (.t 14)) 45 true,
ag 48 (.bin .eql .bool (.t 46) (.t 47)) 45 true,
ao 49 (.pick (.t 45) (.t 48) (.c (.bool false))),
mv 50 49,
ag 51 (.mov (.t 9)) 50 true,
ag 52 (.mov (.t 12)) 50 true,
ag 53 (.call 16 [(.t 51), (.t 52)]) 50 true,
ao 54 (.pick (.t 50) (.t 53) (.c (.bool false))),
mv 55 54,
ag 56 (.mov (.t 1)) 55 true,
ag 57 (.mov (.t 8)) 55 true,
ag 58 (.call 16 [(.t 56), (.t 57)]) 55 true,
ao 59 (.pick (.t 55) (.t 58) (.c (.bool false))),
mv 6 59])
.ret))))))) }
def w4 : WF := { nt := 116, results := [(6, none)], code :=
(.seq (.reg [ao 6 (.mov (.c (.bool false)))])
(.seq (.reg [ao 17 (.call 13 []),
mv 7 17])
(.seq (.seq (.reg [mv 18 1,
ao 19 (.len (.t 18)),
ao 20 (.bin .gtr .no (.t 19) (.c (.int .i64 40))),
mv 21 20,
ag 22 (.mov (.t 2)) 21 false,
ag 23 (.len (.t 22)) 21 false,
ag 24 (.bin .gtr .no (.t 23) (.c (.int .i64 40))) 21 false,
ao 25 (.pick (.t 21) (.c (.bool true)) (.t 24))])
(.cond (.t 25)
(.seq (.reg [mv 26 7,
mv 6 26])
.ret)
.skip))
(.seq (.reg [mv 27 0,
ao 28 (.conv (.int .i64) (.t 27)),
mv 8 28])
(.seq (.reg [mv 29 8,
ao 30 (.call 17 [(.t 29)]),
mv 9 30])
(.seq (.seq (.reg [mv 31 9,
ao 32 (.bin .eql .no (.t 31) (.c (.str ⟨#[80, 73, 67, 75]⟩))),
mv 33 32,
ag 34 (.mov (.t 9)) 33 false,
ag 35 (.bin .eql .no (.t 34) (.c (.str ⟨#[82, 79, 76, 76]⟩))) 33 false,
ao 36 (.pick (.t 33) (.c (.bool true)) (.t 35)),
mv 37 36,
ag 38 (.mov (.t 9)) 37 false,
ag 39 (.bin .eql .no (.t 38) (.c (.str ⟨#[68, 69, 80, 84, 72]⟩))) 37 false,
ao 40 (.pick (.t 37) (.c (.bool true)) (.t 39))])
(.cond (.t 40)
(.seq (.reg [mv 41 7,
mv 6 41])
.ret)
.skip))
(.seq (.reg [mv 43 8,
mv 44 1,
ao 45 (.call 14 [(.t 43), (.t 44), (.c (.int .i64 1000))]),
mv 42 45,
ao 46 (.extract 0 (.t 42)),
ao 47 (.extract 1 (.t 42)),
ao 48 (.extract 2 (.t 42)),
mv 10 46,
mv 11 47,
mv 12 48])
(.seq (.reg [ao 49 (.buildSlice 1 0 [(.int .i64 0)] []),
mv 50 2,
ao 51 (.append 1 8 none (.t 49) (.t 50)),
mv 52 1,
ao 53 (.append 1 8 none (.t 51) (.t 52)),
mv 13 53])
(.seq (.reg [mv 55 8,
mv 56 13,
ao 57 (.call 14 [(.t 55), (.t 56), (.c (.int .i64 1000))]),
mv 54 57,
ao 58 (.extract 0 (.t 54)),
ao 59 (.extract 1 (.t 54)),
ao 60 (.extract 2 (.t 54)),
mv 14 58,
mv 15 59,
mv 16 60])
(.seq (.seq (.reg [mv 61 12,
ao 62 (.un .not (.t 61)),
mv 63 62,
ag 64 (.mov (.t 11)) 63 false,
ag 65 (.bin .neq .no (.t 64) (.c (.int .i64 0))) 63 false,
ao 66 (.pick (.t 63) (.c (.bool true)) (.t 65))])
(.cond (.t 66)
(.seq (.reg [mv 67 7,
mv 68 67,
ag 69 (.mov (.t 12)) 68 true,
ag 70 (.mov (.t 16)) 68 true,
ag 71 (.bin .eql .bool (.t 69) (.t 70)) 68 true,
ao 72 (.pick (.t 68) (.t 71) (.c (.bool false))),
mv 73 72,
ag 74 (.mov (.t 11)) 73 true,
ag 75 (.bin .eql .no (.t 74) (.c (.int .i64 (-4)))) 73 true,
ag 76 (.mov (.t 75)) 73 true,
ag 77 (.mov (.t 11)) 76 false,
ag 78 (.mov (.t 15)) 76 false,
ag 79 (.bin .eql .no (.t 77) (.t 78)) 76 false,
ag 80 (.pick (.t 76) (.c (.bool true)) (.t 79)) 73 true,
ao 81 (.pick (.t 73) (.t 80) (.c (.bool false))),
mv 6 81])
.ret)
.skip))
(.seq (.reg [mv 82 7,
mv 83 82,
ag 84 (.mov (.t 16)) 83 true,
ao 85 (.pick (.t 83) (.t 84) (.c (.bool false))),
mv 86 85,
ag 87 (.mov (.t 15)) 86 true,
ag 88 (.bin .eql .no (.t 87) (.c (.int .i64 0))) 86 true,
ao 89 (.pick (.t 86) (.t 88) (.c (.bool false))),
mv 90 89,
ag 91 (.mov (.t 14)) 90 true,
ag 92 (.len (.t 91)) 90 true,
ag 93 (.mov (.t 10)) 90 true,
ag 94 (.len (.t 93)) 90 true,
ag 95 (.mov (.t 2)) 90 true,
ag 96 (.len (.t 95)) 90 true,
ag 97 (.bin .add .no (.t 94) (.t 96)) 90 true,
ag 98 (.bin .eql .no (.t 92) (.t 97)) 90 true,
ao 99 (.pick (.t 90) (.t 98) (.c (.bool false))),
mv 100 99,
ag 101 (.mov (.t 14)) 100 true,
ag 102 (.mov (.t 2)) 100 true,
ag 103 (.len (.t 102)) 100 true,
ag 104 (.slice (.sl 1) (.t 101) none (some (.t 103)) none) 100 true,
ag 105 (.mov (.t 2)) 100 true,
ag 106 (.call 16 [(.t 104), (.t 105)]) 100 true,
ao 107 (.pick (.t 100) (.t 106) (.c (.bool false))),
mv 108 107,
ag 109 (.mov (.t 14)) 108 true,
ag 110 (.mov (.t 2)) 108 true,
ag 111 (.len (.t 110)) 108 true,
ag 112 (.slice (.sl 1) (.t 109) (some (.t 111)) none none) 108 true,
ag 113 (.mov (.t 10)) 108 true,
ag 114 (.call 16 [(.t 112), (.t 113)]) 108 true,
ao 115 (.pick (.t 108) (.t 114) (.c (.bool false))),
mv 6 115])
.ret))))))))))) }
def w5 : WF := { nt := 57, results := [(2, none)], code :=
(.seq (.reg [ao 2 (.mov (.c (.bool false)))])
(.seq (.reg [ao 5 (.call 13 []),
mv 3 5])
(.seq (.seq (.reg [mv 6 0,
ao 7 (.len (.t 6)),
ao 8 (.bin .gtr .no (.t 7) (.c (.int .i64 40))),
mv 9 8,
ag 10 (.mov (.t 0)) 9 false,
ag 11 (.len (.t 10)) 9 false,
ag 12 (.bin .lss .no (.t 11) (.c (.int .i64 4))) 9 false,
ao 13 (.pick (.t 9) (.c (.bool true)) (.t 12))])
(.cond (.t 13)
(.seq (.reg [mv 14 3,
mv 2 14])
.ret)
.skip))
(.seq (.reg [mv 15 0,
ao 16 (.call 18 [(.c (.str ⟨#[82, 79, 84]⟩)), (.t 15)]),
ao 17 (.call 18 [(.c (.str ⟨#[82, 79, 84]⟩)), (.t 16)]),
ao 18 (.call 18 [(.c (.str ⟨#[82, 79, 84]⟩)), (.t 17)]),
mv 4 18])
(.seq (.reg [mv 19 3,
mv 20 19,
ag 21 (.mov (.t 0)) 20 true,
ag 22 (.call 19 [(.c (.str ⟨#[83, 87, 65, 80]⟩)), (.c (.str ⟨#[83, 87, 65, 80]⟩)), (.t 21)]) 20 true,
ao 23 (.pick (.t 20) (.t 22) (.c (.bool false))),
mv 24 23,
ag 25 (.mov (.t 0)) 24 true,
ag 26 (.call 19 [(.c (.str ⟨#[68, 85, 80]⟩)), (.c (.str ⟨#[68, 82, 79, 80]⟩)), (.t 25)]) 24 true,
ao 27 (.pick (.t 24) (.t 26) (.c (.bool false))),
mv 28 27,
ag 29 (.mov (.t 0)) 28 true,
ag 30 (.call 19 [(.c (.str ⟨#[50, 83, 87, 65, 80]⟩)), (.c (.str ⟨#[50, 83, 87, 65, 80]⟩)), (.t 29)]) 28 true,
ao 31 (.pick (.t 28) (.t 30) (.c (.bool false))),
mv 32 31,
ag 33 (.mov (.t 0)) 32 true,
ag 34 (.call 19 [(.c (.str ⟨#[79, 86, 69, 82]⟩)), (.c (.str ⟨#[68, 82, 79, 80]⟩)), (.t 33)]) 32 true,
ao 35 (.pick (.t 32) (.t 34) (.c (.bool false))),
mv 36 35,
ag 37 (.mov (.t 0)) 36 true,
ag 38 (.call 19 [(.c (.str ⟨#[50, 68, 85, 80]⟩)), (.c (.str ⟨#[50, 68, 82, 79, 80]⟩)), (.t 37)]) 36 true,
ao 39 (.pick (.t 36) (.t 38) (.c (.bool false))),
mv 40 39,
ag 41 (.mov (.t 0)) 40 true,
ag 42 (.call 19 [(.c (.str ⟨#[50, 79, 86, 69, 82]⟩)), (.c (.str ⟨#[50, 68, 82, 79, 80]⟩)), (.t 41)]) 40 true,
ao 43 (.pick (.t 40) (.t 42) (.c (.bool false))),
mv 44 43,
ag 45 (.mov (.t 4)) 44 true,
ag 46 (.mov (.t 0)) 44 true,
ag 47 (.call 16 [(.t 45), (.t 46)]) 44 true,
ao 48 (.pick (.t 44) (.t 47) (.c (.bool false))),
mv 49 48,
ag 50 (.mov (.t 0)) 49 true,
ag 51 (.call 19 [(.c (.str ⟨#[73, 78, 86, 69, 82, 84]⟩)), (.c (.str ⟨#[73, 78, 86, 69, 82, 84]⟩)), (.t 50)]) 49 true,
ao 52 (.pick (.t 49) (.t 51) (.c (.bool false))),
mv 53 52,
ag 54 (.mov (.t 0)) 53 true,
ag 55 (.call 19 [(.c (.str ⟨#[78, 69, 71, 65, 84, 69]⟩)), (.c (.str ⟨#[78, 69, 71, 65, 84, 69]⟩)), (.t 54)]) 53 true,
ao 56 (.pick (.t 53) (.t 55) (.c (.bool false))),
mv 2 56])
.ret))))) }
def w6 : WF := { nt := 134, results := [(4, none)], code :=
(.seq (.reg [ao 4 (.mov (.c (.bool false)))])
(.seq (.reg [ao 18 (.call 13 []),
mv 5 18])
(.seq (.reg [mv 19 0,
mv 20 1,
ao 21 (.buildSlice 1 2 [(.int .i64 0)] [(0, 1, (.t 19)), (1, 1, (.t 20))]),
mv 6 21])
(.seq (.reg [mv 22 6,
ao 23 (.call 20 [(.c (.str ⟨#[43]⟩)), (.t 22)]),
mv 7 23])
(.seq (.reg [mv 24 6,
ao 25 (.call 20 [(.c (.str ⟨#[77, 73, 78]⟩)), (.t 24)]),
mv 8 25])
(.seq (.reg [mv 26 6,
ao 27 (.call 20 [(.c (.str ⟨#[77, 65, 88]⟩)), (.t 26)]),
mv 9 27])
(.seq (.reg [mv 28 6,
ao 29 (.call 20 [(.c (.str ⟨#[79, 82]⟩)), (.t 28)]),
mv 30 6,
ao 31 (.call 20 [(.c (.str ⟨#[65, 78, 68]⟩)), (.t 30)]),
mv 32 6,
ao 33 (.call 20 [(.c (.str ⟨#[88, 79, 82]⟩)), (.t 32)]),
ao 34 (.bin .add .no (.t 31) (.t 33)),
ao 35 (.bin .eql .no (.t 29) (.t 34)),
mv 10 35])
(.seq (.reg [mv 36 6,
ao 37 (.call 20 [(.c (.str ⟨#[60]⟩)), (.t 36)]),
mv 38 6,
ao 39 (.call 20 [(.c (.str ⟨#[62]⟩)), (.t 38)]),
ao 40 (.bin .add .no (.t 37) (.t 39)),
mv 41 6,
ao 42 (.call 20 [(.c (.str ⟨#[61]⟩)), (.t 41)]),
ao 43 (.bin .add .no (.t 40) (.t 42)),
mv 11 43])
(.seq (.reg [mv 44 7,
mv 45 1,
ao 46 (.buildSlice 1 2 [(.int .i64 0)] [(0, 1, (.t 44)), (1, 1, (.t 45))]),
ao 47 (.call 20 [(.c (.str ⟨#[45]⟩)), (.t 46)]),
mv 48 0,
ao 49 (.bin .eql .no (.t 47) (.t 48)),
mv 12 49])
(.seq (.reg [mv 50 6,
ao 51 (.call 20 [(.c (.str ⟨#[60, 62]⟩)), (.t 50)]),
mv 52 6,
ao 53 (.call 20 [(.c (.str ⟨#[61]⟩)), (.t 52)]),
ao 54 (.bin .sub .no (.c (.int .i64 (-1))) (.t 53)),
ao 55 (.bin .eql .no (.t 51) (.t 54)),
mv 13 55])
(.seq (.reg [ao 57 (.call 21 [(.c (.str ⟨#[47, 77, 79, 68]⟩))]),
mv 58 6,
ao 59 (.call 14 [(.t 57), (.t 58), (.c (.int .i64 9))]),
mv 56 59,
ao 60 (.extract 0 (.t 56)),
ao 61 (.extract 1 (.t 56)),
ao 62 (.extract 2 (.t 56)),
mv 14 60,
mv 15 61,
mv 16 62])
(.seq (.calm [mv 63 1,
⟨(some 64), .bin .eql .no (.t 63) (.c (.int .i64 0)), none, [0], false⟩,
⟨(some 65), .mov (.t 64), none, [1], false⟩,
⟨(some 66), .mov (.t 15), some (65, true), [2], false⟩,
⟨(some 67), .bin .eql .no (.t 66) (.c (.int .i64 (-10))), some (65, true), [3, 2], false⟩,
⟨(some 68), .pick (.t 65) (.t 67) (.c (.bool false)), none, [2, 4], false⟩,
⟨(some 69), .mov (.t 68), none, [5, 2], false⟩,
⟨(some 70), .mov (.t 15), some (69, false), [6], false⟩,
⟨(some 71), .bin .eql .no (.t 70) (.c (.int .i64 0)), some (69, false), [7, 6], false⟩,
⟨(some 72), .mov (.t 71), some (69, false), [8, 6, 6], false⟩,
⟨(some 73), .mov (.t 14), some (72, true), [9], false⟩,
⟨(some 74), .len (.t 73), some (72, true), [10, 9], false⟩,
⟨(some 75), .bin .eql .no (.t 74) (.c (.int .i64 2)), some (72, true), [11, 9], false⟩,
⟨(some 76), .pick (.t 72) (.t 75) (.c (.bool false)), some (69, false), [9, 12, 6], false⟩,
⟨(some 77), .mov (.t 76), some (69, false), [13, 9, 6], false⟩,
⟨(some 78), .mov (.t 14), some (77, true), [14], false⟩,
⟨(some 79), .indexSl 1 (.t 78) (.c (.int .i64 1)), some (77, true), [15, 14], false⟩,
⟨(some 80), .load false 1 (.t 79), some (77, true), [16, 14], false⟩,
⟨(some 81), .mov (.t 1), some (77, true), [14], false⟩,
⟨(some 82), .bin .mul .no (.t 80) (.t 81), some (77, true), [17, 18, 14], false⟩,
⟨(some 83), .mov (.t 14), some (77, true), [14], false⟩,
⟨(some 84), .indexSl 1 (.t 83) (.c (.int .i64 0)), some (77, true), [20, 14], false⟩,
⟨(some 85), .load false 1 (.t 84), some (77, true), [21, 14], false⟩,
⟨(some 86), .bin .add .no (.t 82) (.t 85), some (77, true), [19, 22, 14], false⟩,
⟨(some 87), .mov (.t 0), some (77, true), [14], false⟩,
⟨(some 88), .bin .eql .no (.t 86) (.t 87), some (77, true), [23, 24, 14], false⟩,
⟨(some 89), .pick (.t 77) (.t 88) (.c (.bool false)), some (69, false), [14, 25, 6], false⟩,
⟨(some 90), .pick (.t 69) (.c (.bool true)) (.t 89), none, [6, 26], false⟩,
⟨(some 17), .mov (.t 90), none, [27, 14, 0, 1, 2, 3, 4, 5, 6, 7, 8, 9, 10, 11, 12, 13, 14, 15, 16, 17, 18, 19, 20, 21, 22, 23, 24, 25, 26, 27], false⟩])
(.seq (.reg [mv 91 5,
mv 92 91,
ag 93 (.mov (.t 7)) 92 true,
ag 94 (.mov (.t 0)) 92 true,
ag 95 (.mov (.t 1)) 92 true,
ag 96 (.bin .add .no (.t 94) (.t 95)) 92 true,
ag 97 (.bin .eql .no (.t 93) (.t 96)) 92 true,
ao 98 (.pick (.t 92) (.t 97) (.c (.bool false))),
mv 99 98,
ag 100 (.mov (.t 8)) 99 true,
ag 101 (.mov (.t 0)) 99 true,
ag 102 (.mov (.t 1)) 99 true,
ag 103 (.min [(.t 101), (.t 102)]) 99 true,
ag 104 (.bin .eql .no (.t 100) (.t 103)) 99 true,
ao 105 (.pick (.t 99) (.t 104) (.c (.bool false))),
mv 106 105,
ag 107 (.mov (.t 9)) 106 true,
ag 108 (.mov (.t 0)) 106 true,
ag 109 (.mov (.t 1)) 106 true,
ag 110 (.max [(.t 108), (.t 109)]) 106 true,
ag 111 (.bin .eql .no (.t 107) (.t 110)) 106 true,
ao 112 (.pick (.t 106) (.t 111) (.c (.bool false))),
mv 113 112,
ag 114 (.mov (.t 8)) 113 true,
ag 115 (.mov (.t 9)) 113 true,
ag 116 (.bin .leq .no (.t 114) (.t 115)) 113 true,
ao 117 (.pick (.t 113) (.t 116) (.c (.bool false))),
mv 118 117,
ag 119 (.mov (.t 10)) 118 true,
ao 120 (.pick (.t 118) (.t 119) (.c (.bool false))),
mv 121 120,
ag 122 (.mov (.t 11)) 121 true,
ag 123 (.bin .eql .no (.t 122) (.c (.int .i64 (-1)))) 121 true,
ao 124 (.pick (.t 121) (.t 123) (.c (.bool false))),
mv 125 124,
ag 126 (.mov (.t 12)) 125 true,
ao 127 (.pick (.t 125) (.t 126) (.c (.bool false))),
mv 128 127,
ag 129 (.mov (.t 13)) 128 true,
ao 130 (.pick (.t 128) (.t 129) (.c (.bool false))),
mv 131 130,
ag 132 (.mov (.t 17)) 131 true,
ao 133 (.pick (.t 131) (.t 132) (.c (.bool false))),
mv 4 133])
.ret))))))))))))) }
def w7 : WF := { nt := 123, results := [(4, none)], code :=
(.seq (.reg [ao 4 (.mov (.c (.bool false)))])
(.seq (.reg [ao 17 (.call 13 []),
mv 5 17])
(.seq (.seq (.reg [mv 18 1,
ao 19 (.len (.t 18)),
ao 20 (.bin .gtr .no (.t 19) (.c (.int .i64 40)))])
(.cond (.t 20)
(.seq (.reg [mv 21 5,
mv 4 21])
.ret)
.skip))
(.seq (.reg [mv 23 0,
ao 24 (.conv (.int .i64) (.t 23)),
mv 25 1,
ao 26 (.call 14 [(.t 24), (.t 25), (.c (.int .i64 1000))]),
mv 22 26,
ao 27 (.extract 0 (.t 22)),
ao 28 (.extract 1 (.t 22)),
ao 29 (.extract 2 (.t 22)),
mv 6 27,
mv 7 28,
mv 8 29])
(.seq (.reg [mv 31 0,
ao 32 (.conv (.int .i64) (.t 31)),
mv 33 1,
ao 34 (.call 14 [(.t 32), (.t 33), (.c (.int .i64 0))]),
mv 30 34,
ao 35 (.extract 0 (.t 30)),
ao 36 (.extract 1 (.t 30)),
ao 37 (.extract 2 (.t 30)),
mv 9 35,
mv 10 36,
mv 11 37])
(.seq (.reg [mv 39 0,
ao 40 (.conv (.int .i64) (.t 39)),
ao 41 (.call 14 [(.t 40), (.c (.list [] true)), (.c (.int .i64 1000))]),
mv 38 41,
ao 42 (.extract 0 (.t 38)),
ao 43 (.extract 1 (.t 38)),
ao 44 (.extract 2 (.t 38)),
mv 12 42,
mv 13 43,
mv 14 44])
(.seq (.seq (.reg [mv 45 8,
ao 46 (.un .not (.t 45))])
(.cond (.t 46)
(.seq (.reg [mv 47 5,
mv 48 47,
ag 49 (.mov (.t 7)) 48 true,
ag 50 (.bin .eql .no (.t 49) (.c (.int .i64 0))) 48 true,
ao 51 (.pick (.t 48) (.t 50) (.c (.bool false))),
mv 52 51,
ag 53 (.mov (.t 10)) 52 true,
ag 54 (.bin .eql .no (.t 53) (.c (.int .i64 0))) 52 true,
ao 55 (.pick (.t 52) (.t 54) (.c (.bool false))),
mv 56 55,
ag 57 (.mov (.t 6)) 56 true,
ag 58 (.len (.t 57)) 56 true,
ag 59 (.bin .eql .no (.t 58) (.c (.int .i64 0))) 56 true,
ao 60 (.pick (.t 56) (.t 59) (.c (.bool false))),
mv 4 60])
.ret)
.skip))
(.seq (.seq (.reg [mv 61 7,
ao 62 (.bin .neq .no (.t 61) (.c (.int .i64 0)))])
(.cond (.t 62)
(.seq (.reg [mv 63 5,
mv 64 63,
ag 65 (.mov (.t 10)) 64 true,
ag 66 (.mov (.t 7)) 64 true,
ag 67 (.bin .eql .no (.t 65) (.t 66)) 64 true,
ao 68 (.pick (.t 64) (.t 67) (.c (.bool false))),
mv 69 68,
ag 70 (.mov (.t 7)) 69 true,
ag 71 (.bin .eql .no (.t 70) (.c (.int .i64 (-4)))) 69 true,
ag 72 (.mov (.t 71)) 69 true,
ag 73 (.mov (.t 7)) 72 false,
ag 74 (.bin .eql .no (.t 73) (.c (.int .i64 (-10)))) 72 false,
ag 75 (.pick (.t 72) (.c (.bool true)) (.t 74)) 69 true,
ag 76 (.mov (.t 75)) 69 true,
ag 77 (.mov (.t 7)) 76 false,
ag 78 (.bin .eql .no (.t 77) (.c (.int .i64 (-11)))) 76 false,
ag 79 (.pick (.t 76) (.c (.bool true)) (.t 78)) 69 true,
ao 80 (.pick (.t 69) (.t 79) (.c (.bool false))),
mv 4 80])
.ret)
.skip))
(.seq (.reg [mv 81 0,
ao 82 (.conv (.int .i64) (.t 81)),
ao 83 (.call 17 [(.t 82)]),
mv 15 83])
(.seq (.reg [mv 84 15,
ao 85 (.bin .eql .no (.t 84) (.c (.str ⟨#[68, 69, 80, 84, 72]⟩))),
mv 86 85,
ag 87 (.mov (.t 15)) 86 false,
ag 88 (.bin .eql .no (.t 87) (.c (.str ⟨#[84, 82, 85, 69]⟩))) 86 false,
ao 89 (.pick (.t 86) (.c (.bool true)) (.t 88)),
mv 90 89,
ag 91 (.mov (.t 15)) 90 false,
ag 92 (.bin .eql .no (.t 91) (.c (.str ⟨#[70, 65, 76, 83, 69]⟩))) 90 false,
ao 93 (.pick (.t 90) (.c (.bool true)) (.t 92)),
mv 16 93])
(.seq (.reg [mv 94 5,
mv 95 94,
ag 96 (.mov (.t 6)) 95 true,
ag 97 (.len (.t 96)) 95 true,
ag 98 (.bin .eql .no (.t 97) (.c (.int .i64 0))) 95 true,
ag 99 (.mov (.t 98)) 95 true,
ag 100 (.mov (.t 10)) 99 true,
ag 101 (.bin .eql .no (.t 100) (.c (.int .i64 0))) 99 true,
ag 102 (.pick (.t 99) (.t 101) (.c (.bool false))) 95 true,
ag 103 (.mov (.t 102)) 95 true,
ag 104 (.mov (.t 6)) 103 false,
ag 105 (.len (.t 104)) 103 false,
ag 106 (.bin .gtr .no (.t 105) (.c (.int .i64 0))) 103 false,
ag 107 (.mov (.t 106)) 103 false,
ag 108 (.mov (.t 10)) 107 true,
ag 109 (.bin .eql .no (.t 108) (.c (.int .i64 (-3)))) 107 true,
ag 110 (.pick (.t 107) (.t 109) (.c (.bool false))) 103 false,
ag 111 (.pick (.t 103) (.c (.bool true)) (.t 110)) 95 true,
ao 112 (.pick (.t 95) (.t 111) (.c (.bool false))),
mv 113 112,
ag 114 (.mov (.t 13)) 113 true,
ag 115 (.bin .eql .no (.t 114) (.c (.int .i64 0))) 113 true,
ag 116 (.mov (.t 16)) 113 true,
ag 117 (.bin .eql .bool (.t 115) (.t 116)) 113 true,
ao 118 (.pick (.t 113) (.t 117) (.c (.bool false))),
mv 119 118,
ag 120 (.call 22 [(.c (.bool true))]) 119 true,
ag 121 (.bin .eql .no (.t 120) (.c (.int .i64 (-1)))) 119 true,
ao 122 (.pick (.t 119) (.t 121) (.c (.bool false))),
mv 4 122])
.ret))))))))))) }
def w8 : WF := { nt := 127, results := [(6, none)], code :=
(.seq (.reg [ao 3 (.box (.t 0)),
ao 4 (.box (.t 1)),
ao 6 (.mov (.c (.bool false)))])
(.seq (.reg [ao 20 (.call 23 []),
mv 7 20])
(.seq (.seq (.reg [ao 21 (.load true 15 (.t 3)),
ao 22 (.load true 5 (.t 4)),
ao 23 (.call 24 [(.t 21), (.t 22)]),
ao 24 (.un .not (.t 23))])
(.cond (.t 24)
(.seq (.reg [mv 25 7,
mv 6 25])
.ret)
.skip))
(.seq (.reg [ao 27 (.load true 15 (.t 3)),
ao 28 (.load true 5 (.t 4)),
mv 29 2,
ao 30 (.call 25 [(.t 27), (.t 28), (.c (.int .i64 2)), (.t 29)]),
mv 26 30,
ao 31 (.extract 0 (.t 26)),
ao 32 (.extract 1 (.t 26)),
ao 8 (.alloc [(.list [] true), (.list [] true), (.list [] true), (.list [] true), (.list [] true), (.list [] true), (.list [] true), (.int .i64 0), (.int .i64 0), (.int .i64 0), (.int .i64 0), (.int .i64 0), (.int .i64 0), (.bool false), (.bool false)]),
an (.store 15 (.t 8) (.t 31)),
mv 9 32])
(.seq (.calm [ao 34 (.load true 15 (.t 8)),
ao 35 (.load true 5 (.t 4)),
ao 36 (.call 21 [(.c (.str ⟨#[62, 82]⟩))]),
⟨(some 37), .call 25 [(.t 34), (.t 35), (.t 36), (.c (.int .i64 0))], none, [0, 1, 2, 2], false⟩,
⟨(some 33), .mov (.t 37), none, [3], false⟩,
⟨(some 38), .extract 0 (.t 33), none, [4], false⟩,
⟨(some 39), .extract 1 (.t 33), none, [4], false⟩,
⟨(some 10), .alloc [(.list [] true), (.list [] true), (.list [] true), (.list [] true), (.list [] true), (.list [] true), (.list [] true), (.int .i64 0), (.int .i64 0), (.int .i64 0), (.int .i64 0), (.int .i64 0), (.int .i64 0), (.bool false), (.bool false)], none, [], true⟩,
⟨none, .store 15 (.t 10) (.t 38), none, [7, 5, 3, 0, 1, 2, 3, 4, 5, 7], true⟩,
⟨(some 11), .mov (.t 39), none, [6, 8, 0, 1, 2, 3, 4, 5, 6, 7, 8], false⟩])
(.seq (.calm [ao 41 (.load true 15 (.t 10)),
ao 42 (.load true 5 (.t 4)),
ao 43 (.call 21 [(.c (.str ⟨#[82, 64]⟩))]),
⟨(some 44), .call 25 [(.t 41), (.t 42), (.t 43), (.c (.int .i64 0))], none, [0, 1, 2, 2], false⟩,
⟨(some 40), .mov (.t 44), none, [3], false⟩,
⟨(some 45), .extract 0 (.t 40), none, [4], false⟩,
⟨(some 46), .extract 1 (.t 40), none, [4], false⟩,
⟨(some 12), .alloc [(.list [] true), (.list [] true), (.list [] true), (.list [] true), (.list [] true), (.list [] true), (.list [] true), (.int .i64 0), (.int .i64 0), (.int .i64 0), (.int .i64 0), (.int .i64 0), (.int .i64 0), (.bool false), (.bool false)], none, [], true⟩,
⟨none, .store 15 (.t 12) (.t 45), none, [7, 5, 3, 0, 1, 2, 3, 4, 5, 7], true⟩,
⟨(some 13), .mov (.t 46), none, [6, 8, 0, 1, 2, 3, 4, 5, 6, 7, 8], false⟩])
(.seq (.calm [ao 48 (.load true 15 (.t 12)),
ao 49 (.load true 5 (.t 4)),
ao 50 (.call 21 [(.c (.str ⟨#[68, 82, 79, 80]⟩))]),
⟨(some 51), .call 25 [(.t 48), (.t 49), (.t 50), (.c (.int .i64 0))], none, [0, 1, 2, 2], false⟩,
⟨(some 47), .mov (.t 51), none, [3], false⟩,
⟨(some 52), .extract 0 (.t 47), none, [4], false⟩,
⟨(some 53), .extract 1 (.t 47), none, [4], false⟩,
⟨(some 14), .alloc [(.list [] true), (.list [] true), (.list [] true), (.list [] true), (.list [] true), (.list [] true), (.list [] true), (.int .i64 0), (.int .i64 0), (.int .i64 0), (.int .i64 0), (.int .i64 0), (.int .i64 0), (.bool false), (.bool false)], none, [], true⟩,
⟨none, .store 15 (.t 14) (.t 52), none, [7, 5, 3, 0, 1, 2, 3, 4, 5, 7], true⟩,
⟨(some 15), .mov (.t 53), none, [6, 8, 0, 1, 2, 3, 4, 5, 6, 7, 8], false⟩])
(.seq (.calm [ao 55 (.load true 15 (.t 14)),
ao 56 (.load true 5 (.t 4)),
ao 57 (.call 21 [(.c (.str ⟨#[82, 62]⟩))]),
⟨(some 58), .call 25 [(.t 55), (.t 56), (.t 57), (.c (.int .i64 0))], none, [0, 1, 2, 2], false⟩,
⟨(some 54), .mov (.t 58), none, [3], false⟩,
⟨(some 59), .extract 0 (.t 54), none, [4], false⟩,
⟨(some 60), .extract 1 (.t 54), none, [4], false⟩,
⟨(some 16), .alloc [(.list [] true), (.list [] true), (.list [] true), (.list [] true), (.list [] true), (.list [] true), (.list [] true), (.int .i64 0), (.int .i64 0), (.int .i64 0), (.int .i64 0), (.int .i64 0), (.int .i64 0), (.bool false), (.bool false)], none, [], true⟩,
⟨none, .store 15 (.t 16) (.t 59), none, [7, 5, 3, 0, 1, 2, 3, 4, 5, 7], true⟩,
⟨(some 17), .mov (.t 60), none, [6, 8, 0, 1, 2, 3, 4, 5, 6, 7, 8], false⟩])
(.seq (.calm [ao 62 (.load true 15 (.t 16)),
ao 63 (.load true 5 (.t 4)),
ao 64 (.call 21 [(.c (.str ⟨#[68, 82, 79, 80]⟩))]),
⟨(some 65), .call 25 [(.t 62), (.t 63), (.t 64), (.c (.int .i64 0))], none, [0, 1, 2, 2], false⟩,
⟨(some 61), .mov (.t 65), none, [3], false⟩,
⟨(some 66), .extract 0 (.t 61), none, [4], false⟩,
⟨(some 67), .extract 1 (.t 61), none, [4], false⟩,
⟨(some 18), .alloc [(.list [] true), (.list [] true), (.list [] true), (.list [] true), (.list [] true), (.list [] true), (.list [] true), (.int .i64 0), (.int .i64 0), (.int .i64 0), (.int .i64 0), (.int .i64 0), (.int .i64 0), (.bool false), (.bool false)], none, [], true⟩,
⟨none, .store 15 (.t 18) (.t 66), none, [7, 5, 3, 0, 1, 2, 3, 4, 5, 7], true⟩,
⟨(some 19), .mov (.t 67), none, [6, 8, 0, 1, 2, 3, 4, 5, 6, 7, 8], false⟩])
(.seq (.seq (.reg [mv 68 9,
ao 69 (.bin .neq .no (.t 68) (.c (.int .i64 0))),
mv 70 69,
ag 71 (.mov (.t 11)) 70 false,
ag 72 (.bin .neq .no (.t 71) (.c (.int .i64 0))) 70 false,
ao 73 (.pick (.t 70) (.c (.bool true)) (.t 72))])
(.cond (.t 73)
(.seq (.reg [mv 74 7,
mv 75 74,
ag 76 (.mov (.t 9)) 75 true,
ag 77 (.bin .eql .no (.t 76) (.c (.int .i64 (-3)))) 75 true,
ag 78 (.mov (.t 77)) 75 true,
ag 79 (.mov (.t 11)) 78 false,
ag 80 (.bin .eql .no (.t 79) (.c (.int .i64 (-5)))) 78 false,
ag 81 (.pick (.t 78) (.c (.bool true)) (.t 80)) 75 true,
ao 82 (.pick (.t 75) (.t 81) (.c (.bool false))),
mv 6 82])
.ret)
.skip))
(.seq (.reg [mv 83 7,
mv 84 83,
ag 85 (.mov (.t 13)) 84 true,
ag 86 (.bin .eql .no (.t 85) (.c (.int .i64 0))) 84 true,
ao 87 (.pick (.t 84) (.t 86) (.c (.bool false))),
mv 88 87,
ag 89 (.mov (.t 15)) 88 true,
ag 90 (.bin .eql .no (.t 89) (.c (.int .i64 0))) 88 true,
ao 91 (.pick (.t 88) (.t 90) (.c (.bool false))),
mv 92 91,
ag 93 (.mov (.t 17)) 92 true,
ag 94 (.bin .eql .no (.t 93) (.c (.int .i64 0))) 92 true,
ao 95 (.pick (.t 92) (.t 94) (.c (.bool false))),
mv 96 95,
ag 97 (.mov (.t 19)) 96 true,
ag 98 (.bin .eql .no (.t 97) (.c (.int .i64 0))) 96 true,
ao 99 (.pick (.t 96) (.t 98) (.c (.bool false))),
mv 100 99,
ag 101 (.fieldAddr 1 (.t 12)) 100 true,
ag 102 (.load false 1 (.t 101)) 100 true,
ag 103 (.fieldAddr 1 (.t 12)) 100 true,
ag 104 (.load false 1 (.t 103)) 100 true,
ag 105 (.len (.t 104)) 100 true,
ag 106 (.bin .sub .no (.t 105) (.c (.int .i64 1))) 100 true,
ag 107 (.indexSl 1 (.t 102) (.t 106)) 100 true,
ag 108 (.load false 1 (.t 107)) 100 true,
ag 109 (.mov (.t 2)) 100 true,
ag 110 (.bin .eql .no (.t 108) (.t 109)) 100 true,
ao 111 (.pick (.t 100) (.t 110) (.c (.bool false))),
mv 112 111,
ag 113 (.load true 15 (.t 14)) 112 true,
ag 114 (.load true 15 (.t 10)) 112 true,
ag 115 (.call 26 [(.t 113), (.t 114)]) 112 true,
ao 116 (.pick (.t 112) (.t 115) (.c (.bool false))),
mv 117 116,
ag 118 (.load true 15 (.t 16)) 117 true,
ag 119 (.load true 15 (.t 8)) 117 true,
ag 120 (.call 26 [(.t 118), (.t 119)]) 117 true,
ao 121 (.pick (.t 117) (.t 120) (.c (.bool false))),
mv 122 121,
ag 123 (.load true 15 (.t 18)) 122 true,
ag 124 (.load true 15 (.t 3)) 122 true,
ag 125 (.call 26 [(.t 123), (.t 124)]) 122 true,
ao 126 (.pick (.t 122) (.t 125) (.c (.bool false))),
mv 6 126])
.ret))))))))))) }
def w9 : WF := { nt := 167, results := [(6, none)], code :=
(.seq (.reg [ao 3 (.box (.t 0)),
ao 4 (.box (.t 1)),
ao 5 (.box (.t 2)),
ao 6 (.mov (.c (.bool false)))])
(.seq (.reg [ao 25 (.call 23 []),
mv 7 25])
(.seq (.seq (.reg [ao 26 (.load true 15 (.t 3)),
ao 27 (.load true 5 (.t 4)),
ao 28 (.call 24 [(.t 26), (.t 27)]),
ao 29 (.un .not (.t 28))])
(.cond (.t 29)
(.seq (.reg [mv 30 7,
mv 6 30])
.ret)
.skip))
(.seq (.reg [ao 31 (.indexPA 2 1 (.t 5) (.c (.int .i64 0))),
ao 32 (.load false 1 (.t 31)),
mv 8 32])
(.seq (.reg [ao 33 (.indexPA 2 1 (.t 5) (.c (.int .i64 1))),
ao 34 (.load false 1 (.t 33)),
ao 35 (.conv (.int .u64) (.t 34)),
ao 36 (.bin .rem .no (.t 35) (.c (.int .u64 20))),
ao 37 (.conv (.int .i64) (.t 36)),
ao 38 (.bin .add .no (.c (.int .i64 1)) (.t 37)),
mv 9 38])
(.seq (.reg [ao 40 (.load true 15 (.t 3)),
ao 41 (.load true 5 (.t 4)),
mv 42 8,
mv 43 9,
ao 44 (.bin .add .no (.t 42) (.t 43)),
ao 45 (.call 25 [(.t 40), (.t 41), (.c (.int .i64 2)), (.t 44)]),
mv 39 45,
ao 46 (.extract 0 (.t 39)),
ao 47 (.extract 1 (.t 39)),
ao 10 (.alloc [(.list [] true), (.list [] true), (.list [] true), (.list [] true), (.list [] true), (.list [] true), (.list [] true), (.int .i64 0), (.int .i64 0), (.int .i64 0), (.int .i64 0), (.int .i64 0), (.int .i64 0), (.bool false), (.bool false)]),
an (.store 15 (.t 10) (.t 46)),
mv 11 47])
(.seq (.reg [ao 49 (.load true 15 (.t 10)),
ao 50 (.load true 5 (.t 4)),
mv 51 8,
ao 52 (.call 25 [(.t 49), (.t 50), (.c (.int .i64 2)), (.t 51)]),
mv 48 52,
ao 53 (.extract 0 (.t 48)),
ao 54 (.extract 1 (.t 48)),
ao 12 (.alloc [(.list [] true), (.list [] true), (.list [] true), (.list [] true), (.list [] true), (.list [] true), (.list [] true), (.int .i64 0), (.int .i64 0), (.int .i64 0), (.int .i64 0), (.int .i64 0), (.int .i64 0), (.bool false), (.bool false)]),
an (.store 15 (.t 12) (.t 53)),
mv 13 54])
(.seq (.reg [ao 56 (.load true 15 (.t 12)),
ao 57 (.load true 5 (.t 4)),
ao 58 (.call 25 [(.t 56), (.t 57), (.c (.int .i64 5)), (.c (.int .i64 400))]),
mv 55 58,
ao 59 (.extract 0 (.t 55)),
ao 60 (.extract 1 (.t 55)),
ao 14 (.alloc [(.list [] true), (.list [] true), (.list [] true), (.list [] true), (.list [] true), (.list [] true), (.list [] true), (.int .i64 0), (.int .i64 0), (.int .i64 0), (.int .i64 0), (.int .i64 0), (.int .i64 0), (.bool false), (.bool false)]),
an (.store 15 (.t 14) (.t 59)),
mv 15 60])
(.seq (.seq (.reg [mv 61 11,
ao 62 (.bin .neq .no (.t 61) (.c (.int .i64 0))),
mv 63 62,
ag 64 (.mov (.t 13)) 63 false,
ag 65 (.bin .neq .no (.t 64) (.c (.int .i64 0))) 63 false,
ao 66 (.pick (.t 63) (.c (.bool true)) (.t 65)),
mv 67 66,
ag 68 (.mov (.t 15)) 67 false,
ag 69 (.bin .neq .no (.t 68) (.c (.int .i64 0))) 67 false,
ao 70 (.pick (.t 67) (.c (.bool true)) (.t 69))])
(.cond (.t 70)
(.seq (.reg [mv 71 7,
mv 6 71])
.ret)
.skip))
(.seq (.seq (.reg [ao 16 (.mov (.c (.int .i64 1)))])
(.block 0 (.loop (.seq (.seq (.reg [mv 72 16,
mv 73 9,
ao 74 (.bin .lss .no (.t 72) (.t 73))])
(.cond (.t 74)
.skip
(.exit 0)))
(.seq (.block 1 (.seq (.reg [ao 78 (.load true 15 (.t 14)),
ao 79 (.load true 5 (.t 4)),
ao 80 (.call 25 [(.t 78), (.t 79), (.c (.int .i64 6)), (.c (.int .i64 300))]),
mv 77 80,
ao 81 (.extract 0 (.t 77)),
ao 82 (.extract 1 (.t 77)),
ao 17 (.alloc [(.list [] true), (.list [] true), (.list [] true), (.list [] true), (.list [] true), (.list [] true), (.list [] true), (.int .i64 0), (.int .i64 0), (.int .i64 0), (.int .i64 0), (.int .i64 0), (.int .i64 0), (.bool false), (.bool false)]),
an (.store 15 (.t 17) (.t 81)),
mv 18 82])
(.seq (.seq (.reg [mv 83 18,
ao 84 (.bin .neq .no (.t 83) (.c (.int .i64 0))),
mv 85 84,
ag 86 (.fieldAddr 7 (.t 17)) 85 false,
ag 87 (.load false 1 (.t 86)) 85 false,
ag 88 (.bin .neq .no (.t 87) (.c (.int .i64 300))) 85 false,
ao 89 (.pick (.t 85) (.c (.bool true)) (.t 88)),
mv 90 89,
ag 91 (.fieldAddr 2 (.t 17)) 90 false,
ag 92 (.load false 1 (.t 91)) 90 false,
ag 93 (.len (.t 92)) 90 false,
ag 94 (.fieldAddr 2 (.t 3)) 90 false,
ag 95 (.load false 1 (.t 94)) 90 false,
ag 96 (.len (.t 95)) 90 false,
ag 97 (.bin .add .no (.t 96) (.c (.int .i64 3))) 90 false,
ag 98 (.bin .neq .no (.t 93) (.t 97)) 90 false,
ao 99 (.pick (.t 90) (.c (.bool true)) (.t 98)),
mv 100 99,
ag 101 (.fieldAddr 2 (.t 17)) 100 false,
ag 102 (.load false 1 (.t 101)) 100 false,
ag 103 (.fieldAddr 2 (.t 17)) 100 false,
ag 104 (.load false 1 (.t 103)) 100 false,
ag 105 (.len (.t 104)) 100 false,
ag 106 (.bin .sub .no (.t 105) (.c (.int .i64 1))) 100 false,
ag 107 (.indexSl 2 (.t 102) (.t 106)) 100 false,
ag 108 (.fieldAddr 0 (.t 107)) 100 false,
ag 109 (.load false 1 (.t 108)) 100 false,
ag 110 (.mov (.t 8)) 100 false,
ag 111 (.mov (.t 16)) 100 false,
ag 112 (.bin .add .no (.t 110) (.t 111)) 100 false,
ag 113 (.bin .neq .no (.t 109) (.t 112)) 100 false,
ao 114 (.pick (.t 100) (.c (.bool true)) (.t 113))])
(.cond (.t 114)
(.seq (.reg [ao 6 (.mov (.c (.bool false)))])
.ret)
.skip))
(.reg [ao 115 (.load true 15 (.t 17)),
an (.store 15 (.t 14) (.t 115))]))))
(.reg [mv 75 16,
ao 76 (.bin .add .no (.t 75) (.c (.int .i64 1))),
mv 16 76]))))))
(.seq (.reg [ao 116 (.fieldAddr 7 (.t 3)),
ao 117 (.load false 1 (.t 116)),
ao 118 (.fieldAddr 7 (.t 14)),
an (.store 1 (.t 118) (.t 117))])
(.seq (.reg [ao 120 (.load true 15 (.t 14)),
ao 121 (.load true 5 (.t 4)),
ao 122 (.call 25 [(.t 120), (.t 121), (.c (.int .i64 6)), (.c (.int .i64 300))]),
mv 119 122,
ao 123 (.extract 0 (.t 119)),
ao 124 (.extract 1 (.t 119)),
ao 19 (.alloc [(.list [] true), (.list [] true), (.list [] true), (.list [] true), (.list [] true), (.list [] true), (.list [] true), (.int .i64 0), (.int .i64 0), (.int .i64 0), (.int .i64 0), (.int .i64 0), (.int .i64 0), (.bool false), (.bool false)]),
an (.store 15 (.t 19) (.t 123)),
mv 20 124])
(.seq (.calm [ao 126 (.load true 15 (.t 14)),
ao 127 (.load true 5 (.t 4)),
ao 128 (.call 21 [(.c (.str ⟨#[76, 69, 65, 86, 69]⟩))]),
⟨(some 129), .call 25 [(.t 126), (.t 127), (.t 128), (.c (.int .i64 0))], none, [0, 1, 2, 2], false⟩,
⟨(some 125), .mov (.t 129), none, [3], false⟩,
⟨(some 130), .extract 0 (.t 125), none, [4], false⟩,
⟨(some 131), .extract 1 (.t 125), none, [4], false⟩,
⟨(some 21), .alloc [(.list [] true), (.list [] true), (.list [] true), (.list [] true), (.list [] true), (.list [] true), (.list [] true), (.int .i64 0), (.int .i64 0), (.int .i64 0), (.int .i64 0), (.int .i64 0), (.int .i64 0), (.bool false), (.bool false)], none, [], true⟩,
⟨none, .store 15 (.t 21) (.t 130), none, [7, 5, 3, 0, 1, 2, 3, 4, 5, 7], true⟩,
⟨(some 22), .mov (.t 131), none, [6, 8, 0, 1, 2, 3, 4, 5, 6, 7, 8], false⟩])
(.seq (.calm [ao 133 (.load true 15 (.t 14)),
ao 134 (.load true 5 (.t 4)),
ao 135 (.call 21 [(.c (.str ⟨#[85, 78, 76, 79, 79, 80]⟩))]),
⟨(some 136), .call 25 [(.t 133), (.t 134), (.t 135), (.c (.int .i64 0))], none, [0, 1, 2, 2], false⟩,
⟨(some 132), .mov (.t 136), none, [3], false⟩,
⟨(some 137), .extract 0 (.t 132), none, [4], false⟩,
⟨(some 138), .extract 1 (.t 132), none, [4], false⟩,
⟨(some 23), .alloc [(.list [] true), (.list [] true), (.list [] true), (.list [] true), (.list [] true), (.list [] true), (.list [] true), (.int .i64 0), (.int .i64 0), (.int .i64 0), (.int .i64 0), (.int .i64 0), (.int .i64 0), (.bool false), (.bool false)], none, [], true⟩,
⟨none, .store 15 (.t 23) (.t 137), none, [7, 5, 3, 0, 1, 2, 3, 4, 5, 7], true⟩,
⟨(some 24), .mov (.t 138), none, [6, 8, 0, 1, 2, 3, 4, 5, 6, 7, 8], false⟩])
(.seq (.reg [mv 139 7,
mv 140 139,
ag 141 (.mov (.t 20)) 140 true,
ag 142 (.bin .eql .no (.t 141) (.c (.int .i64 0))) 140 true,
ao 143 (.pick (.t 140) (.t 142) (.c (.bool false))),
mv 144 143,
ag 145 (.mov (.t 22)) 144 true,
ag 146 (.bin .eql .no (.t 145) (.c (.int .i64 0))) 144 true,
ao 147 (.pick (.t 144) (.t 146) (.c (.bool false))),
mv 148 147,
ag 149 (.mov (.t 24)) 148 true,
ag 150 (.bin .eql .no (.t 149) (.c (.int .i64 0))) 148 true,
ao 151 (.pick (.t 148) (.t 150) (.c (.bool false))),
mv 152 151,
ag 153 (.load true 15 (.t 19)) 152 true,
ag 154 (.load true 15 (.t 3)) 152 true,
ag 155 (.call 26 [(.t 153), (.t 154)]) 152 true,
ao 156 (.pick (.t 152) (.t 155) (.c (.bool false))),
mv 157 156,
ag 158 (.load true 15 (.t 23)) 157 true,
ag 159 (.load true 15 (.t 3)) 157 true,
ag 160 (.call 26 [(.t 158), (.t 159)]) 157 true,
ao 161 (.pick (.t 157) (.t 160) (.c (.bool false))),
mv 162 161,
ag 163 (.fieldAddr 7 (.t 21)) 162 true,
ag 164 (.load false 1 (.t 163)) 162 true,
ag 165 (.bin .eql .no (.t 164) (.c (.int .i64 400))) 162 true,
ao 166 (.pick (.t 162) (.t 165) (.c (.bool false))),
mv 6 166])
.ret))))))))))))))) }
def w10 : WF := { nt := 112, results := [(6, none)], code :=
(.seq (.reg [ao 6 (.mov (.c (.bool false)))])
(.seq (.reg [ao 15 (.call 23 []),
mv 7 15])
(.seq (.reg [ao 16 (.build [(.str ⟨#[]⟩), (.list [] true), (.int .i64 0), (.int .i64 0), (.int .i64 0)] [(3, 1, (.c (.int .i64 9)))]),
ao 8 (.alloc [(.str ⟨#[]⟩), (.list [] true), (.int .i64 0), (.int .i64 0), (.int .i64 0)]),
an (.store 5 (.t 8) (.t 16))])
(.seq (.reg [mv 17 2,
ao 18 (.conv (.int .i64) (.t 17)),
ao 19 (.buildSlice 1 1 [(.int .i64 0)] [(0, 1, (.t 18))]),
ao 20 (.build [(.int .i64 0), (.bool false)] [(0, 1, (.c (.int .i64 1)))]),
mv 21 1,
ao 22 (.conv (.int .i64) (.t 21)),
ao 23 (.build [(.int .i64 0), (.bool false)] [(0, 1, (.t 22))]),
mv 24 0,
ao 25 (.conv (.int .i64) (.t 24)),
ao 26 (.build [(.int .i64 0), (.bool false)] [(0, 1, (.t 25))]),
ao 27 (.buildSlice 2 3 [(.int .i64 0), (.bool false)] [(0, 2, (.t 20)), (2, 2, (.t 23)), (4, 2, (.t 26))]),
ao 28 (.build [(.list [] true), (.list [] true), (.list [] true), (.list [] true), (.list [] true), (.list [] true), (.list [] true), (.int .i64 0), (.int .i64 0), (.int .i64 0), (.int .i64 0), (.int .i64 0), (.int .i64 0), (.bool false), (.bool false)] [(1, 1, (.t 19)), (2, 1, (.t 27)), (7, 1, (.c (.int .i64 8)))]),
ao 9 (.alloc [(.list [] true), (.list [] true), (.list [] true), (.list [] true), (.list [] true), (.list [] true), (.list [] true), (.int .i64 0), (.int .i64 0), (.int .i64 0), (.int .i64 0), (.int .i64 0), (.int .i64 0), (.bool false), (.bool false)]),
an (.store 15 (.t 9) (.t 28))])
(.seq (.reg [ao 30 (.load true 15 (.t 9)),
ao 31 (.load true 5 (.t 8)),
ao 32 (.call 25 [(.t 30), (.t 31), (.c (.int .i64 7)), (.c (.int .i64 300))]),
mv 29 32,
ao 33 (.extract 0 (.t 29)),
ao 34 (.extract 1 (.t 29)),
ao 10 (.alloc [(.list [] true), (.list [] true), (.list [] true), (.list [] true), (.list [] true), (.list [] true), (.list [] true), (.int .i64 0), (.int .i64 0), (.int .i64 0), (.int .i64 0), (.int .i64 0), (.int .i64 0), (.bool false), (.bool false)]),
an (.store 15 (.t 10) (.t 33)),
mv 11 34])
(.seq (.reg [mv 35 0,
mv 36 1,
ao 37 (.bin .lss .no (.t 35) (.t 36)),
mv 12 37])
(.seq (.reg [mv 38 0,
ao 39 (.conv (.int .i64) (.t 38)),
mv 40 2,
ao 41 (.conv (.int .i64) (.t 40)),
ao 42 (.bin .add .no (.t 39) (.t 41)),
mv 43 1,
ao 44 (.conv (.int .i64) (.t 43)),
ao 45 (.bin .lss .no (.t 42) (.t 44)),
mv 13 45])
(.seq (.reg [mv 46 2,
ao 47 (.bin .geq .no (.t 46) (.c (.int .i32 0))),
mv 48 47,
ag 49 (.mov (.t 12)) 48 true,
ao 50 (.pick (.t 48) (.t 49) (.c (.bool false))),
mv 51 50,
ag 52 (.mov (.t 13)) 51 true,
ag 53 (.un .not (.t 52)) 51 true,
ao 54 (.pick (.t 51) (.t 53) (.c (.bool false))),
mv 55 54,
ag 56 (.mov (.t 2)) 55 false,
ag 57 (.bin .lss .no (.t 56) (.c (.int .i32 0))) 55 false,
ag 58 (.mov (.t 57)) 55 false,
ag 59 (.mov (.t 12)) 58 true,
ag 60 (.un .not (.t 59)) 58 true,
ag 61 (.pick (.t 58) (.t 60) (.c (.bool false))) 55 false,
ag 62 (.mov (.t 61)) 55 false,
ag 63 (.mov (.t 13)) 62 true,
ag 64 (.pick (.t 62) (.t 63) (.c (.bool false))) 55 false,
ao 65 (.pick (.t 55) (.c (.bool true)) (.t 64)),
mv 14 65])
(.seq (.seq (.reg [mv 66 14])
(.cond (.t 66)
(.seq (.reg [mv 67 7,
mv 68 67,
ag 69 (.mov (.t 11)) 68 true,
ag 70 (.bin .eql .no (.t 69) (.c (.int .i64 0))) 68 true,
ao 71 (.pick (.t 68) (.t 70) (.c (.bool false))),
mv 72 71,
ag 73 (.fieldAddr 2 (.t 10)) 72 true,
ag 74 (.load false 1 (.t 73)) 72 true,
ag 75 (.len (.t 74)) 72 true,
ag 76 (.bin .eql .no (.t 75) (.c (.int .i64 0))) 72 true,
ao 77 (.pick (.t 72) (.t 76) (.c (.bool false))),
mv 78 77,
ag 79 (.fieldAddr 7 (.t 10)) 78 true,
ag 80 (.load false 1 (.t 79)) 78 true,
ag 81 (.bin .eql .no (.t 80) (.c (.int .i64 8))) 78 true,
ao 82 (.pick (.t 78) (.t 81) (.c (.bool false))),
mv 6 82])
.ret)
.skip))
(.seq (.reg [mv 83 7,
mv 84 83,
ag 85 (.mov (.t 11)) 84 true,
ag 86 (.bin .eql .no (.t 85) (.c (.int .i64 0))) 84 true,
ao 87 (.pick (.t 84) (.t 86) (.c (.bool false))),
mv 88 87,
ag 89 (.fieldAddr 2 (.t 10)) 88 true,
ag 90 (.load false 1 (.t 89)) 88 true,
ag 91 (.len (.t 90)) 88 true,
ag 92 (.bin .eql .no (.t 91) (.c (.int .i64 3))) 88 true,
ao 93 (.pick (.t 88) (.t 92) (.c (.bool false))),
mv 94 93,
ag 95 (.fieldAddr 2 (.t 10)) 94 true,
ag 96 (.load false 1 (.t 95)) 94 true,
ag 97 (.indexSl 2 (.t 96) (.c (.int .i64 2))) 94 true,
ag 98 (.fieldAddr 0 (.t 97)) 94 true,
ag 99 (.load false 1 (.t 98)) 94 true,
ag 100 (.mov (.t 0)) 94 true,
ag 101 (.conv (.int .i64) (.t 100)) 94 true,
ag 102 (.mov (.t 2)) 94 true,
ag 103 (.conv (.int .i64) (.t 102)) 94 true,
ag 104 (.bin .add .no (.t 101) (.t 103)) 94 true,
ag 105 (.bin .eql .no (.t 99) (.t 104)) 94 true,
ao 106 (.pick (.t 94) (.t 105) (.c (.bool false))),
mv 107 106,
ag 108 (.fieldAddr 7 (.t 10)) 107 true,
ag 109 (.load false 1 (.t 108)) 107 true,
ag 110 (.bin .eql .no (.t 109) (.c (.int .i64 300))) 107 true,
ao 111 (.pick (.t 107) (.t 110) (.c (.bool false))),
mv 6 111])
.ret)))))))))) }
def w11 : WF := { nt := 132, results := [(6, none)], code :=
(.seq (.reg [ao 3 (.box (.t 0)),
ao 4 (.box (.t 1)),
ao 5 (.box (.t 2)),
ao 6 (.mov (.c (.bool false)))])
(.seq (.reg [ao 21 (.call 23 []),
mv 7 21])
(.seq (.seq (.reg [ao 22 (.load true 15 (.t 3)),
ao 23 (.load true 5 (.t 4)),
ao 24 (.call 24 [(.t 22), (.t 23)]),
ao 25 (.un .not (.t 24))])
(.cond (.t 25)
(.seq (.reg [mv 26 7,
mv 6 26])
.ret)
.skip))
(.seq (.reg [ao 27 (.fieldAddr 1 (.t 3)),
an (.store 1 (.t 27) (.c (.list [] true)))])
(.seq (.reg [ao 28 (.fieldAddr 3 (.t 4)),
an (.store 1 (.t 28) (.c (.int .i64 9)))])
(.seq (.reg [ao 29 (.indexPA 3 1 (.t 5) (.c (.int .i64 0))),
ao 30 (.load false 1 (.t 29)),
mv 8 30])
(.seq (.reg [ao 31 (.load true 15 (.t 3)),
ao 9 (.alloc [(.list [] true), (.list [] true), (.list [] true), (.list [] true), (.list [] true), (.list [] true), (.list [] true), (.int .i64 0), (.int .i64 0), (.int .i64 0), (.int .i64 0), (.int .i64 0), (.int .i64 0), (.bool false), (.bool false)]),
an (.store 15 (.t 9) (.t 31))])
(.seq (.reg [ao 32 (.indexPA 3 1 (.t 5) (.c (.int .i64 1))),
ao 33 (.load false 1 (.t 32)),
mv 34 8,
ao 35 (.buildSlice 1 2 [(.int .i64 0)] [(0, 1, (.t 33)), (1, 1, (.t 34))]),
ao 36 (.fieldAddr 1 (.t 9)),
an (.store 1 (.t 36) (.t 35))])
(.seq (.fix none (.calm [ao 38 (.load true 15 (.t 9)),
ao 39 (.load true 5 (.t 4)),
ao 40 (.call 21 [(.c (.str ⟨#[33]⟩))]),
⟨(some 41), .call 25 [(.t 38), (.t 39), (.t 40), (.c (.int .i64 0))], none, [0, 1, 2, 2], false⟩,
⟨(some 37), .mov (.t 41), none, [3], false⟩,
⟨(some 42), .extract 0 (.t 37), none, [4], false⟩,
⟨(some 43), .extract 1 (.t 37), none, [4], false⟩,
⟨(some 10), .alloc [(.list [] true), (.list [] true), (.list [] true), (.list [] true), (.list [] true), (.list [] true), (.list [] true), (.int .i64 0), (.int .i64 0), (.int .i64 0), (.int .i64 0), (.int .i64 0), (.int .i64 0), (.bool false), (.bool false)], none, [], true⟩,
⟨none, .store 15 (.t 10) (.t 42), none, [7, 5, 3, 0, 1, 2, 3, 4, 5, 7], true⟩,
⟨(some 11), .mov (.t 43), none, [6, 8, 0, 1, 2, 3, 4, 5, 6, 7, 8], false⟩]))
(.seq (.reg [ao 45 (.fieldAddr 0 (.t 3)),
ao 46 (.load false 1 (.t 45)),
mv 47 8,
ao 48 (.call 27 [(.t 46), (.t 47)]),
mv 44 48,
ao 49 (.extract 0 (.t 44)),
ao 50 (.extract 1 (.t 44)),
mv 12 49,
mv 13 50])
(.seq (.seq (.reg [mv 51 11,
ao 52 (.bin .neq .no (.t 51) (.c (.int .i64 0)))])
(.cond (.t 52)
(.seq (.reg [mv 53 7,
mv 54 53,
ag 55 (.mov (.t 11)) 54 true,
ag 56 (.mov (.t 13)) 54 true,
ag 57 (.bin .eql .no (.t 55) (.t 56)) 54 true,
ao 58 (.pick (.t 54) (.t 57) (.c (.bool false))),
mv 6 58])
.ret)
.skip))
(.seq (.reg [ao 59 (.load true 15 (.t 10)),
ao 14 (.alloc [(.list [] true), (.list [] true), (.list [] true), (.list [] true), (.list [] true), (.list [] true), (.list [] true), (.int .i64 0), (.int .i64 0), (.int .i64 0), (.int .i64 0), (.int .i64 0), (.int .i64 0), (.bool false), (.bool false)]),
an (.store 15 (.t 14) (.t 59))])
(.seq (.reg [ao 60 (.indexPA 3 1 (.t 5) (.c (.int .i64 2))),
ao 61 (.load false 1 (.t 60)),
mv 62 8,
ao 63 (.buildSlice 1 2 [(.int .i64 0)] [(0, 1, (.t 61)), (1, 1, (.t 62))]),
ao 64 (.fieldAddr 1 (.t 14)),
an (.store 1 (.t 64) (.t 63))])
(.seq (.fix none (.calm [ao 66 (.load true 15 (.t 14)),
ao 67 (.load true 5 (.t 4)),
ao 68 (.call 21 [(.c (.str ⟨#[43, 33]⟩))]),
⟨(some 69), .call 25 [(.t 66), (.t 67), (.t 68), (.c (.int .i64 0))], none, [0, 1, 2, 2], false⟩,
⟨(some 65), .mov (.t 69), none, [3], false⟩,
⟨(some 70), .extract 0 (.t 65), none, [4], false⟩,
⟨(some 71), .extract 1 (.t 65), none, [4], false⟩,
⟨(some 15), .alloc [(.list [] true), (.list [] true), (.list [] true), (.list [] true), (.list [] true), (.list [] true), (.list [] true), (.int .i64 0), (.int .i64 0), (.int .i64 0), (.int .i64 0), (.int .i64 0), (.int .i64 0), (.bool false), (.bool false)], none, [], true⟩,
⟨none, .store 15 (.t 15) (.t 70), none, [7, 5, 3, 0, 1, 2, 3, 4, 5, 7], true⟩,
⟨(some 16), .mov (.t 71), none, [6, 8, 0, 1, 2, 3, 4, 5, 6, 7, 8], false⟩]))
(.seq (.reg [mv 72 8,
ao 73 (.buildSlice 1 1 [(.int .i64 0)] [(0, 1, (.t 72))]),
ao 74 (.fieldAddr 1 (.t 15)),
an (.store 1 (.t 74) (.t 73))])
(.seq (.fix none (.calm [ao 76 (.load true 15 (.t 15)),
ao 77 (.load true 5 (.t 4)),
ao 78 (.call 21 [(.c (.str ⟨#[64]⟩))]),
⟨(some 79), .call 25 [(.t 76), (.t 77), (.t 78), (.c (.int .i64 0))], none, [0, 1, 2, 2], false⟩,
⟨(some 75), .mov (.t 79), none, [3], false⟩,
⟨(some 80), .extract 0 (.t 75), none, [4], false⟩,
⟨(some 81), .extract 1 (.t 75), none, [4], false⟩,
⟨(some 17), .alloc [(.list [] true), (.list [] true), (.list [] true), (.list [] true), (.list [] true), (.list [] true), (.list [] true), (.int .i64 0), (.int .i64 0), (.int .i64 0), (.int .i64 0), (.int .i64 0), (.int .i64 0), (.bool false), (.bool false)], none, [], true⟩,
⟨none, .store 15 (.t 17) (.t 80), none, [7, 5, 3, 0, 1, 2, 3, 4, 5, 7], true⟩,
⟨(some 18), .mov (.t 81), none, [6, 8, 0, 1, 2, 3, 4, 5, 6, 7, 8], false⟩]))
(.seq (.reg [ao 83 (.fieldAddr 0 (.t 10)),
ao 84 (.load false 1 (.t 83)),
mv 85 8,
ao 86 (.call 27 [(.t 84), (.t 85)]),
mv 82 86,
ao 87 (.extract 0 (.t 82)),
ao 88 (.extract 1 (.t 82)),
mv 19 87,
mv 20 88])
(.seq (.calm [mv 89 7,
⟨(some 90), .mov (.t 89), none, [0], false⟩,
⟨(some 91), .mov (.t 13), some (90, true), [1], false⟩,
⟨(some 92), .bin .eql .no (.t 91) (.c (.int .i64 0)), some (90, true), [2, 1], false⟩,
⟨(some 93), .pick (.t 90) (.t 92) (.c (.bool false)), none, [1, 3], false⟩,
⟨(some 94), .mov (.t 93), none, [4, 1], false⟩,
⟨(some 95), .mov (.t 16), some (94, true), [5], false⟩,
⟨(some 96), .bin .eql .no (.t 95) (.c (.int .i64 0)), some (94, true), [6, 5], false⟩,
⟨(some 97), .pick (.t 94) (.t 96) (.c (.bool false)), none, [5, 7], false⟩,
⟨(some 98), .mov (.t 97), none, [8, 5], false⟩,
⟨(some 99), .mov (.t 18), some (98, true), [9], false⟩,
⟨(some 100), .bin .eql .no (.t 99) (.c (.int .i64 0)), some (98, true), [10, 9], false⟩,
⟨(some 101), .pick (.t 98) (.t 100) (.c (.bool false)), none, [9, 11], false⟩,
⟨(some 102), .mov (.t 101), none, [12, 9], false⟩,
⟨(some 103), .mov (.t 19), some (102, true), [13], false⟩,
⟨(some 104), .indexPA 3 1 (.t 5) (.c (.int .i64 1)), some (102, true), [13], false⟩,
⟨(some 105), .load false 1 (.t 104), some (102, true), [15, 13], false⟩,
⟨(some 106), .bin .eql .no (.t 103) (.t 105), some (102, true), [14, 16, 13], false⟩,
⟨(some 107), .pick (.t 102) (.t 106) (.c (.bool false)), none, [13, 17], false⟩,
⟨(some 108), .mov (.t 107), none, [18, 13], false⟩,
⟨(some 109), .fieldAddr 1 (.t 17), some (108, true), [19], false⟩,
⟨(some 110), .load false 1 (.t 109), some (108, true), [20, 19], false⟩,
⟨(some 111), .len (.t 110), some (108, true), [21, 19], false⟩,
⟨(some 112), .bin .eql .no (.t 111) (.c (.int .i64 1)), some (108, true), [22, 19], false⟩,
⟨(some 113), .pick (.t 108) (.t 112) (.c (.bool false)), none, [19, 23], false⟩,
⟨(some 114), .mov (.t 113), none, [24, 19], false⟩,
⟨(some 115), .fieldAddr 1 (.t 17), some (114, true), [25], false⟩,
⟨(some 116), .load false 1 (.t 115), some (114, true), [26, 25], false⟩,
⟨(some 117), .indexSl 1 (.t 116) (.c (.int .i64 0)), some (114, true), [27, 25], false⟩,
⟨(some 118), .load false 1 (.t 117), some (114, true), [28, 25], false⟩,
⟨(some 119), .indexPA 3 1 (.t 5) (.c (.int .i64 1)), some (114, true), [25], false⟩,
⟨(some 120), .load false 1 (.t 119), some (114, true), [30, 25], false⟩,
⟨(some 121), .indexPA 3 1 (.t 5) (.c (.int .i64 2)), some (114, true), [25], false⟩,
⟨(some 122), .load false 1 (.t 121), some (114, true), [32, 25], false⟩,
⟨(some 123), .bin .add .no (.t 120) (.t 122), some (114, true), [31, 33, 25], false⟩,
⟨(some 124), .bin .eql .no (.t 118) (.t 123), some (114, true), [29, 34, 25], false⟩,
⟨(some 125), .pick (.t 114) (.t 124) (.c (.bool false)), none, [25, 35], false⟩,
⟨(some 126), .mov (.t 125), none, [36, 25], false⟩,
⟨(some 127), .fieldAddr 1 (.t 10), some (126, true), [37], false⟩,
⟨(some 128), .load false 1 (.t 127), some (126, true), [38, 37], false⟩,
⟨(some 129), .len (.t 128), some (126, true), [39, 37], false⟩,
⟨(some 130), .bin .eql .no (.t 129) (.c (.int .i64 0)), some (126, true), [40, 37], false⟩,
⟨(some 131), .pick (.t 126) (.t 130) (.c (.bool false)), none, [37, 41], false⟩,
⟨(some 6), .mov (.t 131), none, [42, 37, 0, 1, 2, 3, 4, 5, 6, 7, 8, 9, 10, 11, 12, 13, 14, 15, 16, 17, 18, 19, 20, 21, 22, 23, 24, 25, 26, 27, 28, 29, 30, 31, 32, 33, 34, 35, 36, 37, 38, 39, 40, 41, 42], false⟩])
.ret)))))))))))))))))) }
def w12 : WF := { nt := 122, results := [(6, none)], code :=
(.seq (.reg [ao 3 (.box (.t 0)),
ao 4 (.box (.t 1)),
ao 6 (.mov (.c (.bool false)))])
(.seq (.reg [ao 15 (.call 23 []),
mv 7 15])
(.seq (.seq (.reg [ao 16 (.load true 15 (.t 3)),
ao 17 (.load true 5 (.t 4)),
ao 18 (.call 24 [(.t 16), (.t 17)]),
ao 19 (.un .not (.t 18)),
mv 20 19,
ag 21 (.mov (.t 2)) 20 false,
ag 22 (.call 28 [(.t 21)]) 20 false,
ao 23 (.pick (.t 20) (.c (.bool true)) (.t 22))])
(.cond (.t 23)
(.seq (.reg [mv 24 7,
mv 6 24])
.ret)
.skip))
(.seq (.reg [ao 26 (.load true 15 (.t 3)),
ao 27 (.load true 5 (.t 4)),
mv 28 2,
ao 29 (.call 25 [(.t 26), (.t 27), (.t 28), (.c (.int .i64 0))]),
mv 25 29,
ao 30 (.extract 0 (.t 25)),
ao 31 (.extract 1 (.t 25)),
ao 8 (.alloc [(.list [] true), (.list [] true), (.list [] true), (.list [] true), (.list [] true), (.list [] true), (.list [] true), (.int .i64 0), (.int .i64 0), (.int .i64 0), (.int .i64 0), (.int .i64 0), (.int .i64 0), (.bool false), (.bool false)]),
an (.store 15 (.t 8) (.t 30)),
mv 9 31])
(.seq (.reg [ao 33 (.fieldAddr 0 (.t 3)),
ao 34 (.load false 1 (.t 33)),
mv 35 2,
ao 36 (.call 27 [(.t 34), (.t 35)]),
mv 32 36,
ao 37 (.extract 0 (.t 32)),
ao 38 (.extract 1 (.t 32)),
mv 10 37,
mv 11 38])
(.seq (.seq (.reg [mv 39 2,
ao 40 (.bin .lss .no (.t 39) (.c (.int .i64 256)))])
(.cond (.t 40)
(.seq (.reg [mv 41 7,
mv 42 41,
ag 43 (.mov (.t 9)) 42 true,
ag 44 (.bin .eql .no (.t 43) (.c (.int .i64 (-9)))) 42 true,
ao 45 (.pick (.t 42) (.t 44) (.c (.bool false))),
mv 6 45])
.ret)
.skip))
(.seq (.seq (.reg [mv 46 11,
ao 47 (.bin .neq .no (.t 46) (.c (.int .i64 0))),
mv 48 47,
ag 49 (.fieldAddr 2 (.t 3)) 48 false,
ag 50 (.load false 1 (.t 49)) 48 false,
ag 51 (.len (.t 50)) 48 false,
ag 52 (.fieldAddr 3 (.t 4)) 48 false,
ag 53 (.load false 1 (.t 52)) 48 false,
ag 54 (.bin .geq .no (.t 51) (.t 53)) 48 false,
ao 55 (.pick (.t 48) (.c (.bool true)) (.t 54))])
(.cond (.t 55)
(.seq (.reg [mv 56 7,
mv 57 56,
ag 58 (.mov (.t 11)) 57 true,
ag 59 (.bin .neq .no (.t 58) (.c (.int .i64 0))) 57 true,
ag 60 (.mov (.t 59)) 57 true,
ag 61 (.mov (.t 9)) 60 true,
ag 62 (.mov (.t 11)) 60 true,
ag 63 (.bin .eql .no (.t 61) (.t 62)) 60 true,
ag 64 (.pick (.t 60) (.t 63) (.c (.bool false))) 57 true,
ag 65 (.mov (.t 64)) 57 true,
ag 66 (.mov (.t 11)) 65 false,
ag 67 (.bin .eql .no (.t 66) (.c (.int .i64 0))) 65 false,
ag 68 (.mov (.t 67)) 65 false,
ag 69 (.mov (.t 9)) 68 true,
ag 70 (.bin .eql .no (.t 69) (.c (.int .i64 (-5)))) 68 true,
ag 71 (.pick (.t 68) (.t 70) (.c (.bool false))) 65 false,
ag 72 (.pick (.t 65) (.c (.bool true)) (.t 71)) 57 true,
ao 73 (.pick (.t 57) (.t 72) (.c (.bool false))),
mv 6 73])
.ret)
.skip))
(.seq (.reg [ao 74 (.fieldAddr 2 (.t 8)),
ao 75 (.load false 1 (.t 74)),
ao 76 (.len (.t 75)),
ao 77 (.bin .sub .no (.t 76) (.c (.int .i64 1))),
mv 12 77])
(.seq (.reg [ao 79 (.load true 15 (.t 8)),
ao 80 (.load true 5 (.t 4)),
ao 81 (.call 25 [(.t 79), (.t 80), (.c (.int .i64 1)), (.c (.int .i64 0))]),
mv 78 81,
ao 82 (.extract 0 (.t 78)),
ao 83 (.extract 1 (.t 78)),
ao 13 (.alloc [(.list [] true), (.list [] true), (.list [] true), (.list [] true), (.list [] true), (.list [] true), (.list [] true), (.int .i64 0), (.int .i64 0), (.int .i64 0), (.int .i64 0), (.int .i64 0), (.int .i64 0), (.bool false), (.bool false)]),
an (.store 15 (.t 13) (.t 82)),
mv 14 83])
(.seq (.calm [mv 84 7,
⟨(some 85), .mov (.t 84), none, [0], false⟩,
⟨(some 86), .mov (.t 9), some (85, true), [1], false⟩,
⟨(some 87), .bin .eql .no (.t 86) (.c (.int .i64 0)), some (85, true), [2, 1], false⟩,
⟨(some 88), .pick (.t 85) (.t 87) (.c (.bool false)), none, [1, 3], false⟩,
⟨(some 89), .mov (.t 88), none, [4, 1], false⟩,
⟨(some 90), .mov (.t 14), some (89, true), [5], false⟩,
⟨(some 91), .bin .eql .no (.t 90) (.c (.int .i64 0)), some (89, true), [6, 5], false⟩,
⟨(some 92), .pick (.t 89) (.t 91) (.c (.bool false)), none, [5, 7], false⟩,
⟨(some 93), .mov (.t 92), none, [8, 5], false⟩,
⟨(some 94), .fieldAddr 7 (.t 8), some (93, true), [9], false⟩,
⟨(some 95), .load false 1 (.t 94), some (93, true), [10, 9], false⟩,
⟨(some 96), .mov (.t 2), some (93, true), [9], false⟩,
⟨(some 97), .bin .eql .no (.t 95) (.t 96), some (93, true), [11, 12, 9], false⟩,
⟨(some 98), .pick (.t 93) (.t 97) (.c (.bool false)), none, [9, 13], false⟩,
⟨(some 99), .mov (.t 98), none, [14, 9], false⟩,
⟨(some 100), .mov (.t 12), some (99, true), [15], false⟩,
⟨(some 101), .fieldAddr 2 (.t 3), some (99, true), [15], false⟩,
⟨(some 102), .load false 1 (.t 101), some (99, true), [17, 15], false⟩,
⟨(some 103), .len (.t 102), some (99, true), [18, 15], false⟩,
⟨(some 104), .bin .eql .no (.t 100) (.t 103), some (99, true), [16, 19, 15], false⟩,
⟨(some 105), .pick (.t 99) (.t 104) (.c (.bool false)), none, [15, 20], false⟩,
⟨(some 106), .mov (.t 105), none, [21, 15], false⟩,
⟨(some 107), .fieldAddr 2 (.t 8), some (106, true), [22], false⟩,
⟨(some 108), .load false 1 (.t 107), some (106, true), [23, 22], false⟩,
⟨(some 109), .mov (.t 12), some (106, true), [22], false⟩,
⟨(some 110), .indexSl 2 (.t 108) (.t 109), some (106, true), [24, 25, 22], false⟩,
⟨(some 111), .load true 2 (.t 110), some (106, true), [26, 22], false⟩,
⟨(some 112), .fieldAddr 7 (.t 3), some (106, true), [22], false⟩,
⟨(some 113), .load false 1 (.t 112), some (106, true), [28, 22], false⟩,
⟨(some 114), .build [(.int .i64 0), (.bool false)] [(0, 1, (.t 113)), (1, 1, (.c (.bool true)))], some (106, true), [29, 22], false⟩,
⟨(some 115), .pur (.eqA true [(0, .int), (1, .bool)]) [(.t 111), (.t 114)], some (106, true), [27, 30, 22], false⟩,
⟨(some 116), .pick (.t 106) (.t 115) (.c (.bool false)), none, [22, 31], false⟩,
⟨(some 117), .mov (.t 116), none, [32, 22], false⟩,
⟨(some 118), .load true 15 (.t 13), some (117, true), [33], false⟩,
⟨(some 119), .load true 15 (.t 3), some (117, true), [33], false⟩,
⟨(some 120), .call 26 [(.t 118), (.t 119)], some (117, true), [34, 35, 33, 33], false⟩,
⟨(some 121), .pick (.t 117) (.t 120) (.c (.bool false)), none, [33, 36], false⟩,
⟨(some 6), .mov (.t 121), none, [37, 36, 0, 1, 2, 3, 4, 5, 6, 7, 8, 9, 10, 11, 12, 13, 14, 15, 16, 17, 18, 19, 20, 21, 22, 23, 24, 25, 26, 27, 28, 29, 30, 31, 32, 33, 34, 35, 36, 37], false⟩])
.ret)))))))))) }
def w13 : WF := { nt := 67, results := [(0, none)], code :=
(.seq (.reg [ao 0 (.mov (.c (.bool false)))])
(.seq (.reg [ao 11 (.call 21 [(.c (.str ⟨#[47, 109, 111, 100]⟩))]),
ao 12 (.buildSlice 1 3 [(.int .i64 0)] [(0, 1, (.c (.int .i64 5))), (1, 1, (.c (.int .i64 (-7)))), (2, 1, (.c (.int .i64 2)))]),
ao 13 (.call 14 [(.t 11), (.t 12), (.c (.int .i64 9))]),
mv 10 13,
ao 14 (.extract 0 (.t 10)),
ao 15 (.extract 1 (.t 10)),
ao 16 (.extract 2 (.t 10)),
mv 1 14,
mv 2 15,
mv 3 16])
(.seq (.reg [ao 18 (.call 21 [(.c (.str ⟨#[100, 117, 112]⟩))]),
ao 19 (.buildSlice 1 1 [(.int .i64 0)] [(0, 1, (.c (.int .i64 1)))]),
ao 20 (.call 14 [(.t 18), (.t 19), (.c (.int .i64 1))]),
mv 17 20,
ao 21 (.extract 0 (.t 17)),
ao 22 (.extract 1 (.t 17)),
ao 23 (.extract 2 (.t 17)),
mv 4 21,
mv 5 22,
mv 6 23])
(.seq (.reg [ao 25 (.call 21 [(.c (.str ⟨#[64]⟩))]),
ao 26 (.buildSlice 1 1 [(.int .i64 0)] [(0, 1, (.c (.int .i64 1)))]),
ao 27 (.call 14 [(.t 25), (.t 26), (.c (.int .i64 1))]),
mv 24 27,
ao 28 (.extract 0 (.t 24)),
ao 29 (.extract 1 (.t 24)),
ao 30 (.extract 2 (.t 24)),
mv 7 28,
mv 8 29,
mv 9 30])
(.seq (.reg [mv 31 3,
mv 32 31,
ag 33 (.mov (.t 2)) 32 true,
ag 34 (.bin .eql .no (.t 33) (.c (.int .i64 0))) 32 true,
ao 35 (.pick (.t 32) (.t 34) (.c (.bool false))),
mv 36 35,
ag 37 (.mov (.t 1)) 36 true,
ag 38 (.len (.t 37)) 36 true,
ag 39 (.bin .eql .no (.t 38) (.c (.int .i64 3))) 36 true,
ao 40 (.pick (.t 36) (.t 39) (.c (.bool false))),
mv 41 40,
ag 42 (.mov (.t 1)) 41 true,
ag 43 (.indexSl 1 (.t 42) (.c (.int .i64 0))) 41 true,
ag 44 (.load false 1 (.t 43)) 41 true,
ag 45 (.bin .eql .no (.t 44) (.c (.int .i64 5))) 41 true,
ao 46 (.pick (.t 41) (.t 45) (.c (.bool false))),
mv 47 46,
ag 48 (.mov (.t 1)) 47 true,
ag 49 (.indexSl 1 (.t 48) (.c (.int .i64 1))) 47 true,
ag 50 (.load false 1 (.t 49)) 47 true,
ag 51 (.bin .eql .no (.t 50) (.c (.int .i64 1))) 47 true,
ao 52 (.pick (.t 47) (.t 51) (.c (.bool false))),
mv 53 52,
ag 54 (.mov (.t 1)) 53 true,
ag 55 (.indexSl 1 (.t 54) (.c (.int .i64 2))) 53 true,
ag 56 (.load false 1 (.t 55)) 53 true,
ag 57 (.bin .eql .no (.t 56) (.c (.int .i64 (-4)))) 53 true,
ao 58 (.pick (.t 53) (.t 57) (.c (.bool false))),
mv 59 58,
ag 60 (.mov (.t 5)) 59 true,
ag 61 (.bin .eql .no (.t 60) (.c (.int .i64 (-3)))) 59 true,
ao 62 (.pick (.t 59) (.t 61) (.c (.bool false))),
mv 63 62,
ag 64 (.mov (.t 9)) 63 true,
ag 65 (.un .not (.t 64)) 63 true,
ao 66 (.pick (.t 63) (.t 65) (.c (.bool false))),
mv 0 66])
.ret))))) }
def w14 : WF := { nt := 58, results := [(6, some (false, 1)), (7, some (false, 1)), (8, none)], code := .skip, dfr := some ([(.reg [ao 6 (.alloc [(.list [] true)]),
ao 7 (.alloc [(.int .i64 0)]),
ao 8 (.mov (.c (.bool false)))]),
(.reg [mv 16 0,
ao 17 (.call 17 [(.t 16)]),
mv 9 17]),
(.reg [ao 10 (.mov (.c .nilfn))]),
(.seq (.reg [ao 18 (.call 29 []),
ao 19 (.call 30 []),
ao 20 (.call 31 []),
ao 21 (.call 32 []),
ao 22 (.buildSlice 1 4 [.nilmap] [(0, 1, (.t 18)), (1, 1, (.t 19)), (2, 1, (.t 20)), (3, 1, (.t 21))]),
ao 23 (.len (.t 22)),
ao 24 (.mov (.c (.int .i64 0)))])
(.block 0 (.loop (.seq (.reg [ao 25 (.bin .lss .no (.t 24) (.t 23))])
(.seq (.cond (.t 25)
.skip
(.exit 0))
(.seq (.block 1 (.seq (.reg [ao 26 (.indexSl 1 (.t 22) (.t 24)),
ao 27 (.load false 1 (.t 26)),
mv 12 27])
(.seq (.reg [mv 29 12,
mv 30 9,
ao 31 (.rd (.lookup .str .nilfn true) [(.t 29), (.t 30)]),
mv 28 31,
ao 32 (.extract 0 (.t 28)),
ao 33 (.extract 1 (.t 28)),
mv 13 32,
mv 14 33])
(.seq (.reg [mv 34 14])
(.cond (.t 34)
(.reg [mv 35 13,
mv 10 35])
.skip)))))
(.reg [ao 36 (.bin .add .no (.t 24) (.c (.int .i64 1))),
mv 24 36]))))))),
(.seq (.reg [mv 37 10,
ao 38 (.bin .eql .func (.t 37) (.c .nilfn))])
(.cond (.t 38)
(.seq (.reg [an (.store 1 (.t 6) (.c (.list [] true))),
an (.store 1 (.t 7) (.c (.int .i64 0))),
ao 8 (.mov (.c (.bool false)))])
.ret)
.skip)),
(.reg [ao 8 (.mov (.c (.bool true)))])],
[ao 39 (.makeFunc (.func 33) [] [(.t 6), (.t 7)])],
(.t 39),
(.seq (.reg [mv 40 1,
ao 41 (.build [(.list [] true)] [(0, 1, (.t 40))]),
ao 42 (.box (.t 41)),
mv 15 42])
(.seq (.reg [mv 43 10,
mv 44 15,
ao 45 (.callv (.t 43) [(.t 44)])])
(.seq (.reg [mv 46 15,
ao 47 (.nilCheck (.t 46)),
ao 48 (.fieldAddr 0 (.t 47)),
ao 49 (.load false 1 (.t 48)),
ao 50 (.len (.t 49)),
mv 51 2,
ao 52 (.bin .leq .no (.t 50) (.t 51)),
ao 53 (.call 34 [(.t 52), (.c (.int .i64 (-3)))])])
(.seq (.reg [mv 54 15,
ao 55 (.nilCheck (.t 54)),
ao 56 (.fieldAddr 0 (.t 55)),
ao 57 (.load false 1 (.t 56)),
an (.store 1 (.t 6) (.t 57)),
an (.store 1 (.t 7) (.c (.int .i64 0))),
ao 8 (.mov (.c (.bool true)))])
.ret))))) }
def w15 : WF := { nt := 51, results := [(6, none), (7, none), (8, none)], code :=
(.seq (.reg [ao 6 (.mov (.c (.list [] true))),
ao 7 (.mov (.c (.int .i64 0))),
ao 8 (.mov (.c (.bool false)))])
(.seq (.reg [mv 18 0,
ao 19 (.call 35 [(.t 18)]),
mv 9 19])
(.seq (.seq (.reg [mv 20 9,
ao 21 (.bin .lss .no (.t 20) (.c (.int .i64 0)))])
(.cond (.t 21)
(.seq (.reg [ao 6 (.mov (.c (.list [] true))),
ao 7 (.mov (.c (.int .i64 0))),
ao 8 (.mov (.c (.bool false)))])
.ret)
.skip))
(.seq (.reg [mv 23 1,
mv 24 9,
ao 25 (.call 36 [(.t 23), (.t 24)]),
mv 22 25,
ao 26 (.extract 0 (.t 22)),
ao 27 (.extract 1 (.t 22)),
ao 28 (.extract 2 (.t 22)),
mv 10 26,
mv 11 27,
mv 12 28])
(.seq (.seq (.reg [mv 29 12,
ao 30 (.bin .neq .no (.t 29) (.c (.int .i64 0)))])
(.cond (.t 30)
(.seq (.reg [ao 6 (.mov (.c (.list [] true))),
ao 7 (.mov (.c (.int .i64 (-4)))),
ao 8 (.mov (.c (.bool true)))])
.ret)
.skip))
(.seq (.reg [mv 32 0,
mv 33 10,
mv 34 11,
ao 35 (.call 37 [(.t 32), (.t 33), (.t 34)]),
mv 31 35,
ao 36 (.extract 0 (.t 31)),
ao 37 (.extract 1 (.t 31)),
ao 38 (.extract 2 (.t 31)),
mv 13 36,
mv 14 37,
mv 15 38])
(.seq (.seq (.reg [mv 39 15,
ao 40 (.bin .neq .no (.t 39) (.c (.int .i64 0)))])
(.cond (.t 40)
(.seq (.reg [mv 41 15,
ao 6 (.mov (.c (.list [] true))),
mv 7 41,
ao 8 (.mov (.c (.bool true)))])
.ret)
.skip))
(.seq (.reg [mv 43 13,
mv 44 2,
mv 45 14,
ao 46 (.call 38 [(.t 43), (.t 44), (.t 45)]),
mv 42 46,
ao 47 (.extract 0 (.t 42)),
ao 48 (.extract 1 (.t 42)),
mv 16 47,
mv 17 48])
(.seq (.reg [mv 49 16,
mv 50 17,
mv 6 49,
mv 7 50,
ao 8 (.mov (.c (.bool true)))])
.ret))))))))) }
def w16 : WF := { nt := 26, results := [(4, none)], code :=
(.seq (.reg [ao 4 (.mov (.c (.bool false)))])
(.seq (.seq (.reg [mv 6 0,
ao 7 (.len (.t 6)),
mv 8 1,
ao 9 (.len (.t 8)),
ao 10 (.bin .neq .no (.t 7) (.t 9))])
(.cond (.t 10)
(.seq (.reg [ao 4 (.mov (.c (.bool false)))])
.ret)
.skip))
(.seq (.seq (.reg [ao 5 (.mov (.c (.int .i64 0)))])
(.block 0 (.loop (.seq (.seq (.reg [mv 11 5,
mv 12 0,
ao 13 (.len (.t 12)),
ao 14 (.bin .lss .no (.t 11) (.t 13))])
(.cond (.t 14)
.skip
(.exit 0)))
(.seq (.block 1 (.seq (.calm [mv 17 0,
mv 18 5,
⟨(some 19), .indexSl 1 (.t 17) (.t 18), none, [0, 1], false⟩,
⟨(some 20), .load false 1 (.t 19), none, [2], false⟩,
mv 21 1,
mv 22 5,
⟨(some 23), .indexSl 1 (.t 21) (.t 22), none, [4, 5], false⟩,
⟨(some 24), .load false 1 (.t 23), none, [6], false⟩,
⟨(some 25), .bin .neq .no (.t 20) (.t 24), none, [3, 7], false⟩])
(.cond (.t 25)
(.seq (.reg [ao 4 (.mov (.c (.bool false)))])
.ret)
.skip)))
(.reg [mv 15 5,
ao 16 (.bin .add .no (.t 15) (.c (.int .i64 1))),
mv 5 16]))))))
(.seq (.reg [ao 4 (.mov (.c (.bool true)))])
.ret)))) }
def w17 : WF := { nt := 11, results := [(2, none)], code :=
(.seq (.reg [ao 2 (.mov (.c (.str ⟨#[]⟩)))])
(.seq (.seq (.reg [mv 3 0,
ao 4 (.call 28 [(.t 3)]),
ao 5 (.un .not (.t 4))])
(.cond (.t 5)
(.seq (.reg [ao 2 (.mov (.c (.str ⟨#[]⟩)))])
.ret)
.skip))
(.seq (.reg [ao 6 (.call 39 []),
mv 7 0,
ao 8 (.bin .sub .no (.t 7) (.c (.int .i64 1))),
ao 9 (.indexSl 1 (.t 6) (.t 8)),
ao 10 (.load false 1 (.t 9)),
mv 2 10])
.ret))) }
def w18 : WF := { nt := 24, results := [(4, none)], code :=
(.seq (.reg [ao 4 (.mov (.c (.list [] true)))])
(.seq (.reg [mv 9 0,
ao 10 (.call 21 [(.t 9)]),
mv 11 1,
ao 12 (.call 14 [(.t 10), (.t 11), (.c (.int .i64 1000))]),
mv 8 12,
ao 13 (.extract 0 (.t 8)),
ao 14 (.extract 1 (.t 8)),
ao 15 (.extract 2 (.t 8)),
mv 5 13,
mv 6 14,
mv 7 15])
(.seq (.seq (.reg [mv 16 6,
ao 17 (.bin .neq .no (.t 16) (.c (.int .i64 0))),
mv 18 17,
ag 19 (.mov (.t 7)) 18 false,
ag 20 (.un .not (.t 19)) 18 false,
ao 21 (.pick (.t 18) (.c (.bool true)) (.t 20))])
(.cond (.t 21)
(.seq (.reg [ao 22 (.buildSlice 1 1 [(.int .i64 0)] [(0, 1, (.c (.int .i64 (-1000000))))]),
mv 4 22])
.ret)
.skip))
(.seq (.reg [mv 23 5,
mv 4 23])
.ret)))) }
def w19 : WF := { nt := 14, results := [(6, none)], code :=
(.seq (.reg [ao 6 (.mov (.c (.bool false)))])
(.seq (.reg [mv 7 1,
mv 8 0,
mv 9 2,
ao 10 (.call 18 [(.t 8), (.t 9)]),
ao 11 (.call 18 [(.t 7), (.t 10)]),
mv 12 2,
ao 13 (.call 16 [(.t 11), (.t 12)]),
mv 6 13])
.ret)) }
def w20 : WF := { nt := 18, results := [(4, none)], code :=
(.seq (.reg [ao 4 (.mov (.c (.int .i64 0)))])
(.seq (.reg [mv 6 0,
mv 7 1,
ao 8 (.call 18 [(.t 6), (.t 7)]),
mv 5 8])
(.seq (.seq (.reg [mv 9 5,
ao 10 (.len (.t 9)),
ao 11 (.bin .eql .no (.t 10) (.c (.int .i64 0)))])
(.cond (.t 11)
(.seq (.reg [ao 4 (.mov (.c (.int .i64 (-1000000))))])
.ret)
.skip))
(.seq (.reg [mv 12 5,
mv 13 5,
ao 14 (.len (.t 13)),
ao 15 (.bin .sub .no (.t 14) (.c (.int .i64 1))),
ao 16 (.indexSl 1 (.t 12) (.t 15)),
ao 17 (.load false 1 (.t 16)),
mv 4 17])
.ret)))) }
def w21 : WF := { nt := 11, results := [(2, none)], code :=
(.seq (.reg [ao 2 (.mov (.c (.int .i64 0)))])
(.seq (.reg [ao 4 (.call 40 []),
mv 5 0,
ao 6 (.call 41 [(.t 5)]),
ao 7 (.rd (.lookup .str (.int .i64 0) false) [(.t 4), (.t 6)]),
mv 3 7])
(.seq (.seq (.reg [mv 8 3,
ao 9 (.call 42 [(.t 8)])])
(.cond (.t 9)
(.seq (.reg [ao 2 (.mov (.c (.int .i64 0)))])
.ret)
.skip))
(.seq (.reg [mv 10 3,
mv 2 10])
.ret)))) }
def w22 : WF := { nt := 4, results := [(2, none)], code :=
(.seq (.reg [ao 2 (.mov (.c (.int .i64 0)))])
(.seq (.seq (.reg [mv 3 0])
(.cond (.t 3)
(.seq (.reg [ao 2 (.mov (.c (.int .i64 (-1))))])
.ret)
.skip))
(.seq (.reg [ao 2 (.mov (.c (.int .i64 0)))])
.ret))) }
def w23 : WF := { nt := 84, results := [(0, none)], code :=
(.seq (.reg [ao 0 (.mov (.c (.bool false)))])
(.seq (.reg [ao 10 (.build [(.str ⟨#[]⟩), (.list [] true), (.int .i64 0), (.int .i64 0), (.int .i64 0)] [(3, 1, (.c (.int .i64 4)))]),
ao 1 (.alloc [(.str ⟨#[]⟩), (.list [] true), (.int .i64 0), (.int .i64 0), (.int .i64 0)]),
an (.store 5 (.t 1) (.t 10))])
(.seq (.calm [ao 12 (.pur (.lst 1 1 [(.int .i64 0)] [(0, 1)]) [(.c (.int .i64 7))]),
⟨(some 13), .build [(.list [] true), (.list [] true), (.list [] true), (.list [] true), (.list [] true), (.list [] true), (.list [] true), (.int .i64 0), (.int .i64 0), (.int .i64 0), (.int .i64 0), (.int .i64 0), (.int .i64 0), (.bool false), (.bool false)] [(1, 1, (.t 12))], none, [0], false⟩,
ao 14 (.load true 5 (.t 1)),
ao 15 (.call 21 [(.c (.str ⟨#[62, 82]⟩))]),
⟨(some 16), .call 25 [(.t 13), (.t 14), (.t 15), (.c (.int .i64 0))], none, [1, 2, 3, 3], false⟩,
⟨(some 11), .mov (.t 16), none, [4], false⟩,
⟨(some 17), .extract 0 (.t 11), none, [5], false⟩,
⟨(some 18), .extract 1 (.t 11), none, [5], false⟩,
⟨(some 2), .alloc [(.list [] true), (.list [] true), (.list [] true), (.list [] true), (.list [] true), (.list [] true), (.list [] true), (.int .i64 0), (.int .i64 0), (.int .i64 0), (.int .i64 0), (.int .i64 0), (.int .i64 0), (.bool false), (.bool false)], none, [], true⟩,
⟨none, .store 15 (.t 2) (.t 17), none, [8, 6, 4, 0, 1, 2, 3, 4, 5, 6, 8], true⟩,
⟨(some 3), .mov (.t 18), none, [7, 9, 0, 1, 2, 3, 4, 5, 6, 7, 8, 9], false⟩])
(.seq (.calm [ao 20 (.load true 15 (.t 2)),
ao 21 (.load true 5 (.t 1)),
ao 22 (.call 21 [(.c (.str ⟨#[82, 62]⟩))]),
⟨(some 23), .call 25 [(.t 20), (.t 21), (.t 22), (.c (.int .i64 0))], none, [0, 1, 2, 2], false⟩,
⟨(some 19), .mov (.t 23), none, [3], false⟩,
⟨(some 24), .extract 0 (.t 19), none, [4], false⟩,
⟨(some 25), .extract 1 (.t 19), none, [4], false⟩,
⟨(some 4), .alloc [(.list [] true), (.list [] true), (.list [] true), (.list [] true), (.list [] true), (.list [] true), (.list [] true), (.int .i64 0), (.int .i64 0), (.int .i64 0), (.int .i64 0), (.int .i64 0), (.int .i64 0), (.bool false), (.bool false)], none, [], true⟩,
⟨none, .store 15 (.t 4) (.t 24), none, [7, 5, 3, 0, 1, 2, 3, 4, 5, 7], true⟩,
⟨(some 5), .mov (.t 25), none, [6, 8, 0, 1, 2, 3, 4, 5, 6, 7, 8], false⟩])
(.seq (.reg [ao 27 (.buildSlice 1 1 [(.int .i64 0)] [(0, 1, (.c (.int .i64 0)))]),
ao 28 (.build [(.list [] true), (.list [] true), (.list [] true), (.list [] true), (.list [] true), (.list [] true), (.list [] true), (.int .i64 0), (.int .i64 0), (.int .i64 0), (.int .i64 0), (.int .i64 0), (.int .i64 0), (.bool false), (.bool false)] [(1, 1, (.t 27))]),
ao 29 (.load true 5 (.t 1)),
ao 30 (.call 25 [(.t 28), (.t 29), (.c (.int .i64 4)), (.c (.int .i64 300))]),
mv 26 30,
ao 31 (.extract 0 (.t 26)),
ao 32 (.extract 1 (.t 26)),
ao 6 (.alloc [(.list [] true), (.list [] true), (.list [] true), (.list [] true), (.list [] true), (.list [] true), (.list [] true), (.int .i64 0), (.int .i64 0), (.int .i64 0), (.int .i64 0), (.int .i64 0), (.int .i64 0), (.bool false), (.bool false)]),
an (.store 15 (.t 6) (.t 31)),
mv 7 32])
(.seq (.calm [ao 34 (.load true 15 (.t 4)),
ao 35 (.load true 5 (.t 1)),
ao 36 (.call 21 [(.c (.str ⟨#[65, 66, 79, 82, 84]⟩))]),
⟨(some 37), .call 25 [(.t 34), (.t 35), (.t 36), (.c (.int .i64 0))], none, [0, 1, 2, 2], false⟩,
⟨(some 33), .mov (.t 37), none, [3], false⟩,
⟨(some 38), .extract 0 (.t 33), none, [4], false⟩,
⟨(some 39), .extract 1 (.t 33), none, [4], false⟩,
⟨(some 8), .alloc [(.list [] true), (.list [] true), (.list [] true), (.list [] true), (.list [] true), (.list [] true), (.list [] true), (.int .i64 0), (.int .i64 0), (.int .i64 0), (.int .i64 0), (.int .i64 0), (.int .i64 0), (.bool false), (.bool false)], none, [], true⟩,
⟨none, .store 15 (.t 8) (.t 38), none, [7, 5, 3, 0, 1, 2, 3, 4, 5, 7], true⟩,
⟨(some 9), .mov (.t 39), none, [6, 8, 0, 1, 2, 3, 4, 5, 6, 7, 8], false⟩])
(.seq (.reg [mv 40 3,
ao 41 (.bin .eql .no (.t 40) (.c (.int .i64 0))),
mv 42 41,
ag 43 (.fieldAddr 2 (.t 2)) 42 true,
ag 44 (.load false 1 (.t 43)) 42 true,
ag 45 (.len (.t 44)) 42 true,
ag 46 (.bin .eql .no (.t 45) (.c (.int .i64 1))) 42 true,
ao 47 (.pick (.t 42) (.t 46) (.c (.bool false))),
mv 48 47,
ag 49 (.fieldAddr 1 (.t 2)) 48 true,
ag 50 (.load false 1 (.t 49)) 48 true,
ag 51 (.len (.t 50)) 48 true,
ag 52 (.bin .eql .no (.t 51) (.c (.int .i64 0))) 48 true,
ao 53 (.pick (.t 48) (.t 52) (.c (.bool false))),
mv 54 53,
ag 55 (.mov (.t 5)) 54 true,
ag 56 (.bin .eql .no (.t 55) (.c (.int .i64 0))) 54 true,
ao 57 (.pick (.t 54) (.t 56) (.c (.bool false))),
mv 58 57,
ag 59 (.fieldAddr 1 (.t 4)) 58 true,
ag 60 (.load false 1 (.t 59)) 58 true,
ag 61 (.len (.t 60)) 58 true,
ag 62 (.bin .eql .no (.t 61) (.c (.int .i64 1))) 58 true,
ao 63 (.pick (.t 58) (.t 62) (.c (.bool false))),
mv 64 63,
ag 65 (.fieldAddr 1 (.t 4)) 64 true,
ag 66 (.load false 1 (.t 65)) 64 true,
ag 67 (.indexSl 1 (.t 66) (.c (.int .i64 0))) 64 true,
ag 68 (.load false 1 (.t 67)) 64 true,
ag 69 (.bin .eql .no (.t 68) (.c (.int .i64 7))) 64 true,
ao 70 (.pick (.t 64) (.t 69) (.c (.bool false))),
mv 71 70,
ag 72 (.mov (.t 7)) 71 true,
ag 73 (.bin .eql .no (.t 72) (.c (.int .i64 0))) 71 true,
ao 74 (.pick (.t 71) (.t 73) (.c (.bool false))),
mv 75 74,
ag 76 (.fieldAddr 7 (.t 6)) 75 true,
ag 77 (.load false 1 (.t 76)) 75 true,
ag 78 (.bin .eql .no (.t 77) (.c (.int .i64 300))) 75 true,
ao 79 (.pick (.t 75) (.t 78) (.c (.bool false))),
mv 80 79,
ag 81 (.mov (.t 9)) 80 true,
ag 82 (.bin .eql .no (.t 81) (.c (.int .i64 (-1)))) 80 true,
ao 83 (.pick (.t 80) (.t 82) (.c (.bool false))),
mv 0 83])
.ret))))))) }
def w24 : WF := { nt := 19, results := [(4, none)], code :=
(.seq (.reg [ao 2 (.box (.t 0)),
ao 3 (.box (.t 1)),
ao 4 (.mov (.c (.bool false)))])
(.seq (.reg [ao 5 (.load true 15 (.t 2)),
ao 6 (.call 43 [(.t 5)]),
mv 7 6,
ag 8 (.fieldAddr 0 (.t 3)) 7 true,
ag 9 (.load false 1 (.t 8)) 7 true,
ag 10 (.lenS (.t 9)) 7 true,
ag 11 (.bin .leq .no (.t 10) (.c (.int .i64 200))) 7 true,
ao 12 (.pick (.t 7) (.t 11) (.c (.bool false))),
mv 13 12,
ag 14 (.fieldAddr 1 (.t 3)) 13 true,
ag 15 (.load false 1 (.t 14)) 13 true,
ag 16 (.len (.t 15)) 13 true,
ag 17 (.bin .leq .no (.t 16) (.c (.int .i64 40))) 13 true,
ao 18 (.pick (.t 13) (.t 17) (.c (.bool false))),
mv 4 18])
.ret)) }
def w25 : WF := { nt := 87, results := [(8, some (true, 15)), (9, none)], code :=
(.seq (.reg [ao 4 (.box (.t 0)),
ao 5 (.box (.t 1)),
ao 8 (.alloc [(.list [] true), (.list [] true), (.list [] true), (.list [] true), (.list [] true), (.list [] true), (.list [] true), (.int .i64 0), (.int .i64 0), (.int .i64 0), (.int .i64 0), (.int .i64 0), (.int .i64 0), (.bool false), (.bool false)]),
ao 9 (.mov (.c (.int .i64 0)))])
(.seq (.seq (.reg [mv 22 2,
ao 23 (.fieldAddr 1 (.t 4)),
ao 24 (.load false 1 (.t 23)),
ao 25 (.fieldAddr 3 (.t 5)),
ao 26 (.load false 1 (.t 25)),
ao 27 (.call 14 [(.t 22), (.t 24), (.t 26)]),
mv 21 27,
ao 28 (.extract 0 (.t 21)),
ao 29 (.extract 1 (.t 21)),
ao 30 (.extract 2 (.t 21)),
mv 10 28,
mv 11 29,
mv 12 30])
(.seq (.reg [mv 31 12])
(.cond (.t 31)
(.seq (.seq (.reg [mv 32 11,
ao 33 (.bin .neq .no (.t 32) (.c (.int .i64 0)))])
(.cond (.t 33)
(.seq (.reg [ao 34 (.build [(.list [] true), (.list [] true), (.list [] true), (.list [] true), (.list [] true), (.list [] true), (.list [] true), (.int .i64 0), (.int .i64 0), (.int .i64 0), (.int .i64 0), (.int .i64 0), (.int .i64 0), (.bool false), (.bool false)] []),
mv 35 11,
an (.store 15 (.t 8) (.t 34)),
mv 9 35])
.ret)
.skip))
(.seq (.reg [mv 36 10,
ao 37 (.fieldAddr 1 (.t 4)),
an (.store 1 (.t 37) (.t 36))])
(.seq (.reg [ao 38 (.load true 15 (.t 4)),
an (.store 15 (.t 8) (.t 38)),
ao 9 (.mov (.c (.int .i64 0)))])
.ret)))
.skip)))
(.seq (.seq (.reg [ao 40 (.load true 15 (.t 4)),
mv 41 2,
ao 42 (.call 44 [(.t 40), (.t 41)]),
mv 39 42,
ao 43 (.extract 0 (.t 39)),
ao 44 (.extract 1 (.t 39)),
ao 45 (.extract 2 (.t 39)),
ao 13 (.alloc [(.list [] true), (.list [] true), (.list [] true), (.list [] true), (.list [] true), (.list [] true), (.list [] true), (.int .i64 0), (.int .i64 0), (.int .i64 0), (.int .i64 0), (.int .i64 0), (.int .i64 0), (.bool false), (.bool false)]),
an (.store 15 (.t 13) (.t 43)),
mv 14 44,
mv 15 45])
(.seq (.reg [mv 46 15])
(.cond (.t 46)
(.seq (.reg [ao 47 (.load true 15 (.t 13)),
mv 48 14,
an (.store 15 (.t 8) (.t 47)),
mv 9 48])
.ret)
.skip)))
(.seq (.seq (.reg [ao 50 (.load true 15 (.t 4)),
ao 51 (.load true 5 (.t 5)),
mv 52 2,
ao 53 (.call 45 [(.t 50), (.t 51), (.t 52)]),
mv 49 53,
ao 54 (.extract 0 (.t 49)),
ao 55 (.extract 1 (.t 49)),
ao 56 (.extract 2 (.t 49)),
ao 16 (.alloc [(.list [] true), (.list [] true), (.list [] true), (.list [] true), (.list [] true), (.list [] true), (.list [] true), (.int .i64 0), (.int .i64 0), (.int .i64 0), (.int .i64 0), (.int .i64 0), (.int .i64 0), (.bool false), (.bool false)]),
an (.store 15 (.t 16) (.t 54)),
mv 17 55,
mv 18 56])
(.seq (.reg [mv 57 18])
(.cond (.t 57)
(.seq (.reg [ao 58 (.load true 15 (.t 16)),
mv 59 17,
an (.store 15 (.t 8) (.t 58)),
mv 9 59])
.ret)
.skip)))
(.seq (.reg [ao 60 (.load true 15 (.t 4)),
ao 61 (.load true 5 (.t 5)),
mv 62 3,
ao 63 (.build [(.list [] true), (.list [] true), (.list [] true), (.list [] true), (.list [] true), (.list [] true), (.list [] true), (.int .i64 0), (.int .i64 0), (.int .i64 0), (.int .i64 0), (.int .i64 0), (.int .i64 0), (.bool false), (.bool false), (.str ⟨#[]⟩), (.list [] true), (.int .i64 0), (.int .i64 0), (.int .i64 0), (.int .i64 0), (.int .i64 0)] [(0, 15, (.t 60)), (15, 5, (.t 61)), (20, 1, (.t 62))]),
ao 64 (.box (.t 63)),
mv 19 64])
(.seq (.seq (.reg [mv 65 2,
ao 66 (.call 46 [(.t 65)]),
mv 20 66])
(.seq (.reg [mv 67 20,
ao 68 (.bin .neq .func (.t 67) (.c .nilfn))])
(.cond (.t 68)
(.reg [mv 69 20,
mv 70 19,
ao 71 (.callv (.t 69) [(.t 70)])])
(.reg [mv 72 19,
mv 73 2,
ao 74 (.call 47 [(.t 72), (.t 73)])]))))
(.seq (.seq (.reg [mv 75 19,
ao 76 (.call 48 [(.t 75)]),
ao 77 (.un .not (.t 76))])
(.cond (.t 77)
(.seq (.draw [ao 78 (.build [(.list [] true), (.list [] true), (.list [] true), (.list [] true), (.list [] true), (.list [] true), (.list [] true), (.int .i64 0), (.int .i64 0), (.int .i64 0), (.int .i64 0), (.int .i64 0), (.int .i64 0), (.bool false), (.bool false)] []),
mv 79 19,
⟨(some 80), .nilCheck (.t 79), none, [1], false⟩,
⟨(some 81), .fieldAddr 21 (.t 80), none, [2], false⟩,
⟨(some 82), .load false 1 (.t 81), none, [3], false⟩,
⟨none, .store 15 (.t 8) (.t 78), none, [0, 0], true⟩,
⟨(some 9), .mov (.t 82), none, [4, 5, 0, 1, 2, 3, 4, 5], false⟩])
.ret)
.skip))
(.seq (.reg [mv 83 19,
ao 84 (.nilCheck (.t 83)),
ao 85 (.fieldAddr 0 (.t 84)),
ao 86 (.load true 15 (.t 85)),
an (.store 15 (.t 8) (.t 86)),
ao 9 (.mov (.c (.int .i64 0)))])
.ret)))))))) }
def w26 : WF := { nt := 116, results := [(4, none)], code :=
(.seq (.reg [ao 2 (.box (.t 0)),
ao 3 (.box (.t 1)),
ao 4 (.mov (.c (.bool false)))])
(.seq (.reg [ao 7 (.fieldAddr 7 (.t 2)),
ao 8 (.load false 1 (.t 7)),
ao 9 (.fieldAddr 7 (.t 3)),
ao 10 (.load false 1 (.t 9)),
ao 11 (.bin .eql .no (.t 8) (.t 10)),
mv 12 11,
ag 13 (.fieldAddr 8 (.t 2)) 12 true,
ag 14 (.load false 1 (.t 13)) 12 true,
ag 15 (.fieldAddr 8 (.t 3)) 12 true,
ag 16 (.load false 1 (.t 15)) 12 true,
ag 17 (.bin .eql .no (.t 14) (.t 16)) 12 true,
ao 18 (.pick (.t 12) (.t 17) (.c (.bool false))),
mv 19 18,
ag 20 (.fieldAddr 9 (.t 2)) 19 true,
ag 21 (.load false 1 (.t 20)) 19 true,
ag 22 (.fieldAddr 9 (.t 3)) 19 true,
ag 23 (.load false 1 (.t 22)) 19 true,
ag 24 (.bin .eql .no (.t 21) (.t 23)) 19 true,
ao 25 (.pick (.t 19) (.t 24) (.c (.bool false))),
mv 26 25,
ag 27 (.fieldAddr 10 (.t 2)) 26 true,
ag 28 (.load false 1 (.t 27)) 26 true,
ag 29 (.fieldAddr 10 (.t 3)) 26 true,
ag 30 (.load false 1 (.t 29)) 26 true,
ag 31 (.bin .eql .no (.t 28) (.t 30)) 26 true,
ao 32 (.pick (.t 26) (.t 31) (.c (.bool false))),
mv 33 32,
ag 34 (.fieldAddr 11 (.t 2)) 33 true,
ag 35 (.load false 1 (.t 34)) 33 true,
ag 36 (.fieldAddr 11 (.t 3)) 33 true,
ag 37 (.load false 1 (.t 36)) 33 true,
ag 38 (.bin .eql .no (.t 35) (.t 37)) 33 true,
ao 39 (.pick (.t 33) (.t 38) (.c (.bool false))),
mv 40 39,
ag 41 (.fieldAddr 12 (.t 2)) 40 true,
ag 42 (.load false 1 (.t 41)) 40 true,
ag 43 (.fieldAddr 12 (.t 3)) 40 true,
ag 44 (.load false 1 (.t 43)) 40 true,
ag 45 (.bin .eql .no (.t 42) (.t 44)) 40 true,
ao 46 (.pick (.t 40) (.t 45) (.c (.bool false))),
mv 47 46,
ag 48 (.fieldAddr 13 (.t 2)) 47 true,
ag 49 (.load false 1 (.t 48)) 47 true,
ag 50 (.fieldAddr 13 (.t 3)) 47 true,
ag 51 (.load false 1 (.t 50)) 47 true,
ag 52 (.bin .eql .bool (.t 49) (.t 51)) 47 true,
ao 53 (.pick (.t 47) (.t 52) (.c (.bool false))),
mv 54 53,
ag 55 (.fieldAddr 14 (.t 2)) 54 true,
ag 56 (.load false 1 (.t 55)) 54 true,
ag 57 (.fieldAddr 14 (.t 3)) 54 true,
ag 58 (.load false 1 (.t 57)) 54 true,
ag 59 (.bin .eql .bool (.t 56) (.t 58)) 54 true,
ao 60 (.pick (.t 54) (.t 59) (.c (.bool false))),
mv 5 60])
(.seq (.reg [ao 61 (.fieldAddr 1 (.t 2)),
ao 62 (.load false 1 (.t 61)),
ao 63 (.fieldAddr 1 (.t 3)),
ao 64 (.load false 1 (.t 63)),
ao 65 (.call 49 [(.t 62), (.t 64)]),
mv 66 65,
ag 67 (.fieldAddr 2 (.t 2)) 66 true,
ag 68 (.load false 1 (.t 67)) 66 true,
ag 69 (.fieldAddr 2 (.t 3)) 66 true,
ag 70 (.load false 1 (.t 69)) 66 true,
ag 71 (.call 50 [(.t 68), (.t 70)]) 66 true,
ao 72 (.pick (.t 66) (.t 71) (.c (.bool false))),
mv 73 72,
ag 74 (.fieldAddr 3 (.t 2)) 73 true,
ag 75 (.load false 1 (.t 74)) 73 true,
ag 76 (.fieldAddr 3 (.t 3)) 73 true,
ag 77 (.load false 1 (.t 76)) 73 true,
ag 78 (.call 49 [(.t 75), (.t 77)]) 73 true,
ao 79 (.pick (.t 73) (.t 78) (.c (.bool false))),
mv 80 79,
ag 81 (.fieldAddr 4 (.t 2)) 80 true,
ag 82 (.load false 1 (.t 81)) 80 true,
ag 83 (.fieldAddr 4 (.t 3)) 80 true,
ag 84 (.load false 1 (.t 83)) 80 true,
ag 85 (.call 51 [(.t 82), (.t 84)]) 80 true,
ao 86 (.pick (.t 80) (.t 85) (.c (.bool false))),
mv 87 86,
ag 88 (.fieldAddr 5 (.t 2)) 87 true,
ag 89 (.load false 1 (.t 88)) 87 true,
ag 90 (.fieldAddr 5 (.t 3)) 87 true,
ag 91 (.load false 1 (.t 90)) 87 true,
ag 92 (.call 52 [(.t 89), (.t 91)]) 87 true,
ao 93 (.pick (.t 87) (.t 92) (.c (.bool false))),
mv 6 93])
(.seq (.reg [mv 94 5,
mv 95 94,
ag 96 (.mov (.t 6)) 95 true,
ao 97 (.pick (.t 95) (.t 96) (.c (.bool false))),
mv 98 97,
ag 99 (.fieldAddr 0 (.t 2)) 98 true,
ag 100 (.load false 1 (.t 99)) 98 true,
ag 101 (.conv .b2s (.t 100)) 98 true,
ag 102 (.fieldAddr 0 (.t 3)) 98 true,
ag 103 (.load false 1 (.t 102)) 98 true,
ag 104 (.conv .b2s (.t 103)) 98 true,
ag 105 (.bin .eql .no (.t 101) (.t 104)) 98 true,
ao 106 (.pick (.t 98) (.t 105) (.c (.bool false))),
mv 107 106,
ag 108 (.fieldAddr 6 (.t 2)) 107 true,
ag 109 (.load false 1 (.t 108)) 107 true,
ag 110 (.conv .b2s (.t 109)) 107 true,
ag 111 (.fieldAddr 6 (.t 3)) 107 true,
ag 112 (.load false 1 (.t 111)) 107 true,
ag 113 (.conv .b2s (.t 112)) 107 true,
ag 114 (.bin .eql .no (.t 110) (.t 113)) 107 true,
ao 115 (.pick (.t 107) (.t 114) (.c (.bool false))),
mv 4 115])
.ret)))) }
def w27 : WF := { nt := 35, results := [(4, none), (5, none)], code :=
(.seq (.reg [ao 4 (.mov (.c (.int .i64 0))),
ao 5 (.mov (.c (.int .i64 0)))])
(.seq (.reg [mv 11 0,
mv 12 1,
ao 13 (.call 53 [(.t 11), (.t 12)]),
mv 10 13,
ao 14 (.extract 0 (.t 10)),
ao 15 (.extract 1 (.t 10)),
mv 6 14,
mv 7 15])
(.seq (.reg [ao 8 (.mov (.c (.int .u64 0)))])
(.seq (.seq (.reg [mv 16 6,
ao 17 (.len (.t 16)),
ao 18 (.mov (.c (.int .i64 0)))])
(.block 0 (.loop (.seq (.reg [ao 19 (.bin .lss .no (.t 18) (.t 17))])
(.seq (.cond (.t 19)
.skip
(.exit 0))
(.seq (.block 1 (.seq (.reg [mv 20 18,
mv 9 20])
(.reg [mv 21 8,
mv 22 6,
mv 23 9,
ao 24 (.indexSl 1 (.t 22) (.t 23)),
ao 25 (.load false 1 (.t 24)),
ao 26 (.conv (.int .u64) (.t 25)),
mv 27 9,
ao 28 (.bin .mul .no (.c (.int .i64 8)) (.t 27)),
ao 29 (.bin .shl .no (.t 26) (.t 28)),
ao 30 (.bin .or .no (.t 21) (.t 29)),
mv 8 30])))
(.reg [ao 31 (.bin .add .no (.t 18) (.c (.int .i64 1))),
mv 18 31])))))))
(.seq (.reg [mv 32 8,
ao 33 (.conv (.int .i64) (.t 32)),
mv 34 7,
mv 4 33,
mv 5 34])
.ret))))) }
def w28 : WF := { nt := 11, results := [(2, none)], code :=
(.seq (.reg [ao 2 (.mov (.c (.bool false)))])
(.seq (.reg [mv 3 0,
ao 4 (.bin .geq .no (.t 3) (.c (.int .i64 1))),
mv 5 4,
ag 6 (.mov (.t 0)) 5 true,
ag 7 (.call 39 []) 5 true,
ag 8 (.len (.t 7)) 5 true,
ag 9 (.bin .leq .no (.t 6) (.t 8)) 5 true,
ao 10 (.pick (.t 5) (.t 9) (.c (.bool false))),
mv 2 10])
.ret)) }
def w29 : WF := { nt := 15, results := [(0, none)], code :=
(.seq (.reg [ao 0 (.mov (.c .nilmap))])
(.seq (.reg [ao 1 (.mem .makeMap []),
ao 2 (.call 54 [(.c (.fn (.func 55) [] []))]),
an (.mem (.mapPut .str) [(.t 1), (.c (.str ⟨#[68, 85, 80]⟩)), (.t 2)]),
ao 3 (.call 54 [(.c (.fn (.func 57) [] []))]),
an (.mem (.mapPut .str) [(.t 1), (.c (.str ⟨#[68, 82, 79, 80]⟩)), (.t 3)]),
ao 4 (.call 58 [(.c (.fn (.func 59) [] []))]),
an (.mem (.mapPut .str) [(.t 1), (.c (.str ⟨#[83, 87, 65, 80]⟩)), (.t 4)]),
ao 5 (.call 58 [(.c (.fn (.func 60) [] []))]),
an (.mem (.mapPut .str) [(.t 1), (.c (.str ⟨#[79, 86, 69, 82]⟩)), (.t 5)]),
ao 6 (.call 61 [(.c (.fn (.func 62) [] []))]),
an (.mem (.mapPut .str) [(.t 1), (.c (.str ⟨#[82, 79, 84]⟩)), (.t 6)]),
ao 7 (.call 58 [(.c (.fn (.func 63) [] []))]),
an (.mem (.mapPut .str) [(.t 1), (.c (.str ⟨#[78, 73, 80]⟩)), (.t 7)]),
ao 8 (.call 58 [(.c (.fn (.func 64) [] []))]),
an (.mem (.mapPut .str) [(.t 1), (.c (.str ⟨#[84, 85, 67, 75]⟩)), (.t 8)]),
ao 9 (.call 58 [(.c (.fn (.func 65) [] []))]),
an (.mem (.mapPut .str) [(.t 1), (.c (.str ⟨#[50, 68, 85, 80]⟩)), (.t 9)]),
ao 10 (.call 58 [(.c (.fn (.func 66) [] []))]),
an (.mem (.mapPut .str) [(.t 1), (.c (.str ⟨#[50, 68, 82, 79, 80]⟩)), (.t 10)]),
ao 11 (.call 67 [(.c (.fn (.func 68) [] []))]),
an (.mem (.mapPut .str) [(.t 1), (.c (.str ⟨#[50, 83, 87, 65, 80]⟩)), (.t 11)]),
ao 12 (.call 67 [(.c (.fn (.func 69) [] []))]),
an (.mem (.mapPut .str) [(.t 1), (.c (.str ⟨#[50, 79, 86, 69, 82]⟩)), (.t 12)]),
ao 13 (.call 54 [(.c (.fn (.func 70) [] []))]),
an (.mem (.mapPut .str) [(.t 1), (.c (.str ⟨#[63, 68, 85, 80]⟩)), (.t 13)]),
an (.mem (.mapPut .str) [(.t 1), (.c (.str ⟨#[80, 73, 67, 75]⟩)), (.c (.fn (.func 71) [] []))]),
an (.mem (.mapPut .str) [(.t 1), (.c (.str ⟨#[82, 79, 76, 76]⟩)), (.c (.fn (.func 76) [] []))]),
an (.mem (.mapPut .str) [(.t 1), (.c (.str ⟨#[68, 69, 80, 84, 72]⟩)), (.c (.fn (.func 78) [] []))]),
an (.mem (.mapPut .str) [(.t 1), (.c (.str ⟨#[84, 82, 85, 69]⟩)), (.c (.fn (.func 79) [] []))]),
an (.mem (.mapPut .str) [(.t 1), (.c (.str ⟨#[70, 65, 76, 83, 69]⟩)), (.c (.fn (.func 80) [] []))]),
mv 14 1,
mv 0 14])
.ret)) }
def w30 : WF := { nt := 27, results := [(0, none)], code :=
(.seq (.reg [ao 0 (.mov (.c .nilmap))])
(.seq (.reg [ao 1 (.mem .makeMap []),
ao 2 (.call 58 [(.c (.fn (.func 81) [] []))]),
an (.mem (.mapPut .str) [(.t 1), (.c (.str ⟨#[43]⟩)), (.t 2)]),
ao 3 (.call 58 [(.c (.fn (.func 82) [] []))]),
an (.mem (.mapPut .str) [(.t 1), (.c (.str ⟨#[45]⟩)), (.t 3)]),
ao 4 (.call 58 [(.c (.fn (.func 83) [] []))]),
an (.mem (.mapPut .str) [(.t 1), (.c (.str ⟨#[42]⟩)), (.t 4)]),
ao 5 (.call 84 [(.c (.fn (.func 85) [] []))]),
an (.mem (.mapPut .str) [(.t 1), (.c (.str ⟨#[47]⟩)), (.t 5)]),
ao 6 (.call 84 [(.c (.fn (.func 86) [] []))]),
an (.mem (.mapPut .str) [(.t 1), (.c (.str ⟨#[77, 79, 68]⟩)), (.t 6)]),
ao 7 (.call 84 [(.c (.fn (.func 87) [] []))]),
an (.mem (.mapPut .str) [(.t 1), (.c (.str ⟨#[47, 77, 79, 68]⟩)), (.t 7)]),
ao 8 (.call 88 [(.c (.fn (.func 85) [] []))]),
an (.mem (.mapPut .str) [(.t 1), (.c (.str ⟨#[42, 47]⟩)), (.t 8)]),
ao 9 (.call 88 [(.c (.fn (.func 87) [] []))]),
an (.mem (.mapPut .str) [(.t 1), (.c (.str ⟨#[42, 47, 77, 79, 68]⟩)), (.t 9)]),
ao 10 (.call 54 [(.c (.fn (.func 89) [] []))]),
an (.mem (.mapPut .str) [(.t 1), (.c (.str ⟨#[49, 43]⟩)), (.t 10)]),
ao 11 (.call 54 [(.c (.fn (.func 90) [] []))]),
an (.mem (.mapPut .str) [(.t 1), (.c (.str ⟨#[49, 45]⟩)), (.t 11)]),
ao 12 (.call 54 [(.c (.fn (.func 91) [] []))]),
an (.mem (.mapPut .str) [(.t 1), (.c (.str ⟨#[50, 42]⟩)), (.t 12)]),
ao 13 (.call 54 [(.c (.fn (.func 92) [] []))]),
an (.mem (.mapPut .str) [(.t 1), (.c (.str ⟨#[50, 47]⟩)), (.t 13)]),
ao 14 (.call 54 [(.c (.fn (.func 93) [] []))]),
an (.mem (.mapPut .str) [(.t 1), (.c (.str ⟨#[78, 69, 71, 65, 84, 69]⟩)), (.t 14)]),
ao 15 (.call 54 [(.c (.fn (.func 94) [] []))]),
an (.mem (.mapPut .str) [(.t 1), (.c (.str ⟨#[65, 66, 83]⟩)), (.t 15)]),
ao 16 (.call 58 [(.c (.fn (.func 95) [] []))]),
an (.mem (.mapPut .str) [(.t 1), (.c (.str ⟨#[77, 73, 78]⟩)), (.t 16)]),
ao 17 (.call 58 [(.c (.fn (.func 96) [] []))]),
an (.mem (.mapPut .str) [(.t 1), (.c (.str ⟨#[77, 65, 88]⟩)), (.t 17)]),
ao 18 (.call 58 [(.c (.fn (.func 97) [] []))]),
an (.mem (.mapPut .str) [(.t 1), (.c (.str ⟨#[65, 78, 68]⟩)), (.t 18)]),
ao 19 (.call 58 [(.c (.fn (.func 98) [] []))]),
an (.mem (.mapPut .str) [(.t 1), (.c (.str ⟨#[79, 82]⟩)), (.t 19)]),
ao 20 (.call 58 [(.c (.fn (.func 99) [] []))]),
an (.mem (.mapPut .str) [(.t 1), (.c (.str ⟨#[88, 79, 82]⟩)), (.t 20)]),
ao 21 (.call 54 [(.c (.fn (.func 100) [] []))]),
an (.mem (.mapPut .str) [(.t 1), (.c (.str ⟨#[73, 78, 86, 69, 82, 84]⟩)), (.t 21)]),
ao 22 (.call 58 [(.c (.fn (.func 101) [] []))]),
an (.mem (.mapPut .str) [(.t 1), (.c (.str ⟨#[76, 83, 72, 73, 70, 84]⟩)), (.t 22)]),
ao 23 (.call 58 [(.c (.fn (.func 103) [] []))]),
an (.mem (.mapPut .str) [(.t 1), (.c (.str ⟨#[82, 83, 72, 73, 70, 84]⟩)), (.t 23)]),
ao 24 (.call 54 [(.c (.fn (.func 105) [] []))]),
an (.mem (.mapPut .str) [(.t 1), (.c (.str ⟨#[67, 69, 76, 76, 83]⟩)), (.t 24)]),
ao 25 (.call 54 [(.c (.fn (.func 106) [] []))]),
an (.mem (.mapPut .str) [(.t 1), (.c (.str ⟨#[67, 69, 76, 76, 43]⟩)), (.t 25)]),
mv 26 1,
mv 0 26])
.ret)) }
def w31 : WF := { nt := 15, results := [(0, none)], code :=
(.seq (.reg [ao 0 (.mov (.c .nilmap))])
(.seq (.reg [ao 1 (.mem .makeMap []),
ao 2 (.call 58 [(.c (.fn (.func 107) [] []))]),
an (.mem (.mapPut .str) [(.t 1), (.c (.str ⟨#[61]⟩)), (.t 2)]),
ao 3 (.call 58 [(.c (.fn (.func 109) [] []))]),
an (.mem (.mapPut .str) [(.t 1), (.c (.str ⟨#[60, 62]⟩)), (.t 3)]),
ao 4 (.call 58 [(.c (.fn (.func 110) [] []))]),
an (.mem (.mapPut .str) [(.t 1), (.c (.str ⟨#[60]⟩)), (.t 4)]),
ao 5 (.call 58 [(.c (.fn (.func 111) [] []))]),
an (.mem (.mapPut .str) [(.t 1), (.c (.str ⟨#[62]⟩)), (.t 5)]),
ao 6 (.call 58 [(.c (.fn (.func 112) [] []))]),
an (.mem (.mapPut .str) [(.t 1), (.c (.str ⟨#[85, 60]⟩)), (.t 6)]),
ao 7 (.call 54 [(.c (.fn (.func 114) [] []))]),
an (.mem (.mapPut .str) [(.t 1), (.c (.str ⟨#[48, 61]⟩)), (.t 7)]),
ao 8 (.call 54 [(.c (.fn (.func 115) [] []))]),
an (.mem (.mapPut .str) [(.t 1), (.c (.str ⟨#[48, 60]⟩)), (.t 8)]),
ao 9 (.call 54 [(.c (.fn (.func 116) [] []))]),
an (.mem (.mapPut .str) [(.t 1), (.c (.str ⟨#[48, 60, 62]⟩)), (.t 9)]),
ao 10 (.call 54 [(.c (.fn (.func 117) [] []))]),
an (.mem (.mapPut .str) [(.t 1), (.c (.str ⟨#[48, 62]⟩)), (.t 10)]),
ao 11 (.call 61 [(.c (.fn (.func 118) [] []))]),
an (.mem (.mapPut .str) [(.t 1), (.c (.str ⟨#[87, 73, 84, 72, 73, 78]⟩)), (.t 11)]),
ao 12 (.call 58 [(.c (.fn (.func 120) [] []))]),
an (.mem (.mapPut .str) [(.t 1), (.c (.str ⟨#[70, 60]⟩)), (.t 12)]),
ao 13 (.call 58 [(.c (.fn (.func 122) [] []))]),
an (.mem (.mapPut .str) [(.t 1), (.c (.str ⟨#[70, 61]⟩)), (.t 13)]),
mv 14 1,
mv 0 14])
.ret)) }
def w32 : WF := { nt := 27, results := [(0, none)], code :=
(.seq (.reg [ao 0 (.mov (.c .nilmap))])
(.seq (.reg [ao 1 (.mov (.c (.fn (.func 124) [] [])))])
(.seq (.reg [ao 2 (.mov (.c (.fn (.func 127) [] [])))])
(.seq (.reg [ao 3 (.mem .makeMap []),
mv 4 1,
ao 5 (.callv (.t 4) [(.c (.int .u8 43))]),
an (.mem (.mapPut .str) [(.t 3), (.c (.str ⟨#[70, 43]⟩)), (.t 5)]),
mv 6 1,
ao 7 (.callv (.t 6) [(.c (.int .u8 45))]),
an (.mem (.mapPut .str) [(.t 3), (.c (.str ⟨#[70, 45]⟩)), (.t 7)]),
mv 8 1,
ao 9 (.callv (.t 8) [(.c (.int .u8 42))]),
an (.mem (.mapPut .str) [(.t 3), (.c (.str ⟨#[70, 42]⟩)), (.t 9)]),
mv 10 1,
ao 11 (.callv (.t 10) [(.c (.int .u8 47))]),
an (.mem (.mapPut .str) [(.t 3), (.c (.str ⟨#[70, 47]⟩)), (.t 11)]),
mv 12 1,
ao 13 (.callv (.t 12) [(.c (.int .u8 109))]),
an (.mem (.mapPut .str) [(.t 3), (.c (.str ⟨#[70, 77, 73, 78]⟩)), (.t 13)]),
mv 14 1,
ao 15 (.callv (.t 14) [(.c (.int .u8 77))]),
an (.mem (.mapPut .str) [(.t 3), (.c (.str ⟨#[70, 77, 65, 88]⟩)), (.t 15)]),
mv 16 2,
ao 17 (.callv (.t 16) [(.c (.int .u8 110))]),
an (.mem (.mapPut .str) [(.t 3), (.c (.str ⟨#[70, 78, 69, 71, 65, 84, 69]⟩)), (.t 17)]),
mv 18 2,
ao 19 (.callv (.t 18) [(.c (.int .u8 97))]),
an (.mem (.mapPut .str) [(.t 3), (.c (.str ⟨#[70, 65, 66, 83]⟩)), (.t 19)]),
mv 20 2,
ao 21 (.callv (.t 20) [(.c (.int .u8 115))]),
an (.mem (.mapPut .str) [(.t 3), (.c (.str ⟨#[70, 83, 81, 82, 84]⟩)), (.t 21)]),
mv 22 2,
ao 23 (.callv (.t 22) [(.c (.int .u8 102))]),
an (.mem (.mapPut .str) [(.t 3), (.c (.str ⟨#[70, 76, 79, 79, 82]⟩)), (.t 23)]),
ao 24 (.call 54 [(.c (.fn (.func 130) [] []))]),
an (.mem (.mapPut .str) [(.t 3), (.c (.str ⟨#[83, 62, 70]⟩)), (.t 24)]),
ao 25 (.call 54 [(.c (.fn (.func 132) [] []))]),
an (.mem (.mapPut .str) [(.t 3), (.c (.str ⟨#[70, 62, 83]⟩)), (.t 25)]),
mv 26 3,
mv 0 26])
.ret)))) }
def w33 : WF := { nt := 12, results := [], rcv := some 5, code :=
(.block 0 (.seq (.reg [ao 7 (.pur (.isNilI true) [(.t 5)])])
(.cond (.t 7)
(.reg [mv 2 5])
(.seq (.reg [ao 8 (.pur (.assert 67 (some (.int .i64 0))) [(.t 5)]),
ao 9 (.extract 1 (.t 8)),
ao 10 (.extract 0 (.t 8))])
(.cond (.t 9)
(.seq (.reg [mv 3 10])
(.reg [mv 11 3,
an (.store 1 (.t 0) (.c (.list [] true))),
an (.store 1 (.t 1) (.t 11))]))
(.seq (.reg [mv 4 5])
(.reg [mv 6 4,
an (.panic (.t 6))]))))))) }
def w34 : WF := { nt := 8, results := [], code :=
(.seq (.reg [mv 4 0,
ao 5 (.un .not (.t 4))])
(.cond (.t 5)
(.reg [mv 6 1,
ao 7 (.call 74 [(.t 6)])])
.skip)) }
def w35 : WF := { nt := 47, results := [(2, none)], code :=
(.seq (.reg [ao 2 (.mov (.c (.int .i64 0)))])
(.seq (.seq (.reg [mv 3 0,
ao 4 (.bin .lss .no (.t 3) (.c (.int .i64 13))),
mv 5 4,
ag 6 (.mov (.t 0)) 5 false,
ag 7 (.bin .gtr .no (.t 6) (.c (.int .i64 77))) 5 false,
ao 8 (.pick (.t 5) (.c (.bool true)) (.t 7))])
(.cond (.t 8)
(.seq (.reg [ao 2 (.mov (.c (.int .i64 (-1))))])
.ret)
.skip))
(.seq (.seq (.reg [mv 9 0])
(.block 0 (.seq (.seq (.reg [ao 11 (.bin .eql .no (.t 9) (.c (.int .i64 27))),
mv 10 11])
(.cond (.t 10)
.skip
(.seq (.reg [ao 12 (.bin .eql .no (.t 9) (.c (.int .i64 60))),
mv 10 12])
(.cond (.t 10)
.skip
(.reg [ao 13 (.bin .eql .no (.t 9) (.c (.int .i64 61))),
mv 10 13])))))
(.cond (.t 10)
(.seq (.reg [ao 2 (.mov (.c (.int .i64 0)))])
.ret)
(.seq (.seq (.reg [ao 15 (.bin .eql .no (.t 9) (.c (.int .i64 13))),
mv 14 15])
(.cond (.t 14)
.skip
(.seq (.reg [ao 16 (.bin .eql .no (.t 9) (.c (.int .i64 14))),
mv 14 16])
(.cond (.t 14)
.skip
(.seq (.reg [ao 17 (.bin .eql .no (.t 9) (.c (.int .i64 20))),
mv 14 17])
(.cond (.t 14)
.skip
(.seq (.reg [ao 18 (.bin .eql .no (.t 9) (.c (.int .i64 25))),
mv 14 18])
(.cond (.t 14)
.skip
(.seq (.reg [ao 19 (.bin .eql .no (.t 9) (.c (.int .i64 26))),
mv 14 19])
(.cond (.t 14)
.skip
(.seq (.reg [ao 20 (.bin .eql .no (.t 9) (.c (.int .i64 36))),
mv 14 20])
(.cond (.t 14)
.skip
(.seq (.reg [ao 21 (.bin .eql .no (.t 9) (.c (.int .i64 37))),
mv 14 21])
(.cond (.t 14)
.skip
(.seq (.reg [ao 22 (.bin .eql .no (.t 9) (.c (.int .i64 38))),
mv 14 22])
(.cond (.t 14)
.skip
(.seq (.reg [ao 23 (.bin .eql .no (.t 9) (.c (.int .i64 39))),
mv 14 23])
(.cond (.t 14)
.skip
(.seq (.reg [ao 24 (.bin .eql .no (.t 9) (.c (.int .i64 40))),
mv 14 24])
(.cond (.t 14)
.skip
(.seq (.reg [ao 25 (.bin .eql .no (.t 9) (.c (.int .i64 41))),
mv 14 25])
(.cond (.t 14)
.skip
(.seq (.reg [ao 26 (.bin .eql .no (.t 9) (.c (.int .i64 47))),
mv 14 26])
(.cond (.t 14)
.skip
(.seq (.reg [ao 27 (.bin .eql .no (.t 9) (.c (.int .i64 55))),
mv 14 27])
(.cond (.t 14)
.skip
(.seq (.reg [ao 28 (.bin .eql .no (.t 9) (.c (.int .i64 56))),
mv 14 28])
(.cond (.t 14)
.skip
(.seq (.reg [ao 29 (.bin .eql .no (.t 9) (.c (.int .i64 57))),
mv 14 29])
(.cond (.t 14)
.skip
(.seq (.reg [ao 30 (.bin .eql .no (.t 9) (.c (.int .i64 58))),
mv 14 30])
(.cond (.t 14)
.skip
(.seq (.reg [ao 31 (.bin .eql .no (.t 9) (.c (.int .i64 62))),
mv 14 31])
(.cond (.t 14)
.skip
(.seq (.reg [ao 32 (.bin .eql .no (.t 9) (.c (.int .i64 63))),
mv 14 32])
(.cond (.t 14)
.skip
(.seq (.reg [ao 33 (.bin .eql .no (.t 9) (.c (.int .i64 70))),
mv 14 33])
(.cond (.t 14)
.skip
(.seq (.reg [ao 34 (.bin .eql .no (.t 9) (.c (.int .i64 71))),
mv 14 34])
(.cond (.t 14)
.skip
(.seq (.reg [ao 35 (.bin .eql .no (.t 9) (.c (.int .i64 72))),
mv 14 35])
(.cond (.t 14)
.skip
(.seq (.reg [ao 36 (.bin .eql .no (.t 9) (.c (.int .i64 73))),
mv 14 36])
(.cond (.t 14)
.skip
(.seq (.reg [ao 37 (.bin .eql .no (.t 9) (.c (.int .i64 76))),
mv 14 37])
(.cond (.t 14)
.skip
(.reg [ao 38 (.bin .eql .no (.t 9) (.c (.int .i64 77))),
mv 14 38])))))))))))))))))))))))))))))))))))))))))))))))
(.cond (.t 14)
(.seq (.reg [ao 2 (.mov (.c (.int .i64 1)))])
.ret)
(.seq (.seq (.reg [ao 40 (.bin .eql .no (.t 9) (.c (.int .i64 17))),
mv 39 40])
(.cond (.t 39)
.skip
(.seq (.reg [ao 41 (.bin .eql .no (.t 9) (.c (.int .i64 34))),
mv 39 41])
(.cond (.t 39)
.skip
(.seq (.reg [ao 42 (.bin .eql .no (.t 9) (.c (.int .i64 35))),
mv 39 42])
(.cond (.t 39)
.skip
(.reg [ao 43 (.bin .eql .no (.t 9) (.c (.int .i64 59))),
mv 39 43])))))))
(.cond (.t 39)
(.seq (.reg [ao 2 (.mov (.c (.int .i64 3)))])
.ret)
(.seq (.seq (.reg [ao 45 (.bin .eql .no (.t 9) (.c (.int .i64 23))),
mv 44 45])
(.cond (.t 44)
.skip
(.reg [ao 46 (.bin .eql .no (.t 9) (.c (.int .i64 24))),
mv 44 46])))
(.cond (.t 44)
(.seq (.reg [ao 2 (.mov (.c (.int .i64 4)))])
.ret)
.skip))))))))))
(.seq (.reg [ao 2 (.mov (.c (.int .i64 2)))])
.ret)))) }
def w36 : WF := { nt := 27, results := [(4, none), (5, none), (6, none)], code :=
(.seq (.reg [ao 4 (.mov (.c (.list [] true))),
ao 5 (.mov (.c (.list [] true))),
ao 6 (.mov (.c (.int .i64 0)))])
(.seq (.seq (.reg [mv 7 1,
ao 8 (.bin .lss .no (.t 7) (.c (.int .i64 0))),
mv 9 8,
ag 10 (.mov (.t 1)) 9 false,
ag 11 (.mov (.t 0)) 9 false,
ag 12 (.len (.t 11)) 9 false,
ag 13 (.bin .gtr .no (.t 10) (.t 12)) 9 false,
ao 14 (.pick (.t 9) (.c (.bool true)) (.t 13))])
(.cond (.t 14)
(.seq (.reg [ao 4 (.mov (.c (.list [] true))),
ao 5 (.mov (.c (.list [] true))),
ao 6 (.mov (.c (.int .i64 (-4))))])
.ret)
.skip))
(.seq (.calm [mv 15 0,
mv 16 0,
⟨(some 17), .len (.t 16), none, [1], false⟩,
mv 18 1,
⟨(some 19), .bin .sub .no (.t 17) (.t 18), none, [2, 3], false⟩,
⟨(some 20), .slice (.sl 1) (.t 15) none (some (.t 19)) none, none, [0, 4], false⟩,
mv 21 0,
mv 22 0,
⟨(some 23), .len (.t 22), none, [7], false⟩,
mv 24 1,
⟨(some 25), .bin .sub .no (.t 23) (.t 24), none, [8, 9], false⟩,
⟨(some 26), .slice (.sl 1) (.t 21) (some (.t 25)) none none, none, [6, 10], false⟩,
⟨(some 4), .mov (.t 20), none, [5, 0, 1, 2, 3, 4, 5], false⟩,
⟨(some 5), .mov (.t 26), none, [11, 12, 0, 1, 2, 3, 4, 5, 6, 7, 8, 9, 10, 11, 12], false⟩,
⟨(some 6), .mov (.c (.int .i64 0)), none, [13, 0, 1, 2, 3, 4, 5, 6, 7, 8, 9, 10, 11, 12, 13], false⟩])
.ret))) }
def w37 : WF := { nt := 142, results := [(6, none), (7, none), (8, none)], code :=
(.seq (.reg [ao 6 (.mov (.c (.list [] true))),
ao 7 (.mov (.c (.list [] true))),
ao 8 (.mov (.c (.int .i64 0)))])
(.seq (.reg [mv 23 0,
mv 24 2,
ao 25 (.call 134 [(.t 23), (.t 24)]),
mv 22 25,
ao 26 (.extract 0 (.t 22)),
ao 27 (.extract 1 (.t 22)),
mv 9 26,
mv 10 27])
(.seq (.seq (.reg [mv 28 10])
(.cond (.t 28)
(.seq (.reg [mv 29 1,
mv 30 9,
mv 6 29,
mv 7 30,
ao 8 (.mov (.c (.int .i64 0)))])
.ret)
.skip))
(.seq (.reg [mv 32 0,
mv 33 2,
ao 34 (.call 135 [(.t 32), (.t 33)]),
mv 31 34,
ao 35 (.extract 0 (.t 31)),
ao 36 (.extract 1 (.t 31)),
ao 37 (.extract 2 (.t 31)),
mv 11 35,
mv 12 36,
mv 13 37])
(.seq (.seq (.reg [mv 38 13])
(.cond (.t 38)
(.seq (.reg [mv 39 1,
mv 40 11,
mv 41 12,
mv 6 39,
mv 7 40,
mv 8 41])
.ret)
.skip))
(.seq (.seq (.reg [mv 42 0])
(.block 0 (.seq (.reg [ao 44 (.bin .eql .no (.t 42) (.c (.int .i64 25))),
mv 43 44])
(.cond (.t 43)
(.seq (.reg [mv 46 1,
mv 47 2,
ao 48 (.indexSl 1 (.t 47) (.c (.int .i64 0))),
ao 49 (.load false 1 (.t 48)),
ao 50 (.call 136 [(.t 46), (.t 49)]),
mv 45 50,
ao 51 (.extract 0 (.t 45)),
ao 52 (.extract 1 (.t 45)),
mv 14 51,
mv 15 52])
(.seq (.reg [mv 53 1,
mv 54 14,
ao 55 (.buildSlice 1 1 [(.int .i64 0)] [(0, 1, (.t 54))]),
mv 56 15,
mv 6 53,
mv 7 55,
mv 8 56])
.ret))
(.seq (.reg [ao 58 (.bin .eql .no (.t 42) (.c (.int .i64 26))),
mv 57 58])
(.cond (.t 57)
(.seq (.reg [mv 60 1,
mv 61 2,
ao 62 (.indexSl 1 (.t 61) (.c (.int .i64 0))),
ao 63 (.load false 1 (.t 62)),
ao 64 (.call 137 [(.t 60), (.t 63)]),
mv 59 64,
ao 65 (.extract 0 (.t 59)),
ao 66 (.extract 1 (.t 59)),
mv 16 65,
mv 17 66])
(.seq (.reg [mv 67 16,
mv 68 17,
mv 6 67,
ao 7 (.mov (.c (.list [] true))),
mv 8 68])
.ret))
(.seq (.reg [ao 70 (.bin .eql .no (.t 42) (.c (.int .i64 27))),
mv 69 70])
(.cond (.t 69)
(.seq (.reg [mv 71 1,
mv 72 1,
ao 73 (.len (.t 72)),
ao 74 (.buildSlice 1 1 [(.int .i64 0)] [(0, 1, (.t 73))]),
mv 6 71,
mv 7 74,
ao 8 (.mov (.c (.int .i64 0)))])
.ret)
(.seq (.reg [ao 76 (.bin .eql .no (.t 42) (.c (.int .i64 60))),
mv 75 76])
(.cond (.t 75)
(.seq (.reg [mv 77 1,
ao 78 (.buildSlice 1 1 [(.int .i64 0)] [(0, 1, (.c (.int .i64 (-1))))]),
mv 6 77,
mv 7 78,
ao 8 (.mov (.c (.int .i64 0)))])
.ret)
(.seq (.reg [ao 80 (.bin .eql .no (.t 42) (.c (.int .i64 61))),
mv 79 80])
(.cond (.t 79)
(.seq (.reg [mv 81 1,
ao 82 (.buildSlice 1 1 [(.int .i64 0)] [(0, 1, (.c (.int .i64 0)))]),
mv 6 81,
mv 7 82,
ao 8 (.mov (.c (.int .i64 0)))])
.ret)
(.seq (.reg [ao 84 (.bin .eql .no (.t 42) (.c (.int .i64 59))),
mv 83 84])
(.cond (.t 83)
(.seq (.calm [mv 85 1,
mv 86 2,
⟨(some 87), .indexSl 1 (.t 86) (.c (.int .i64 0)), none, [1], false⟩,
⟨(some 88), .load false 1 (.t 87), none, [2], false⟩,
mv 89 2,
⟨(some 90), .indexSl 1 (.t 89) (.c (.int .i64 1)), none, [4], false⟩,
⟨(some 91), .load false 1 (.t 90), none, [5], false⟩,
⟨(some 92), .bin .sub .no (.t 88) (.t 91), none, [3, 6], false⟩,
mv 93 2,
⟨(some 94), .indexSl 1 (.t 93) (.c (.int .i64 2)), none, [8], false⟩,
⟨(some 95), .load false 1 (.t 94), none, [9], false⟩,
mv 96 2,
⟨(some 97), .indexSl 1 (.t 96) (.c (.int .i64 1)), none, [11], false⟩,
⟨(some 98), .load false 1 (.t 97), none, [12], false⟩,
⟨(some 99), .bin .sub .no (.t 95) (.t 98), none, [10, 13], false⟩,
⟨(some 100), .call 139 [(.t 92), (.t 99)], none, [7, 14], false⟩,
⟨(some 101), .call 138 [(.t 100)], none, [15, 15], false⟩,
⟨(some 102), .pur (.lst 1 1 [(.int .i64 0)] [(0, 1)]) [(.t 101)], none, [16], false⟩,
⟨(some 6), .mov (.t 85), none, [0, 16, 0], false⟩,
⟨(some 7), .mov (.t 102), none, [17, 18, 0, 1, 2, 3, 4, 5, 6, 7, 8, 9, 10, 11, 12, 13, 14, 15, 16, 17, 18], false⟩,
⟨(some 8), .mov (.c (.int .i64 0)), none, [19, 0, 1, 2, 3, 4, 5, 6, 7, 8, 9, 10, 11, 12, 13, 14, 15, 16, 17, 18, 19], false⟩])
.ret)
(.seq (.reg [ao 104 (.bin .eql .no (.t 42) (.c (.int .i64 77))),
mv 103 104])
(.cond (.t 103)
(.seq (.reg [mv 106 2,
ao 107 (.indexSl 1 (.t 106) (.c (.int .i64 0))),
ao 108 (.load false 1 (.t 107)),
ao 109 (.call 140 [(.t 108)]),
mv 105 109,
ao 110 (.extract 0 (.t 105)),
ao 111 (.extract 1 (.t 105)),
mv 18 110,
mv 19 111])
(.seq (.seq (.reg [mv 112 19,
ao 113 (.un .not (.t 112))])
(.cond (.t 113)
(.seq (.reg [mv 114 1,
mv 6 114,
ao 7 (.mov (.c (.list [] true))),
ao 8 (.mov (.c (.int .i64 (-11))))])
.ret)
.skip))
(.seq (.reg [mv 115 1,
mv 116 18,
ao 117 (.buildSlice 1 1 [(.int .i64 0)] [(0, 1, (.t 116))]),
mv 6 115,
mv 7 117,
ao 8 (.mov (.c (.int .i64 0)))])
.ret)))
.skip))))))))))))))))
(.seq (.seq (.reg [mv 118 2,
ao 119 (.len (.t 118)),
ao 120 (.bin .eql .no (.t 119) (.c (.int .i64 1)))])
(.cond (.t 120)
(.seq (.reg [mv 122 0,
mv 123 2,
ao 124 (.indexSl 1 (.t 123) (.c (.int .i64 0))),
ao 125 (.load false 1 (.t 124)),
ao 126 (.call 141 [(.t 122), (.t 125)]),
mv 121 126,
ao 127 (.extract 0 (.t 121)),
ao 128 (.extract 1 (.t 121)),
mv 20 127,
mv 21 128])
(.seq (.reg [mv 129 1,
mv 130 20,
ao 131 (.buildSlice 1 1 [(.int .i64 0)] [(0, 1, (.t 130))]),
mv 6 129,
mv 7 131,
ao 8 (.mov (.c (.int .i64 0)))])
.ret))
.skip))
(.seq (.calm [mv 132 1,
mv 133 0,
mv 134 2,
⟨(some 135), .indexSl 1 (.t 134) (.c (.int .i64 0)), none, [2], false⟩,
⟨(some 136), .load false 1 (.t 135), none, [3], false⟩,
mv 137 2,
⟨(some 138), .indexSl 1 (.t 137) (.c (.int .i64 1)), none, [5], false⟩,
⟨(some 139), .load false 1 (.t 138), none, [6], false⟩,
⟨(some 140), .call 142 [(.t 133), (.t 136), (.t 139)], none, [1, 4, 7], false⟩,
⟨(some 141), .pur (.lst 1 1 [(.int .i64 0)] [(0, 1)]) [(.t 140)], none, [8], false⟩,
⟨(some 6), .mov (.t 132), none, [0, 8, 0], false⟩,
⟨(some 7), .mov (.t 141), none, [9, 10, 0, 1, 2, 3, 4, 5, 6, 7, 8, 9, 10], false⟩,
⟨(some 8), .mov (.c (.int .i64 0)), none, [11, 0, 1, 2, 3, 4, 5, 6, 7, 8, 9, 10, 11], false⟩])
.ret)))))))) }
def w38 : WF := { nt := 23, results := [(6, none), (7, none)], code :=
(.seq (.reg [ao 6 (.mov (.c (.list [] true))),
ao 7 (.mov (.c (.int .i64 0)))])
(.seq (.seq (.reg [mv 9 0,
ao 10 (.len (.t 9)),
mv 11 2,
ao 12 (.len (.t 11)),
ao 13 (.bin .add .no (.t 10) (.t 12)),
mv 14 1,
ao 15 (.bin .gtr .no (.t 13) (.t 14))])
(.cond (.t 15)
(.seq (.reg [ao 6 (.mov (.c (.list [] true))),
ao 7 (.mov (.c (.int .i64 (-3))))])
.ret)
.skip))
(.seq (.reg [ao 16 (.buildSlice 1 0 [(.int .i64 0)] []),
mv 17 0,
ao 18 (.append 1 8 none (.t 16) (.t 17)),
mv 8 18])
(.seq (.reg [mv 19 8,
mv 20 2,
ao 21 (.append 1 8 none (.t 19) (.t 20)),
mv 8 21])
(.seq (.reg [mv 22 8,
mv 6 22,
ao 7 (.mov (.c (.int .i64 0)))])
.ret))))) }
def w39 : WF := { nt := 2, results := [(0, none)], code :=
(.seq (.reg [ao 0 (.mov (.c (.list [] true)))])
(.seq (.reg [ao 1 (.call 143 [(.c (.str ⟨#[69, 88, 73, 84, 32, 40, 76, 73, 84, 41, 32, 40, 66, 82, 65, 78, 67, 72, 41, 32, 40, 48, 66, 82, 65, 78, 67, 72, 41, 32, 40, 68, 79, 41, 32, 40, 76, 79, 79, 80, 41, 32, 40, 43, 76, 79, 79, 80, 41, 32, 40, 86, 65, 82, 41, 32, 40, 68, 79, 69, 83, 41, 32, 40, 84, 69, 88, 84, 41, 32, 40, 77, 65, 82, 75, 41, 32, 67, 79, 77, 80, 73, 76, 69, 44, 32, 68, 85, 80, 32, 68, 82, 79, 80, 32, 83, 87, 65, 80, 32, 79, 86, 69, 82, 32, 82, 79, 84, 32, 78, 73, 80, 32, 84, 85, 67, 75, 32, 63, 68, 85, 80, 32, 50, 68, 85, 80, 32, 50, 68, 82, 79, 80, 32, 50, 83, 87, 65, 80, 32, 50, 79, 86, 69, 82, 32, 80, 73, 67, 75, 32, 82, 79, 76, 76, 32, 68, 69, 80, 84, 72, 32, 43, 32, 45, 32, 42, 32, 47, 32, 77, 79, 68, 32, 47, 77, 79, 68, 32, 42, 47, 32, 42, 47, 77, 79, 68, 32, 49, 43, 32, 49, 45, 32, 50, 42, 32, 50, 47, 32, 78, 69, 71, 65, 84, 69, 32, 65, 66, 83, 32, 77, 73, 78, 32, 77, 65, 88, 32, 65, 78, 68, 32, 79, 82, 32, 88, 79, 82, 32, 73, 78, 86, 69, 82, 84, 32, 76, 83, 72, 73, 70, 84, 32, 82, 83, 72, 73, 70, 84, 32, 61, 32, 60, 62, 32, 60, 32, 62, 32, 85, 60, 32, 48, 61, 32, 48, 60, 32, 48, 60, 62, 32, 48, 62, 32, 87, 73, 84, 72, 73, 78, 32, 84, 82, 85, 69, 32, 70, 65, 76, 83, 69, 32, 67, 69, 76, 76, 83, 32, 67, 69, 76, 76, 43, 32, 70, 43, 32, 70, 45, 32, 70, 42, 32, 70, 47, 32, 70, 77, 73, 78, 32, 70, 77, 65, 88, 32, 70, 78, 69, 71, 65, 84, 69, 32, 70, 65, 66, 83, 32, 70, 83, 81, 82, 84, 32, 70, 76, 79, 79, 82, 32, 70, 60, 32, 70, 61, 32, 83, 62, 70, 32, 70, 62, 83, 32, 64, 32, 33, 32, 43, 33, 32, 67, 64, 32, 67, 33, 32, 72, 69, 82, 69, 32, 65, 76, 76, 79, 84, 32, 44, 32, 67, 44, 32, 65, 76, 73, 71, 78, 32, 66, 65, 83, 69, 32, 68, 69, 67, 73, 77, 65, 76, 32, 72, 69, 88, 32, 62, 82, 32, 82, 62, 32, 82, 64, 32, 73, 32, 74, 32, 85, 78, 76, 79, 79, 80, 32, 76, 69, 65, 86, 69, 32, 73, 70, 32, 69, 76, 83, 69, 32, 84, 72, 69, 78, 32, 66, 69, 71, 73, 78, 32, 65, 71, 65, 73, 78, 32, 85, 78, 84, 73, 76, 32, 87, 72, 73, 76, 69, 32, 82, 69, 80, 69, 65, 84, 32, 68, 79, 32, 76, 79, 79, 80, 32, 43, 76, 79, 79, 80, 32, 82, 69, 67, 85, 82, 83, 69, 32, 58, 32, 59, 32, 73, 77, 77, 69, 68, 73, 65, 84, 69, 32, 67, 79, 78, 83, 84, 65, 78, 84, 32, 86, 65, 82, 73, 65, 66, 76, 69, 32, 67, 82, 69, 65, 84, 69, 32, 68, 79, 69, 83, 62, 32, 77, 65, 82, 75, 69, 82, 32, 39, 32, 91, 39, 93, 32, 76, 73, 84, 69, 82, 65, 76, 32, 80, 79, 83, 84, 80, 79, 78, 69, 32, 91, 32, 93, 32, 69, 88, 69, 67, 85, 84, 69, 32, 67, 72, 65, 82, 32, 91, 67, 72, 65, 82, 93, 32, 40, 32, 92, 32, 46, 34, 32, 69, 77, 73, 84, 32, 67, 82, 32, 83, 80, 65, 67, 69, 32, 46, 32, 84, 89, 80, 69, 32, 75, 69, 89, 32, 84, 72, 82, 79, 87, 32, 65, 66, 79, 82, 84]⟩))]),
mv 0 1])
.ret)) }
def w40 : WF := { nt := 18, results := [(0, none)], code :=
(.seq (.reg [ao 0 (.mov (.c .nilmap))])
(.seq (.reg [ao 4 (.mem .makeMap []),
mv 1 4])
(.seq (.seq (.reg [ao 5 (.call 39 []),
ao 6 (.len (.t 5)),
ao 7 (.mov (.c (.int .i64 0)))])
(.block 0 (.loop (.seq (.reg [ao 8 (.bin .lss .no (.t 7) (.t 6))])
(.seq (.cond (.t 8)
.skip
(.exit 0))
(.seq (.block 1 (.seq (.reg [mv 9 7,
ao 10 (.indexSl 1 (.t 5) (.t 7)),
ao 11 (.load false 1 (.t 10)),
mv 2 9,
mv 3 11])
(.reg [mv 12 1,
mv 13 3,
mv 14 2,
ao 15 (.bin .add .no (.t 14) (.c (.int .i64 1))),
an (.mem (.mapPut .str) [(.t 12), (.t 13), (.t 15)])])))
(.reg [ao 16 (.bin .add .no (.t 7) (.c (.int .i64 1))),
mv 7 16])))))))
(.seq (.reg [mv 17 1,
mv 0 17])
.ret)))) }
def w42 : WF := { nt := 16, results := [(2, none)], code :=
(.seq (.reg [ao 2 (.mov (.c (.bool false)))])
(.seq (.reg [mv 3 0,
ao 4 (.call 28 [(.t 3)]),
mv 5 4,
ag 6 (.mov (.t 0)) 5 true,
ag 7 (.call 17 [(.t 6)]) 5 true,
ag 8 (.lenS (.t 7)) 5 true,
ag 9 (.bin .gtr .no (.t 8) (.c (.int .i64 1))) 5 true,
ao 10 (.pick (.t 5) (.t 9) (.c (.bool false))),
mv 11 10,
ag 12 (.mov (.t 0)) 11 true,
ag 13 (.call 17 [(.t 12)]) 11 true,
ag 14 (.call 147 [(.t 13), (.c (.str ⟨#[40]⟩))]) 11 true,
ao 15 (.pick (.t 11) (.t 14) (.c (.bool false))),
mv 2 15])
.ret)) }
def w43 : WF := { nt := 63, results := [(2, none)], code :=
(.seq (.reg [ao 1 (.box (.t 0)),
ao 2 (.mov (.c (.bool false)))])
(.seq (.seq (.reg [ao 3 (.mov (.c (.int .i64 0)))])
(.block 0 (.loop (.seq (.seq (.reg [mv 4 3,
ao 5 (.fieldAddr 4 (.t 1)),
ao 6 (.load false 1 (.t 5)),
ao 7 (.len (.t 6)),
ao 8 (.bin .lss .no (.t 4) (.t 7)),
mv 9 8,
ag 10 (.mov (.t 3)) 9 true,
ag 11 (.bin .lss .no (.t 10) (.c (.int .i64 41))) 9 true,
ao 12 (.pick (.t 9) (.t 11) (.c (.bool false)))])
(.cond (.t 12)
.skip
(.exit 0)))
(.seq (.block 1 (.seq (.reg [ao 15 (.fieldAddr 4 (.t 1)),
ao 16 (.load false 1 (.t 15)),
mv 17 3,
ao 18 (.indexSl 4 (.t 16) (.t 17)),
ao 19 (.fieldAddr 0 (.t 18)),
ao 20 (.load false 1 (.t 19)),
ao 21 (.lenS (.t 20)),
ao 22 (.bin .gtr .no (.t 21) (.c (.int .i64 60)))])
(.cond (.t 22)
(.seq (.reg [ao 2 (.mov (.c (.bool false)))])
.ret)
.skip)))
(.reg [mv 13 3,
ao 14 (.bin .add .no (.t 13) (.c (.int .i64 1))),
mv 3 14]))))))
(.seq (.reg [ao 23 (.fieldAddr 0 (.t 1)),
ao 24 (.load false 1 (.t 23)),
ao 25 (.len (.t 24)),
ao 26 (.bin .leq .no (.t 25) (.c (.int .i64 600))),
mv 27 26,
ag 28 (.fieldAddr 1 (.t 1)) 27 true,
ag 29 (.load false 1 (.t 28)) 27 true,
ag 30 (.len (.t 29)) 27 true,
ag 31 (.bin .leq .no (.t 30) (.c (.int .i64 40))) 27 true,
ao 32 (.pick (.t 27) (.t 31) (.c (.bool false))),
mv 33 32,
ag 34 (.fieldAddr 2 (.t 1)) 33 true,
ag 35 (.load false 1 (.t 34)) 33 true,
ag 36 (.len (.t 35)) 33 true,
ag 37 (.bin .leq .no (.t 36) (.c (.int .i64 40))) 33 true,
ao 38 (.pick (.t 33) (.t 37) (.c (.bool false))),
mv 39 38,
ag 40 (.fieldAddr 3 (.t 1)) 39 true,
ag 41 (.load false 1 (.t 40)) 39 true,
ag 42 (.len (.t 41)) 39 true,
ag 43 (.bin .leq .no (.t 42) (.c (.int .i64 200))) 39 true,
ao 44 (.pick (.t 39) (.t 43) (.c (.bool false))),
mv 45 44,
ag 46 (.fieldAddr 4 (.t 1)) 45 true,
ag 47 (.load false 1 (.t 46)) 45 true,
ag 48 (.len (.t 47)) 45 true,
ag 49 (.bin .leq .no (.t 48) (.c (.int .i64 40))) 45 true,
ao 50 (.pick (.t 45) (.t 49) (.c (.bool false))),
mv 51 50,
ag 52 (.fieldAddr 5 (.t 1)) 51 true,
ag 53 (.load false 1 (.t 52)) 51 true,
ag 54 (.len (.t 53)) 51 true,
ag 55 (.bin .leq .no (.t 54) (.c (.int .i64 100))) 51 true,
ao 56 (.pick (.t 51) (.t 55) (.c (.bool false))),
mv 57 56,
ag 58 (.fieldAddr 6 (.t 1)) 57 true,
ag 59 (.load false 1 (.t 58)) 57 true,
ag 60 (.len (.t 59)) 57 true,
ag 61 (.bin .leq .no (.t 60) (.c (.int .i64 200))) 57 true,
ao 62 (.pick (.t 57) (.t 61) (.c (.bool false))),
mv 2 62])
.ret))) }
def w44 : WF := { nt := 34, results := [(4, some (true, 15)), (5, none), (6, none)], code :=
(.seq (.reg [ao 2 (.box (.t 0)),
ao 4 (.alloc [(.list [] true), (.list [] true), (.list [] true), (.list [] true), (.list [] true), (.list [] true), (.list [] true), (.int .i64 0), (.int .i64 0), (.int .i64 0), (.int .i64 0), (.int .i64 0), (.int .i64 0), (.bool false), (.bool false)]),
ao 5 (.mov (.c (.int .i64 0))),
ao 6 (.mov (.c (.bool false)))])
(.seq (.reg [ao 9 (.call 148 []),
mv 10 1,
ao 11 (.call 17 [(.t 10)]),
ao 12 (.rd (.lookup .str .nilfn false) [(.t 9), (.t 11)]),
mv 7 12])
(.seq (.seq (.reg [mv 13 7,
ao 14 (.bin .eql .func (.t 13) (.c .nilfn))])
(.cond (.t 14)
(.seq (.reg [ao 15 (.build [(.list [] true), (.list [] true), (.list [] true), (.list [] true), (.list [] true), (.list [] true), (.list [] true), (.int .i64 0), (.int .i64 0), (.int .i64 0), (.int .i64 0), (.int .i64 0), (.int .i64 0), (.bool false), (.bool false)] []),
an (.store 15 (.t 4) (.t 15)),
ao 5 (.mov (.c (.int .i64 0))),
ao 6 (.mov (.c (.bool false)))])
.ret)
.skip))
(.seq (.reg [ao 16 (.load true 15 (.t 2)),
ao 17 (.build [(.list [] true), (.list [] true), (.list [] true), (.list [] true), (.list [] true), (.list [] true), (.list [] true), (.int .i64 0), (.int .i64 0), (.int .i64 0), (.int .i64 0), (.int .i64 0), (.int .i64 0), (.bool false), (.bool false), (.int .i64 0)] [(0, 15, (.t 16))]),
ao 18 (.box (.t 17)),
mv 8 18])
(.seq (.reg [mv 19 7,
mv 20 8,
ao 21 (.callv (.t 19) [(.t 20)])])
(.seq (.seq (.reg [mv 22 8,
ao 23 (.call 149 [(.t 22)]),
ao 24 (.un .not (.t 23))])
(.cond (.t 24)
(.seq (.draw [ao 25 (.build [(.list [] true), (.list [] true), (.list [] true), (.list [] true), (.list [] true), (.list [] true), (.list [] true), (.int .i64 0), (.int .i64 0), (.int .i64 0), (.int .i64 0), (.int .i64 0), (.int .i64 0), (.bool false), (.bool false)] []),
mv 26 8,
⟨(some 27), .nilCheck (.t 26), none, [1], false⟩,
⟨(some 28), .fieldAddr 15 (.t 27), none, [2], false⟩,
⟨(some 29), .load false 1 (.t 28), none, [3], false⟩,
⟨none, .store 15 (.t 4) (.t 25), none, [0, 0], true⟩,
⟨(some 5), .mov (.t 29), none, [4, 5, 0, 1, 2, 3, 4, 5], false⟩,
⟨(some 6), .mov (.c (.bool true)), none, [6, 0, 1, 2, 3, 4, 5, 6], false⟩])
.ret)
.skip))
(.seq (.reg [mv 30 8,
ao 31 (.nilCheck (.t 30)),
ao 32 (.fieldAddr 0 (.t 31)),
ao 33 (.load true 15 (.t 32)),
an (.store 15 (.t 4) (.t 33)),
ao 5 (.mov (.c (.int .i64 0))),
ao 6 (.mov (.c (.bool true)))])
.ret))))))) }
def w45 : WF := { nt := 43, results := [(6, some (true, 15)), (7, none), (8, none)], code :=
(.seq (.reg [ao 3 (.box (.t 0)),
ao 4 (.box (.t 1)),
ao 6 (.alloc [(.list [] true), (.list [] true), (.list [] true), (.list [] true), (.list [] true), (.list [] true), (.list [] true), (.int .i64 0), (.int .i64 0), (.int .i64 0), (.int .i64 0), (.int .i64 0), (.int .i64 0), (.bool false), (.bool false)]),
ao 7 (.mov (.c (.int .i64 0))),
ao 8 (.mov (.c (.bool false)))])
(.seq (.reg [ao 11 (.call 150 []),
mv 12 2,
ao 13 (.call 17 [(.t 12)]),
ao 14 (.rd (.lookup .str .nilfn false) [(.t 11), (.t 13)]),
mv 9 14])
(.seq (.seq (.reg [mv 15 9,
ao 16 (.bin .eql .func (.t 15) (.c .nilfn))])
(.cond (.t 16)
(.reg [ao 17 (.call 151 []),
mv 18 2,
ao 19 (.call 17 [(.t 18)]),
ao 20 (.rd (.lookup .str .nilfn false) [(.t 17), (.t 19)]),
mv 9 20])
.skip))
(.seq (.seq (.reg [mv 21 9,
ao 22 (.bin .eql .func (.t 21) (.c .nilfn))])
(.cond (.t 22)
(.seq (.reg [ao 23 (.build [(.list [] true), (.list [] true), (.list [] true), (.list [] true), (.list [] true), (.list [] true), (.list [] true), (.int .i64 0), (.int .i64 0), (.int .i64 0), (.int .i64 0), (.int .i64 0), (.int .i64 0), (.bool false), (.bool false)] []),
an (.store 15 (.t 6) (.t 23)),
ao 7 (.mov (.c (.int .i64 0))),
ao 8 (.mov (.c (.bool false)))])
.ret)
.skip))
(.seq (.reg [ao 24 (.load true 15 (.t 3)),
ao 25 (.load true 5 (.t 4)),
ao 26 (.build [(.list [] true), (.list [] true), (.list [] true), (.list [] true), (.list [] true), (.list [] true), (.list [] true), (.int .i64 0), (.int .i64 0), (.int .i64 0), (.int .i64 0), (.int .i64 0), (.int .i64 0), (.bool false), (.bool false), (.str ⟨#[]⟩), (.list [] true), (.int .i64 0), (.int .i64 0), (.int .i64 0), (.int .i64 0)] [(0, 15, (.t 24)), (15, 5, (.t 25))]),
ao 27 (.box (.t 26)),
mv 10 27])
(.seq (.reg [mv 28 9,
mv 29 10,
ao 30 (.callv (.t 28) [(.t 29)])])
(.seq (.seq (.reg [mv 31 10,
ao 32 (.call 152 [(.t 31)]),
ao 33 (.un .not (.t 32))])
(.cond (.t 33)
(.seq (.draw [ao 34 (.build [(.list [] true), (.list [] true), (.list [] true), (.list [] true), (.list [] true), (.list [] true), (.list [] true), (.int .i64 0), (.int .i64 0), (.int .i64 0), (.int .i64 0), (.int .i64 0), (.int .i64 0), (.bool false), (.bool false)] []),
mv 35 10,
⟨(some 36), .nilCheck (.t 35), none, [1], false⟩,
⟨(some 37), .fieldAddr 20 (.t 36), none, [2], false⟩,
⟨(some 38), .load false 1 (.t 37), none, [3], false⟩,
⟨none, .store 15 (.t 6) (.t 34), none, [0, 0], true⟩,
⟨(some 7), .mov (.t 38), none, [4, 5, 0, 1, 2, 3, 4, 5], false⟩,
⟨(some 8), .mov (.c (.bool true)), none, [6, 0, 1, 2, 3, 4, 5, 6], false⟩])
.ret)
.skip))
(.seq (.reg [mv 39 10,
ao 40 (.nilCheck (.t 39)),
ao 41 (.fieldAddr 0 (.t 40)),
ao 42 (.load true 15 (.t 41)),
an (.store 15 (.t 6) (.t 42)),
ao 7 (.mov (.c (.int .i64 0))),
ao 8 (.mov (.c (.bool true)))])
.ret)))))))) }
def w46 : WF := { nt := 24, results := [(2, none)], code :=
(.seq (.reg [ao 2 (.mov (.c .nilfn))])
(.seq (.seq (.reg [ao 6 (.call 153 []),
ao 7 (.call 154 []),
ao 8 (.call 155 []),
ao 9 (.call 156 []),
ao 10 (.buildSlice 1 4 [.nilmap] [(0, 1, (.t 6)), (1, 1, (.t 7)), (2, 1, (.t 8)), (3, 1, (.t 9))]),
ao 11 (.len (.t 10)),
ao 12 (.mov (.c (.int .i64 0)))])
(.block 0 (.loop (.seq (.reg [ao 13 (.bin .lss .no (.t 12) (.t 11))])
(.seq (.cond (.t 13)
.skip
(.exit 0))
(.seq (.block 1 (.seq (.reg [ao 14 (.indexSl 1 (.t 10) (.t 12)),
ao 15 (.load false 1 (.t 14)),
mv 4 15])
(.seq (.reg [mv 16 4,
mv 17 0,
ao 18 (.call 17 [(.t 17)]),
ao 19 (.rd (.lookup .str .nilfn false) [(.t 16), (.t 18)]),
mv 5 19])
(.seq (.reg [mv 20 5,
ao 21 (.bin .neq .func (.t 20) (.c .nilfn))])
(.cond (.t 21)
(.seq (.reg [mv 22 5,
mv 2 22])
.ret)
.skip)))))
(.reg [ao 23 (.bin .add .no (.t 12) (.c (.int .i64 1))),
mv 12 23])))))))
(.seq (.reg [ao 2 (.mov (.c .nilfn))])
.ret))) }
def w47 : WF := { nt := 31, results := [], code :=
(.seq (.reg [mv 4 0,
mv 5 1,
ao 6 (.bin .geq .no (.t 5) (.c (.int .i64 256))),
ao 7 (.call 157 [(.t 4), (.t 6), (.c (.int .i64 (-9)))])])
(.seq (.reg [mv 8 0,
mv 9 0,
ao 10 (.nilCheck (.t 9)),
ao 11 (.fieldAddr 0 (.t 10)),
ao 12 (.fieldAddr 0 (.t 11)),
ao 13 (.load false 1 (.t 12)),
mv 14 1,
ao 15 (.call 27 [(.t 13), (.t 14)]),
ao 16 (.extract 0 (.t 15)),
ao 17 (.extract 1 (.t 15)),
ao 18 (.call 158 [(.t 8), (.t 16), (.t 17)])])
(.seq (.reg [mv 19 0,
mv 20 0,
ao 21 (.nilCheck (.t 20)),
ao 22 (.fieldAddr 0 (.t 21)),
ao 23 (.fieldAddr 7 (.t 22)),
ao 24 (.load false 1 (.t 23)),
ao 25 (.build [(.int .i64 0), (.bool false)] [(0, 1, (.t 24)), (1, 1, (.c (.bool true)))]),
ao 26 (.buildSlice 2 1 [(.int .i64 0), (.bool false)] [(0, 2, (.t 25))]),
ao 27 (.call 159 [(.t 19), (.t 26)])])
(.reg [mv 28 0,
mv 29 1,
ao 30 (.call 160 [(.t 28), (.t 29)])])))) }
def w48 : WF := { nt := 8, results := [(2, none)], code :=
(.seq (.reg [ao 2 (.mov (.c (.bool false)))])
(.seq (.reg [mv 3 0,
ao 4 (.nilCheck (.t 3)),
ao 5 (.fieldAddr 21 (.t 4)),
ao 6 (.load false 1 (.t 5)),
ao 7 (.bin .eql .no (.t 6) (.c (.int .i64 0))),
mv 2 7])
.ret)) }
def w49 : WF := { nt := 26, results := [(4, none)], code :=
(.seq (.reg [ao 4 (.mov (.c (.bool false)))])
(.seq (.seq (.reg [mv 6 0,
ao 7 (.len (.t 6)),
mv 8 1,
ao 9 (.len (.t 8)),
ao 10 (.bin .neq .no (.t 7) (.t 9))])
(.cond (.t 10)
(.seq (.reg [ao 4 (.mov (.c (.bool false)))])
.ret)
.skip))
(.seq (.seq (.reg [ao 5 (.mov (.c (.int .i64 0)))])
(.block 0 (.loop (.seq (.seq (.reg [mv 11 5,
mv 12 0,
ao 13 (.len (.t 12)),
ao 14 (.bin .lss .no (.t 11) (.t 13))])
(.cond (.t 14)
.skip
(.exit 0)))
(.seq (.block 1 (.seq (.calm [mv 17 0,
mv 18 5,
⟨(some 19), .indexSl 1 (.t 17) (.t 18), none, [0, 1], false⟩,
⟨(some 20), .load false 1 (.t 19), none, [2], false⟩,
mv 21 1,
mv 22 5,
⟨(some 23), .indexSl 1 (.t 21) (.t 22), none, [4, 5], false⟩,
⟨(some 24), .load false 1 (.t 23), none, [6], false⟩,
⟨(some 25), .bin .neq .no (.t 20) (.t 24), none, [3, 7], false⟩])
(.cond (.t 25)
(.seq (.reg [ao 4 (.mov (.c (.bool false)))])
.ret)
.skip)))
(.reg [mv 15 5,
ao 16 (.bin .add .no (.t 15) (.c (.int .i64 1))),
mv 5 16]))))))
(.seq (.reg [ao 4 (.mov (.c (.bool true)))])
.ret)))) }
def w50 : WF := { nt := 26, results := [(4, none)], code :=
(.seq (.reg [ao 4 (.mov (.c (.bool false)))])
(.seq (.seq (.reg [mv 6 0,
ao 7 (.len (.t 6)),
mv 8 1,
ao 9 (.len (.t 8)),
ao 10 (.bin .neq .no (.t 7) (.t 9))])
(.cond (.t 10)
(.seq (.reg [ao 4 (.mov (.c (.bool false)))])
.ret)
.skip))
(.seq (.seq (.reg [ao 5 (.mov (.c (.int .i64 0)))])
(.block 0 (.loop (.seq (.seq (.reg [mv 11 5,
mv 12 0,
ao 13 (.len (.t 12)),
ao 14 (.bin .lss .no (.t 11) (.t 13))])
(.cond (.t 14)
.skip
(.exit 0)))
(.seq (.block 1 (.seq (.calm [mv 17 0,
mv 18 5,
⟨(some 19), .indexSl 2 (.t 17) (.t 18), none, [0, 1], false⟩,
⟨(some 20), .load true 2 (.t 19), none, [2], false⟩,
mv 21 1,
mv 22 5,
⟨(some 23), .indexSl 2 (.t 21) (.t 22), none, [4, 5], false⟩,
⟨(some 24), .load true 2 (.t 23), none, [6], false⟩,
⟨(some 25), .pur (.eqA false [(0, .int), (1, .bool)]) [(.t 20), (.t 24)], none, [3, 7], false⟩])
(.cond (.t 25)
(.seq (.reg [ao 4 (.mov (.c (.bool false)))])
.ret)
.skip)))
(.reg [mv 15 5,
ao 16 (.bin .add .no (.t 15) (.c (.int .i64 1))),
mv 5 16]))))))
(.seq (.reg [ao 4 (.mov (.c (.bool true)))])
.ret)))) }
def w51 : WF := { nt := 26, results := [(4, none)], code :=
(.seq (.reg [ao 4 (.mov (.c (.bool false)))])
(.seq (.seq (.reg [mv 6 0,
ao 7 (.len (.t 6)),
mv 8 1,
ao 9 (.len (.t 8)),
ao 10 (.bin .neq .no (.t 7) (.t 9))])
(.cond (.t 10)
(.seq (.reg [ao 4 (.mov (.c (.bool false)))])
.ret)
.skip))
(.seq (.seq (.reg [ao 5 (.mov (.c (.int .i64 0)))])
(.block 0 (.loop (.seq (.seq (.reg [mv 11 5,
mv 12 0,
ao 13 (.len (.t 12)),
ao 14 (.bin .lss .no (.t 11) (.t 13))])
(.cond (.t 14)
.skip
(.exit 0)))
(.seq (.block 1 (.seq (.calm [mv 17 0,
mv 18 5,
⟨(some 19), .indexSl 4 (.t 17) (.t 18), none, [0, 1], false⟩,
⟨(some 20), .load true 4 (.t 19), none, [2], false⟩,
mv 21 1,
mv 22 5,
⟨(some 23), .indexSl 4 (.t 21) (.t 22), none, [4, 5], false⟩,
⟨(some 24), .load true 4 (.t 23), none, [6], false⟩,
⟨(some 25), .pur (.eqA false [(0, .str), (1, .int), (2, .bool), (3, .bool)]) [(.t 20), (.t 24)], none, [3, 7], false⟩])
(.cond (.t 25)
(.seq (.reg [ao 4 (.mov (.c (.bool false)))])
.ret)
.skip)))
(.reg [mv 15 5,
ao 16 (.bin .add .no (.t 15) (.c (.int .i64 1))),
mv 5 16]))))))
(.seq (.reg [ao 4 (.mov (.c (.bool true)))])
.ret)))) }
def w52 : WF := { nt := 26, results := [(4, none)], code :=
(.seq (.reg [ao 4 (.mov (.c (.bool false)))])
(.seq (.seq (.reg [mv 6 0,
ao 7 (.len (.t 6)),
mv 8 1,
ao 9 (.len (.t 8)),
ao 10 (.bin .neq .no (.t 7) (.t 9))])
(.cond (.t 10)
(.seq (.reg [ao 4 (.mov (.c (.bool false)))])
.ret)
.skip))
(.seq (.seq (.reg [ao 5 (.mov (.c (.int .i64 0)))])
(.block 0 (.loop (.seq (.seq (.reg [mv 11 5,
mv 12 0,
ao 13 (.len (.t 12)),
ao 14 (.bin .lss .no (.t 11) (.t 13))])
(.cond (.t 14)
.skip
(.exit 0)))
(.seq (.block 1 (.seq (.calm [mv 17 0,
mv 18 5,
⟨(some 19), .indexSl 2 (.t 17) (.t 18), none, [0, 1], false⟩,
⟨(some 20), .load true 2 (.t 19), none, [2], false⟩,
mv 21 1,
mv 22 5,
⟨(some 23), .indexSl 2 (.t 21) (.t 22), none, [4, 5], false⟩,
⟨(some 24), .load true 2 (.t 23), none, [6], false⟩,
⟨(some 25), .pur (.eqA false [(0, .int), (1, .int)]) [(.t 20), (.t 24)], none, [3, 7], false⟩])
(.cond (.t 25)
(.seq (.reg [ao 4 (.mov (.c (.bool false)))])
.ret)
.skip)))
(.reg [mv 15 5,
ao 16 (.bin .add .no (.t 15) (.c (.int .i64 1))),
mv 5 16]))))))
(.seq (.reg [ao 4 (.mov (.c (.bool true)))])
.ret)))) }
def w53 : WF := { nt := 23, results := [(4, none), (5, none)], code :=
(.seq (.reg [ao 4 (.mov (.c (.list [] true))),
ao 5 (.mov (.c (.int .i64 0)))])
(.seq (.reg [mv 9 0,
mv 10 1,
ao 11 (.call 161 [(.t 9), (.t 10), (.c (.int .i64 8))]),
mv 8 11,
ao 12 (.extract 0 (.t 8)),
ao 13 (.extract 1 (.t 8)),
mv 6 12,
mv 7 13])
(.seq (.seq (.reg [mv 14 7,
ao 15 (.bin .eql .no (.t 14) (.c (.int .i64 0))),
mv 16 15,
ag 17 (.mov (.t 1)) 16 true,
ag 18 (.bin .rem .no (.t 17) (.c (.int .i64 8))) 16 true,
ag 19 (.bin .neq .no (.t 18) (.c (.int .i64 0))) 16 true,
ao 20 (.pick (.t 16) (.t 19) (.c (.bool false)))])
(.cond (.t 20)
(.seq (.reg [ao 4 (.mov (.c (.list [] true))),
ao 5 (.mov (.c (.int .i64 (-23))))])
.ret)
.skip))
(.seq (.reg [mv 21 6,
mv 22 7,
mv 4 21,
mv 5 22])
.ret)))) }
def w54 : WF := { nt := 4, results := [(2, none)], code :=
(.seq (.reg [ao 1 (.box (.t 0)),
ao 2 (.mov (.c .nilfn))])
(.seq (.reg [ao 3 (.makeFunc (.func 162) [] [(.t 1)]),
mv 2 3])
.ret)) }
def w55 : WF := { nt := 7, results := [(2, none)], code :=
(.seq (.reg [ao 2 (.mov (.c (.list [] true)))])
(.seq (.reg [mv 3 0,
mv 4 0,
ao 5 (.buildSlice 1 2 [(.int .i64 0)] [(0, 1, (.t 3)), (1, 1, (.t 4))]),
ao 6 (.call 56 [(.t 5)]),
mv 2 6])
.ret)) }
def w56 : WF := { nt := 4, results := [(2, none)], code :=
(.seq (.reg [ao 2 (.mov (.c (.list [] true)))])
(.seq (.reg [mv 3 0,
mv 2 3])
.ret)) }
def w57 : WF := { nt := 3, results := [(2, none)], code :=
(.seq (.reg [ao 2 (.mov (.c (.list [] true)))])
(.seq (.reg [ao 2 (.mov (.c (.list [] true)))])
.ret)) }
def w58 : WF := { nt := 4, results := [(2, none)], code :=
(.seq (.reg [ao 1 (.box (.t 0)),
ao 2 (.mov (.c .nilfn))])
(.seq (.reg [ao 3 (.makeFunc (.func 163) [] [(.t 1)]),
mv 2 3])
.ret)) }
def w59 : WF := { nt := 9, results := [(4, none)], code :=
(.seq (.reg [ao 4 (.mov (.c (.list [] true)))])
(.seq (.reg [mv 5 1,
mv 6 0,
ao 7 (.buildSlice 1 2 [(.int .i64 0)] [(0, 1, (.t 5)), (1, 1, (.t 6))]),
ao 8 (.call 56 [(.t 7)]),
mv 4 8])
.ret)) }
def w60 : WF := { nt := 10, results := [(4, none)], code :=
(.seq (.reg [ao 4 (.mov (.c (.list [] true)))])
(.seq (.reg [mv 5 0,
mv 6 1,
mv 7 0,
ao 8 (.buildSlice 1 3 [(.int .i64 0)] [(0, 1, (.t 5)), (1, 1, (.t 6)), (2, 1, (.t 7))]),
ao 9 (.call 56 [(.t 8)]),
mv 4 9])
.ret)) }
def w61 : WF := { nt := 4, results := [(2, none)], code :=
(.seq (.reg [ao 1 (.box (.t 0)),
ao 2 (.mov (.c .nilfn))])
(.seq (.reg [ao 3 (.makeFunc (.func 165) [] [(.t 1)]),
mv 2 3])
.ret)) }
def w62 : WF := { nt := 12, results := [(6, none)], code :=
(.seq (.reg [ao 6 (.mov (.c (.list [] true)))])
(.seq (.reg [mv 7 1,
mv 8 2,
mv 9 0,
ao 10 (.buildSlice 1 3 [(.int .i64 0)] [(0, 1, (.t 7)), (1, 1, (.t 8)), (2, 1, (.t 9))]),
ao 11 (.call 56 [(.t 10)]),
mv 6 11])
.ret)) }
def w63 : WF := { nt := 8, results := [(4, none)], code :=
(.seq (.reg [ao 4 (.mov (.c (.list [] true)))])
(.seq (.reg [mv 5 1,
ao 6 (.buildSlice 1 1 [(.int .i64 0)] [(0, 1, (.t 5))]),
ao 7 (.call 56 [(.t 6)]),
mv 4 7])
.ret)) }
def w64 : WF := { nt := 10, results := [(4, none)], code :=
(.seq (.reg [ao 4 (.mov (.c (.list [] true)))])
(.seq (.reg [mv 5 1,
mv 6 0,
mv 7 1,
ao 8 (.buildSlice 1 3 [(.int .i64 0)] [(0, 1, (.t 5)), (1, 1, (.t 6)), (2, 1, (.t 7))]),
ao 9 (.call 56 [(.t 8)]),
mv 4 9])
.ret)) }
def w65 : WF := { nt := 11, results := [(4, none)], code :=
(.seq (.reg [ao 4 (.mov (.c (.list [] true)))])
(.seq (.reg [mv 5 0,
mv 6 1,
mv 7 0,
mv 8 1,
ao 9 (.buildSlice 1 4 [(.int .i64 0)] [(0, 1, (.t 5)), (1, 1, (.t 6)), (2, 1, (.t 7)), (3, 1, (.t 8))]),
ao 10 (.call 56 [(.t 9)]),
mv 4 10])
.ret)) }
def w66 : WF := { nt := 5, results := [(4, none)], code :=
(.seq (.reg [ao 4 (.mov (.c (.list [] true)))])
(.seq (.reg [ao 4 (.mov (.c (.list [] true)))])
.ret)) }
def w67 : WF := { nt := 4, results := [(2, none)], code :=
(.seq (.reg [ao 1 (.box (.t 0)),
ao 2 (.mov (.c .nilfn))])
(.seq (.reg [ao 3 (.makeFunc (.func 166) [] [(.t 1)]),
mv 2 3])
.ret)) }
def w68 : WF := { nt := 15, results := [(8, none)], code :=
(.seq (.reg [ao 8 (.mov (.c (.list [] true)))])
(.seq (.reg [mv 9 2,
mv 10 3,
mv 11 0,
mv 12 1,
ao 13 (.buildSlice 1 4 [(.int .i64 0)] [(0, 1, (.t 9)), (1, 1, (.t 10)), (2, 1, (.t 11)), (3, 1, (.t 12))]),
ao 14 (.call 56 [(.t 13)]),
mv 8 14])
.ret)) }
def w69 : WF := { nt := 17, results := [(8, none)], code :=
(.seq (.reg [ao 8 (.mov (.c (.list [] true)))])
(.seq (.reg [mv 9 0,
mv 10 1,
mv 11 2,
mv 12 3,
mv 13 0,
mv 14 1,
ao 15 (.buildSlice 1 6 [(.int .i64 0)] [(0, 1, (.t 9)), (1, 1, (.t 10)), (2, 1, (.t 11)), (3, 1, (.t 12)), (4, 1, (.t 13)), (5, 1, (.t 14))]),
ao 16 (.call 56 [(.t 15)]),
mv 8 16])
.ret)) }
def w70 : WF := { nt := 11, results := [(2, none)], code :=
(.seq (.reg [ao 2 (.mov (.c (.list [] true)))])
(.seq (.seq (.reg [mv 3 0,
ao 4 (.bin .eql .no (.t 3) (.c (.int .i64 0)))])
(.cond (.t 4)
(.seq (.reg [ao 5 (.buildSlice 1 1 [(.int .i64 0)] [(0, 1, (.c (.int .i64 0)))]),
ao 6 (.call 56 [(.t 5)]),
mv 2 6])
.ret)
.skip))
(.seq (.reg [mv 7 0,
mv 8 0,
ao 9 (.buildSlice 1 2 [(.int .i64 0)] [(0, 1, (.t 7)), (1, 1, (.t 8))]),
ao 10 (.call 56 [(.t 9)]),
mv 2 10])
.ret))) }
def w71 : WF := { nt := 22, results := [], code :=
(.seq (.reg [mv 5 0,
ao 6 (.call 72 [(.t 5)]),
mv 2 6])
(.seq (.reg [mv 8 0,
ao 9 (.nilCheck (.t 8)),
ao 10 (.fieldAddr 0 (.t 9)),
ao 11 (.load false 1 (.t 10)),
mv 12 2,
ao 13 (.call 73 [(.t 11), (.t 12)]),
mv 7 13,
ao 14 (.extract 0 (.t 7)),
ao 15 (.extract 1 (.t 7)),
mv 3 14,
mv 4 15])
(.seq (.reg [mv 16 4,
ao 17 (.call 74 [(.t 16)])])
(.reg [mv 18 0,
mv 19 3,
ao 20 (.buildSlice 1 1 [(.int .i64 0)] [(0, 1, (.t 19))]),
ao 21 (.call 75 [(.t 18), (.t 20)])])))) }
def w72 : WF := { nt := 24, results := [(2, none)], code :=
(.seq (.reg [ao 2 (.mov (.c (.int .i64 0)))])
(.seq (.reg [mv 7 0,
ao 8 (.nilCheck (.t 7)),
ao 9 (.fieldAddr 0 (.t 8)),
ao 10 (.load false 1 (.t 9)),
ao 11 (.call 167 [(.t 10), (.c (.int .i64 1))]),
mv 6 11,
ao 12 (.extract 0 (.t 6)),
ao 13 (.extract 1 (.t 6)),
ao 14 (.extract 2 (.t 6)),
mv 3 12,
mv 4 13,
mv 5 14])
(.seq (.reg [mv 15 5,
ao 16 (.call 74 [(.t 15)])])
(.seq (.reg [mv 17 0,
mv 18 3,
ao 19 (.nilCheck (.t 17)),
ao 20 (.fieldAddr 0 (.t 19)),
an (.store 1 (.t 20) (.t 18))])
(.seq (.reg [mv 21 4,
ao 22 (.indexSl 1 (.t 21) (.c (.int .i64 0))),
ao 23 (.load false 1 (.t 22)),
mv 2 23])
.ret))))) }
def w73 : WF := { nt := 21, results := [(4, none), (5, none)], code :=
(.seq (.reg [ao 4 (.mov (.c (.int .i64 0))),
ao 5 (.mov (.c (.int .i64 0)))])
(.seq (.reg [mv 9 0,
mv 10 1,
ao 11 (.call 168 [(.t 9), (.t 10)]),
mv 8 11,
ao 12 (.extract 0 (.t 8)),
ao 13 (.extract 1 (.t 8)),
mv 6 12,
mv 7 13])
(.seq (.seq (.reg [mv 14 7,
ao 15 (.bin .neq .no (.t 14) (.c (.int .i64 0)))])
(.cond (.t 15)
(.seq (.reg [mv 16 7,
ao 4 (.mov (.c (.int .i64 0))),
mv 5 16])
.ret)
.skip))
(.seq (.reg [mv 17 0,
mv 18 6,
ao 19 (.indexSl 1 (.t 17) (.t 18)),
ao 20 (.load false 1 (.t 19)),
mv 4 20,
ao 5 (.mov (.c (.int .i64 0)))])
.ret)))) }
def w74 : WF := { nt := 6, results := [], code :=
(.seq (.reg [mv 2 0,
ao 3 (.bin .neq .no (.t 2) (.c (.int .i64 0)))])
(.cond (.t 3)
(.reg [mv 4 0,
ao 5 (.makeIface 67 (.t 4)),
an (.panic (.t 5))])
.skip)) }
def w75 : WF := { nt := 24, results := [], code :=
(.calm [mv 4 0,
mv 5 0,
⟨(some 6), .nilCheck (.t 5), none, [1], false⟩,
⟨(some 7), .fieldAddr 0 (.t 6), none, [2], false⟩,
⟨(some 8), .load false 1 (.t 7), none, [3], false⟩,
mv 9 0,
⟨(some 10), .nilCheck (.t 9), none, [5], false⟩,
⟨(some 11), .fieldAddr 0 (.t 10), none, [6], false⟩,
⟨(some 12), .load false 1 (.t 11), none, [7], false⟩,
⟨(some 13), .len (.t 12), none, [8], false⟩,
mv 14 0,
⟨(some 15), .nilCheck (.t 14), none, [10], false⟩,
⟨(some 16), .fieldAddr 0 (.t 15), none, [11], false⟩,
⟨(some 17), .load false 1 (.t 16), none, [12], false⟩,
⟨(some 18), .len (.t 17), none, [13], false⟩,
⟨(some 19), .slice (.sl 1) (.t 8) none (some (.t 13)) (some (.t 18)), none, [4, 9, 14], false⟩,
mv 20 1,
⟨(some 21), .append 1 8 none (.t 19) (.t 20), none, [15, 16], true⟩,
⟨(some 22), .nilCheck (.t 4), none, [0, 0, 1, 2, 3, 4, 5, 6, 7, 8, 9, 10, 11, 12, 13, 14, 15, 16, 17], false⟩,
⟨(some 23), .fieldAddr 0 (.t 22), none, [18, 0, 1, 2, 3, 4, 5, 6, 7, 8, 9, 10, 11, 12, 13, 14, 15, 16, 17], false⟩,
⟨none, .store 1 (.t 23) (.t 21), none, [19, 17, 17, 0, 1, 2, 3, 4, 5, 6, 7, 8, 9, 10, 11, 12, 13, 14, 15, 16, 17], true⟩]) }
def w76 : WF := { nt := 22, results := [], code :=
(.seq (.reg [mv 5 0,
ao 6 (.call 72 [(.t 5)]),
mv 2 6])
(.seq (.reg [mv 8 0,
ao 9 (.nilCheck (.t 8)),
ao 10 (.fieldAddr 0 (.t 9)),
ao 11 (.load false 1 (.t 10)),
mv 12 2,
ao 13 (.call 77 [(.t 11), (.t 12)]),
mv 7 13,
ao 14 (.extract 0 (.t 7)),
ao 15 (.extract 1 (.t 7)),
mv 3 14,
mv 4 15])
(.seq (.reg [mv 16 4,
ao 17 (.call 74 [(.t 16)])])
(.reg [mv 18 0,
mv 19 3,
ao 20 (.nilCheck (.t 18)),
ao 21 (.fieldAddr 0 (.t 20)),
an (.store 1 (.t 21) (.t 19))])))) }
def w77 : WF := { nt := 31, results := [(4, none), (5, none)], code :=
(.seq (.reg [ao 4 (.mov (.c (.list [] true))),
ao 5 (.mov (.c (.int .i64 0)))])
(.seq (.reg [mv 9 0,
mv 10 1,
ao 11 (.call 168 [(.t 9), (.t 10)]),
mv 8 11,
ao 12 (.extract 0 (.t 8)),
ao 13 (.extract 1 (.t 8)),
mv 6 12,
mv 7 13])
(.seq (.seq (.reg [mv 14 7,
ao 15 (.bin .neq .no (.t 14) (.c (.int .i64 0)))])
(.cond (.t 15)
(.seq (.reg [mv 16 7,
ao 4 (.mov (.c (.list [] true))),
mv 5 16])
.ret)
.skip))
(.seq (.calm [mv 17 0,
mv 18 6,
⟨(some 19), .slice (.sl 1) (.t 17) none (some (.t 18)) none, none, [0, 1], false⟩,
mv 20 0,
mv 21 6,
⟨(some 22), .bin .add .no (.t 21) (.c (.int .i64 1)), none, [4], false⟩,
⟨(some 23), .slice (.sl 1) (.t 20) (some (.t 22)) none none, none, [3, 5], false⟩,
mv 24 0,
mv 25 6,
mv 26 6,
⟨(some 27), .bin .add .no (.t 26) (.c (.int .i64 1)), none, [9], false⟩,
⟨(some 28), .slice (.sl 1) (.t 24) (some (.t 25)) (some (.t 27)) none, none, [7, 8, 10], false⟩,
⟨(some 29), .pur (.lst 1 3 [(.list [] true)] [(0, 1), (1, 1), (2, 1)]) [(.t 19), (.t 23), (.t 28)], none, [2, 6, 11], false⟩,
⟨(some 30), .call 169 [(.t 29)], none, [12], true⟩,
⟨(some 4), .mov (.t 30), none, [13, 13, 0, 1, 2, 3, 4, 5, 6, 7, 8, 9, 10, 11, 12, 13], false⟩,
⟨(some 5), .mov (.c (.int .i64 0)), none, [14, 0, 1, 2, 3, 4, 5, 6, 7, 8, 9, 10, 11, 12, 13, 14], false⟩])
.ret)))) }
def w78 : WF := { nt := 10, results := [], code :=
(.reg [mv 2 0,
mv 3 0,
ao 4 (.nilCheck (.t 3)),
ao 5 (.fieldAddr 0 (.t 4)),
ao 6 (.load false 1 (.t 5)),
ao 7 (.len (.t 6)),
ao 8 (.buildSlice 1 1 [(.int .i64 0)] [(0, 1, (.t 7))]),
ao 9 (.call 75 [(.t 2), (.t 8)])]) }
def w79 : WF := { nt := 5, results := [], code :=
(.reg [mv 2 0,
ao 3 (.buildSlice 1 1 [(.int .i64 0)] [(0, 1, (.c (.int .i64 (-1))))]),
ao 4 (.call 75 [(.t 2), (.t 3)])]) }
def w80 : WF := { nt := 5, results := [], code :=
(.reg [mv 2 0,
ao 3 (.buildSlice 1 1 [(.int .i64 0)] [(0, 1, (.c (.int .i64 0)))]),
ao 4 (.call 75 [(.t 2), (.t 3)])]) }
def w81 : WF := { nt := 10, results := [(4, none)], code :=
(.seq (.reg [ao 4 (.mov (.c (.list [] true)))])
(.seq (.reg [mv 5 0,
mv 6 1,
ao 7 (.bin .add .no (.t 5) (.t 6)),
ao 8 (.buildSlice 1 1 [(.int .i64 0)] [(0, 1, (.t 7))]),
ao 9 (.call 56 [(.t 8)]),
mv 4 9])
.ret)) }
def w82 : WF := { nt := 10, results := [(4, none)], code :=
(.seq (.reg [ao 4 (.mov (.c (.list [] true)))])
(.seq (.reg [mv 5 0,
mv 6 1,
ao 7 (.bin .sub .no (.t 5) (.t 6)),
ao 8 (.buildSlice 1 1 [(.int .i64 0)] [(0, 1, (.t 7))]),
ao 9 (.call 56 [(.t 8)]),
mv 4 9])
.ret)) }
def w83 : WF := { nt := 10, results := [(4, none)], code :=
(.seq (.reg [ao 4 (.mov (.c (.list [] true)))])
(.seq (.reg [mv 5 0,
mv 6 1,
ao 7 (.bin .mul .no (.t 5) (.t 6)),
ao 8 (.buildSlice 1 1 [(.int .i64 0)] [(0, 1, (.t 7))]),
ao 9 (.call 56 [(.t 8)]),
mv 4 9])
.ret)) }
def w84 : WF := { nt := 5, results := [(2, none)], code :=
(.seq (.reg [ao 1 (.box (.t 0)),
ao 2 (.mov (.c .nilfn))])
(.seq (.reg [ao 3 (.makeFunc (.func 170) [] [(.t 1)]),
ao 4 (.call 58 [(.t 3)]),
mv 2 4])
.ret)) }
def w85 : WF := { nt := 8, results := [(4, none)], code :=
(.seq (.reg [ao 4 (.mov (.c (.list [] true)))])
(.seq (.reg [mv 5 0,
ao 6 (.buildSlice 1 1 [(.int .i64 0)] [(0, 1, (.t 5))]),
ao 7 (.call 56 [(.t 6)]),
mv 4 7])
.ret)) }
def w86 : WF := { nt := 8, results := [(4, none)], code :=
(.seq (.reg [ao 4 (.mov (.c (.list [] true)))])
(.seq (.reg [mv 5 1,
ao 6 (.buildSlice 1 1 [(.int .i64 0)] [(0, 1, (.t 5))]),
ao 7 (.call 56 [(.t 6)]),
mv 4 7])
.ret)) }
def w87 : WF := { nt := 9, results := [(4, none)], code :=
(.seq (.reg [ao 4 (.mov (.c (.list [] true)))])
(.seq (.reg [mv 5 1,
mv 6 0,
ao 7 (.buildSlice 1 2 [(.int .i64 0)] [(0, 1, (.t 5)), (1, 1, (.t 6))]),
ao 8 (.call 56 [(.t 7)]),
mv 4 8])
.ret)) }
def w88 : WF := { nt := 5, results := [(2, none)], code :=
(.seq (.reg [ao 1 (.box (.t 0)),
ao 2 (.mov (.c .nilfn))])
(.seq (.reg [ao 3 (.makeFunc (.func 173) [] [(.t 1)]),
ao 4 (.call 61 [(.t 3)]),
mv 2 4])
.ret)) }
def w89 : WF := { nt := 7, results := [(2, none)], code :=
(.seq (.reg [ao 2 (.mov (.c (.list [] true)))])
(.seq (.reg [mv 3 0,
ao 4 (.bin .add .no (.t 3) (.c (.int .i64 1))),
ao 5 (.buildSlice 1 1 [(.int .i64 0)] [(0, 1, (.t 4))]),
ao 6 (.call 56 [(.t 5)]),
mv 2 6])
.ret)) }
def w90 : WF := { nt := 7, results := [(2, none)], code :=
(.seq (.reg [ao 2 (.mov (.c (.list [] true)))])
(.seq (.reg [mv 3 0,
ao 4 (.bin .sub .no (.t 3) (.c (.int .i64 1))),
ao 5 (.buildSlice 1 1 [(.int .i64 0)] [(0, 1, (.t 4))]),
ao 6 (.call 56 [(.t 5)]),
mv 2 6])
.ret)) }
def w91 : WF := { nt := 7, results := [(2, none)], code :=
(.seq (.reg [ao 2 (.mov (.c (.list [] true)))])
(.seq (.reg [mv 3 0,
ao 4 (.bin .mul .no (.t 3) (.c (.int .i64 2))),
ao 5 (.buildSlice 1 1 [(.int .i64 0)] [(0, 1, (.t 4))]),
ao 6 (.call 56 [(.t 5)]),
mv 2 6])
.ret)) }
def w92 : WF := { nt := 7, results := [(2, none)], code :=
(.seq (.reg [ao 2 (.mov (.c (.list [] true)))])
(.seq (.reg [mv 3 0,
ao 4 (.bin .shr .no (.t 3) (.c (.int .u64 1))),
ao 5 (.buildSlice 1 1 [(.int .i64 0)] [(0, 1, (.t 4))]),
ao 6 (.call 56 [(.t 5)]),
mv 2 6])
.ret)) }
def w93 : WF := { nt := 7, results := [(2, none)], code :=
(.seq (.reg [ao 2 (.mov (.c (.list [] true)))])
(.seq (.reg [mv 3 0,
ao 4 (.un .neg (.t 3)),
ao 5 (.buildSlice 1 1 [(.int .i64 0)] [(0, 1, (.t 4))]),
ao 6 (.call 56 [(.t 5)]),
mv 2 6])
.ret)) }
def w94 : WF := { nt := 9, results := [(2, none)], code :=
(.seq (.reg [ao 2 (.mov (.c (.list [] true)))])
(.seq (.reg [mv 3 0,
mv 4 0,
ao 5 (.un .neg (.t 4)),
ao 6 (.max [(.t 3), (.t 5)]),
ao 7 (.buildSlice 1 1 [(.int .i64 0)] [(0, 1, (.t 6))]),
ao 8 (.call 56 [(.t 7)]),
mv 2 8])
.ret)) }
def w95 : WF := { nt := 10, results := [(4, none)], code :=
(.seq (.reg [ao 4 (.mov (.c (.list [] true)))])
(.seq (.reg [mv 5 0,
mv 6 1,
ao 7 (.min [(.t 5), (.t 6)]),
ao 8 (.buildSlice 1 1 [(.int .i64 0)] [(0, 1, (.t 7))]),
ao 9 (.call 56 [(.t 8)]),
mv 4 9])
.ret)) }
def w96 : WF := { nt := 10, results := [(4, none)], code :=
(.seq (.reg [ao 4 (.mov (.c (.list [] true)))])
(.seq (.reg [mv 5 0,
mv 6 1,
ao 7 (.max [(.t 5), (.t 6)]),
ao 8 (.buildSlice 1 1 [(.int .i64 0)] [(0, 1, (.t 7))]),
ao 9 (.call 56 [(.t 8)]),
mv 4 9])
.ret)) }
def w97 : WF := { nt := 10, results := [(4, none)], code :=
(.seq (.reg [ao 4 (.mov (.c (.list [] true)))])
(.seq (.reg [mv 5 0,
mv 6 1,
ao 7 (.bin .and .no (.t 5) (.t 6)),
ao 8 (.buildSlice 1 1 [(.int .i64 0)] [(0, 1, (.t 7))]),
ao 9 (.call 56 [(.t 8)]),
mv 4 9])
.ret)) }
def w98 : WF := { nt := 10, results := [(4, none)], code :=
(.seq (.reg [ao 4 (.mov (.c (.list [] true)))])
(.seq (.reg [mv 5 0,
mv 6 1,
ao 7 (.bin .or .no (.t 5) (.t 6)),
ao 8 (.buildSlice 1 1 [(.int .i64 0)] [(0, 1, (.t 7))]),
ao 9 (.call 56 [(.t 8)]),
mv 4 9])
.ret)) }
def w99 : WF := { nt := 10, results := [(4, none)], code :=
(.seq (.reg [ao 4 (.mov (.c (.list [] true)))])
(.seq (.reg [mv 5 0,
mv 6 1,
ao 7 (.bin .xor .no (.t 5) (.t 6)),
ao 8 (.buildSlice 1 1 [(.int .i64 0)] [(0, 1, (.t 7))]),
ao 9 (.call 56 [(.t 8)]),
mv 4 9])
.ret)) }
def w100 : WF := { nt := 7, results := [(2, none)], code :=
(.seq (.reg [ao 2 (.mov (.c (.list [] true)))])
(.seq (.reg [mv 3 0,
ao 4 (.un .xor (.t 3)),
ao 5 (.buildSlice 1 1 [(.int .i64 0)] [(0, 1, (.t 4))]),
ao 6 (.call 56 [(.t 5)]),
mv 2 6])
.ret)) }
def w101 : WF := { nt := 10, results := [(4, none)], code :=
(.seq (.reg [ao 4 (.mov (.c (.list [] true)))])
(.seq (.reg [mv 5 0,
mv 6 1,
ao 7 (.call 102 [(.t 5), (.t 6)]),
ao 8 (.buildSlice 1 1 [(.int .i64 0)] [(0, 1, (.t 7))]),
ao 9 (.call 56 [(.t 8)]),
mv 4 9])
.ret)) }
def w102 : WF := { nt := 11, results := [(4, none)], code :=
(.seq (.reg [ao 4 (.mov (.c (.int .i64 0)))])
(.seq (.reg [mv 5 0,
ao 6 (.conv (.int .u64) (.t 5)),
mv 7 1,
ao 8 (.conv (.int .u64) (.t 7)),
ao 9 (.bin .shl .no (.t 6) (.t 8)),
ao 10 (.conv (.int .i64) (.t 9)),
mv 4 10])
.ret)) }
def w103 : WF := { nt := 10, results := [(4, none)], code :=
(.seq (.reg [ao 4 (.mov (.c (.list [] true)))])
(.seq (.reg [mv 5 0,
mv 6 1,
ao 7 (.call 104 [(.t 5), (.t 6)]),
ao 8 (.buildSlice 1 1 [(.int .i64 0)] [(0, 1, (.t 7))]),
ao 9 (.call 56 [(.t 8)]),
mv 4 9])
.ret)) }
def w104 : WF := { nt := 11, results := [(4, none)], code :=
(.seq (.reg [ao 4 (.mov (.c (.int .i64 0)))])
(.seq (.reg [mv 5 0,
ao 6 (.conv (.int .u64) (.t 5)),
mv 7 1,
ao 8 (.conv (.int .u64) (.t 7)),
ao 9 (.bin .shr .no (.t 6) (.t 8)),
ao 10 (.conv (.int .i64) (.t 9)),
mv 4 10])
.ret)) }
def w105 : WF := { nt := 7, results := [(2, none)], code :=
(.seq (.reg [ao 2 (.mov (.c (.list [] true)))])
(.seq (.reg [mv 3 0,
ao 4 (.bin .mul .no (.t 3) (.c (.int .i64 8))),
ao 5 (.buildSlice 1 1 [(.int .i64 0)] [(0, 1, (.t 4))]),
ao 6 (.call 56 [(.t 5)]),
mv 2 6])
.ret)) }
def w106 : WF := { nt := 7, results := [(2, none)], code :=
(.seq (.reg [ao 2 (.mov (.c (.list [] true)))])
(.seq (.reg [mv 3 0,
ao 4 (.bin .add .no (.t 3) (.c (.int .i64 8))),
ao 5 (.buildSlice 1 1 [(.int .i64 0)] [(0, 1, (.t 4))]),
ao 6 (.call 56 [(.t 5)]),
mv 2 6])
.ret)) }
def w107 : WF := { nt := 9, results := [(4, none)], code :=
(.seq (.reg [ao 4 (.mov (.c (.list [] true)))])
(.seq (.reg [mv 5 0,
mv 6 1,
ao 7 (.bin .eql .no (.t 5) (.t 6)),
ao 8 (.call 108 [(.t 7)]),
mv 4 8])
.ret)) }
def w108 : WF := { nt := 7, results := [(2, none)], code :=
(.seq (.reg [ao 2 (.mov (.c (.list [] true)))])
(.seq (.reg [mv 3 0,
ao 4 (.call 22 [(.t 3)]),
ao 5 (.buildSlice 1 1 [(.int .i64 0)] [(0, 1, (.t 4))]),
ao 6 (.call 56 [(.t 5)]),
mv 2 6])
.ret)) }
def w109 : WF := { nt := 9, results := [(4, none)], code :=
(.seq (.reg [ao 4 (.mov (.c (.list [] true)))])
(.seq (.reg [mv 5 0,
mv 6 1,
ao 7 (.bin .neq .no (.t 5) (.t 6)),
ao 8 (.call 108 [(.t 7)]),
mv 4 8])
.ret)) }
def w110 : WF := { nt := 9, results := [(4, none)], code :=
(.seq (.reg [ao 4 (.mov (.c (.list [] true)))])
(.seq (.reg [mv 5 0,
mv 6 1,
ao 7 (.bin .lss .no (.t 5) (.t 6)),
ao 8 (.call 108 [(.t 7)]),
mv 4 8])
.ret)) }
def w111 : WF := { nt := 9, results := [(4, none)], code :=
(.seq (.reg [ao 4 (.mov (.c (.list [] true)))])
(.seq (.reg [mv 5 0,
mv 6 1,
ao 7 (.bin .gtr .no (.t 5) (.t 6)),
ao 8 (.call 108 [(.t 7)]),
mv 4 8])
.ret)) }
def w112 : WF := { nt := 9, results := [(4, none)], code :=
(.seq (.reg [ao 4 (.mov (.c (.list [] true)))])
(.seq (.reg [mv 5 0,
mv 6 1,
ao 7 (.call 113 [(.t 5), (.t 6)]),
ao 8 (.call 108 [(.t 7)]),
mv 4 8])
.ret)) }
def w113 : WF := { nt := 10, results := [(4, none)], code :=
(.seq (.reg [ao 4 (.mov (.c (.bool false)))])
(.seq (.reg [mv 5 0,
ao 6 (.conv (.int .u64) (.t 5)),
mv 7 1,
ao 8 (.conv (.int .u64) (.t 7)),
ao 9 (.bin .lss .no (.t 6) (.t 8)),
mv 4 9])
.ret)) }
def w114 : WF := { nt := 6, results := [(2, none)], code :=
(.seq (.reg [ao 2 (.mov (.c (.list [] true)))])
(.seq (.reg [mv 3 0,
ao 4 (.bin .eql .no (.t 3) (.c (.int .i64 0))),
ao 5 (.call 108 [(.t 4)]),
mv 2 5])
.ret)) }
def w115 : WF := { nt := 6, results := [(2, none)], code :=
(.seq (.reg [ao 2 (.mov (.c (.list [] true)))])
(.seq (.reg [mv 3 0,
ao 4 (.bin .lss .no (.t 3) (.c (.int .i64 0))),
ao 5 (.call 108 [(.t 4)]),
mv 2 5])
.ret)) }
def w116 : WF := { nt := 6, results := [(2, none)], code :=
(.seq (.reg [ao 2 (.mov (.c (.list [] true)))])
(.seq (.reg [mv 3 0,
ao 4 (.bin .neq .no (.t 3) (.c (.int .i64 0))),
ao 5 (.call 108 [(.t 4)]),
mv 2 5])
.ret)) }
def w117 : WF := { nt := 6, results := [(2, none)], code :=
(.seq (.reg [ao 2 (.mov (.c (.list [] true)))])
(.seq (.reg [mv 3 0,
ao 4 (.bin .gtr .no (.t 3) (.c (.int .i64 0))),
ao 5 (.call 108 [(.t 4)]),
mv 2 5])
.ret)) }
def w118 : WF := { nt := 12, results := [(6, none)], code :=
(.seq (.reg [ao 6 (.mov (.c (.list [] true)))])
(.seq (.reg [mv 7 0,
mv 8 1,
mv 9 2,
ao 10 (.call 119 [(.t 7), (.t 8), (.t 9)]),
ao 11 (.call 108 [(.t 10)]),
mv 6 11])
.ret)) }
def w119 : WF := { nt := 14, results := [(6, none)], code :=
(.seq (.reg [ao 6 (.mov (.c (.bool false)))])
(.seq (.reg [mv 7 0,
mv 8 1,
ao 9 (.bin .sub .no (.t 7) (.t 8)),
mv 10 2,
mv 11 1,
ao 12 (.bin .sub .no (.t 10) (.t 11)),
ao 13 (.call 113 [(.t 9), (.t 12)]),
mv 6 13])
.ret)) }
def w120 : WF := { nt := 9, results := [(4, none)], code :=
(.seq (.reg [ao 4 (.mov (.c (.list [] true)))])
(.seq (.reg [mv 5 0,
mv 6 1,
ao 7 (.call 121 [(.t 5), (.t 6)]),
ao 8 (.call 108 [(.t 7)]),
mv 4 8])
.ret)) }
def w121 : WF := { nt := 10, results := [(4, none)], code :=
(.seq (.reg [ao 4 (.mov (.c (.bool false)))])
(.seq (.reg [mv 5 0,
ao 6 (.call 175 [(.t 5)]),
mv 7 1,
ao 8 (.call 175 [(.t 7)]),
ao 9 (.bin .lss .no (.t 6) (.t 8)),
mv 4 9])
.ret)) }
def w122 : WF := { nt := 9, results := [(4, none)], code :=
(.seq (.reg [ao 4 (.mov (.c (.list [] true)))])
(.seq (.reg [mv 5 0,
mv 6 1,
ao 7 (.call 123 [(.t 5), (.t 6)]),
ao 8 (.call 108 [(.t 7)]),
mv 4 8])
.ret)) }
def w123 : WF := { nt := 10, results := [(4, none)], code :=
(.seq (.reg [ao 4 (.mov (.c (.bool false)))])
(.seq (.reg [mv 5 0,
ao 6 (.call 175 [(.t 5)]),
mv 7 1,
ao 8 (.call 175 [(.t 7)]),
ao 9 (.bin .eql .no (.t 6) (.t 8)),
mv 4 9])
.ret)) }
def w124 : WF := { nt := 5, results := [(2, none)], code :=
(.seq (.reg [ao 1 (.box (.t 0)),
ao 2 (.mov (.c .nilfn))])
(.seq (.reg [ao 3 (.makeFunc (.func 125) [] [(.t 1)]),
ao 4 (.call 58 [(.t 3)]),
mv 2 4])
.ret)) }
def w125 : WF := { nt := 18, results := [(5, none)], code :=
(.seq (.reg [ao 5 (.mov (.c (.list [] true)))])
(.seq (.reg [ao 9 (.load false 1 (.t 2)),
mv 10 0,
mv 11 1,
ao 12 (.call 126 [(.t 9), (.t 10), (.t 11)]),
mv 8 12,
ao 13 (.extract 0 (.t 8)),
ao 14 (.extract 1 (.t 8)),
mv 6 13,
mv 7 14])
(.seq (.reg [mv 15 6,
ao 16 (.buildSlice 1 1 [(.int .i64 0)] [(0, 1, (.t 15))]),
ao 17 (.call 56 [(.t 16)]),
mv 5 17])
.ret))) }
def w126 : WF := { nt := 35, results := [(6, none), (7, none)], code :=
(.seq (.reg [ao 6 (.mov (.c (.int .i64 0))),
ao 7 (.mov (.c (.bool false)))])
(.seq (.reg [ao 11 (.call 176 []),
mv 12 0,
ao 13 (.rd (.lookup .int .nilfn false) [(.t 11), (.t 12)]),
mv 8 13])
(.seq (.reg [mv 14 1,
ao 15 (.call 175 [(.t 14)]),
mv 16 2,
ao 17 (.call 175 [(.t 16)]),
mv 9 15,
mv 10 17])
(.seq (.block 0 (.seq (.reg [mv 19 8,
ao 20 (.bin .eql .func (.t 19) (.c .nilfn)),
mv 18 20])
(.cond (.t 18)
(.seq (.reg [ao 6 (.mov (.c (.int .i64 0))),
ao 7 (.mov (.c (.bool false)))])
.ret)
(.seq (.reg [mv 22 9,
mv 23 9,
ao 24 (.bin .neq .no (.t 22) (.t 23)),
mv 25 24,
ag 26 (.mov (.t 10)) 25 false,
ag 27 (.mov (.t 10)) 25 false,
ag 28 (.bin .neq .no (.t 26) (.t 27)) 25 false,
ao 29 (.pick (.t 25) (.c (.bool true)) (.t 28)),
mv 21 29])
(.cond (.t 21)
(.seq (.reg [ao 6 (.mov (.c (.int .i64 9221120237041090560))),
ao 7 (.mov (.c (.bool true)))])
.ret)
.skip)))))
(.seq (.reg [mv 30 8,
mv 31 9,
mv 32 10,
ao 33 (.callv (.t 30) [(.t 31), (.t 32)]),
ao 34 (.call 177 [(.t 33)]),
mv 6 34,
ao 7 (.mov (.c (.bool true)))])
.ret))))) }
def w127 : WF := { nt := 5, results := [(2, none)], code :=
(.seq (.reg [ao 1 (.box (.t 0)),
ao 2 (.mov (.c .nilfn))])
(.seq (.reg [ao 3 (.makeFunc (.func 128) [] [(.t 1)]),
ao 4 (.call 54 [(.t 3)]),
mv 2 4])
.ret)) }
def w128 : WF := { nt := 15, results := [(3, none)], code :=
(.seq (.reg [ao 3 (.mov (.c (.list [] true)))])
(.seq (.reg [ao 7 (.load false 1 (.t 1)),
mv 8 0,
ao 9 (.call 129 [(.t 7), (.t 8)]),
mv 6 9,
ao 10 (.extract 0 (.t 6)),
ao 11 (.extract 1 (.t 6)),
mv 4 10,
mv 5 11])
(.seq (.reg [mv 12 4,
ao 13 (.buildSlice 1 1 [(.int .i64 0)] [(0, 1, (.t 12))]),
ao 14 (.call 56 [(.t 13)]),
mv 3 14])
.ret))) }
def w129 : WF := { nt := 25, results := [(4, none), (5, none)], code :=
(.seq (.reg [ao 4 (.mov (.c (.int .i64 0))),
ao 5 (.mov (.c (.bool false)))])
(.seq (.reg [ao 8 (.mem .makeMap []),
an (.mem (.mapPut .int) [(.t 8), (.c (.int .u8 110)), (.c (.fn (.func 178) [] []))]),
an (.mem (.mapPut .int) [(.t 8), (.c (.int .u8 97)), (.c (.fn (.func 179) [] []))]),
an (.mem (.mapPut .int) [(.t 8), (.c (.int .u8 115)), (.c (.fn (.func 180) [] []))]),
an (.mem (.mapPut .int) [(.t 8), (.c (.int .u8 102)), (.c (.fn (.func 181) [] []))]),
mv 9 8,
mv 10 0,
ao 11 (.rd (.lookup .int .nilfn false) [(.t 9), (.t 10)]),
mv 6 11])
(.seq (.reg [mv 12 1,
ao 13 (.call 175 [(.t 12)]),
mv 7 13])
(.seq (.block 0 (.seq (.reg [mv 15 6,
ao 16 (.bin .eql .func (.t 15) (.c .nilfn)),
mv 14 16])
(.cond (.t 14)
(.seq (.reg [ao 4 (.mov (.c (.int .i64 0))),
ao 5 (.mov (.c (.bool false)))])
.ret)
(.seq (.reg [mv 18 7,
mv 19 7,
ao 20 (.bin .neq .no (.t 18) (.t 19)),
mv 17 20])
(.cond (.t 17)
(.seq (.reg [ao 4 (.mov (.c (.int .i64 9221120237041090560))),
ao 5 (.mov (.c (.bool true)))])
.ret)
.skip)))))
(.seq (.reg [mv 21 6,
mv 22 7,
ao 23 (.callv (.t 21) [(.t 22)]),
ao 24 (.call 177 [(.t 23)]),
mv 4 24,
ao 5 (.mov (.c (.bool true)))])
.ret))))) }
def w130 : WF := { nt := 7, results := [(2, none)], code :=
(.seq (.reg [ao 2 (.mov (.c (.list [] true)))])
(.seq (.reg [mv 3 0,
ao 4 (.call 131 [(.t 3)]),
ao 5 (.buildSlice 1 1 [(.int .i64 0)] [(0, 1, (.t 4))]),
ao 6 (.call 56 [(.t 5)]),
mv 2 6])
.ret)) }
def w131 : WF := { nt := 6, results := [(2, none)], code :=
(.seq (.reg [ao 2 (.mov (.c (.int .i64 0)))])
(.seq (.reg [mv 3 0,
ao 4 (.pur (.i2f .f64) [(.t 3)]),
ao 5 (.call 177 [(.t 4)]),
mv 2 5])
.ret)) }
def w132 : WF := { nt := 15, results := [(2, none)], code :=
(.seq (.reg [ao 2 (.mov (.c (.list [] true)))])
(.seq (.reg [mv 6 0,
ao 7 (.call 133 [(.t 6)]),
mv 5 7,
ao 8 (.extract 0 (.t 5)),
ao 9 (.extract 1 (.t 5)),
mv 3 8,
mv 4 9])
(.seq (.reg [mv 10 4,
ao 11 (.call 34 [(.t 10), (.c (.int .i64 (-11)))])])
(.seq (.reg [mv 12 3,
ao 13 (.buildSlice 1 1 [(.int .i64 0)] [(0, 1, (.t 12))]),
ao 14 (.call 56 [(.t 13)]),
mv 2 14])
.ret)))) }
def w133 : WF := { nt := 16, results := [(2, none), (3, none)], code :=
(.seq (.reg [ao 2 (.mov (.c (.int .i64 0))),
ao 3 (.mov (.c (.bool false)))])
(.seq (.reg [mv 5 0,
ao 6 (.call 175 [(.t 5)]),
mv 4 6])
(.seq (.seq (.reg [mv 7 4,
ao 8 (.bin .geq .no (.t 7) (.c (.float .f64 14114281232179134464))),
mv 9 8,
ag 10 (.mov (.t 4)) 9 true,
ag 11 (.bin .lss .no (.t 10) (.c (.float .f64 4890909195324358656))) 9 true,
ao 12 (.pick (.t 9) (.t 11) (.c (.bool false))),
ao 13 (.un .not (.t 12))])
(.cond (.t 13)
(.seq (.reg [ao 2 (.mov (.c (.int .i64 0))),
ao 3 (.mov (.c (.bool false)))])
.ret)
.skip))
(.seq (.reg [mv 14 4,
ao 15 (.pur (.f2i .i64) [(.t 14)]),
mv 2 15,
ao 3 (.mov (.c (.bool true)))])
.ret)))) }
def w134 : WF := { nt := 135, results := [(4, none), (5, none)], code :=
(.seq (.reg [ao 4 (.mov (.c (.list [] true))),
ao 5 (.mov (.c (.bool false)))])
(.seq (.seq (.reg [mv 6 0])
(.block 0 (.seq (.reg [ao 8 (.bin .eql .no (.t 6) (.c (.int .i64 13))),
mv 7 8])
(.cond (.t 7)
(.seq (.calm [mv 9 1,
⟨(some 10), .indexSl 1 (.t 9) (.c (.int .i64 0)), none, [0], false⟩,
⟨(some 11), .load false 1 (.t 10), none, [1], false⟩,
mv 12 1,
⟨(some 13), .indexSl 1 (.t 12) (.c (.int .i64 0)), none, [3], false⟩,
⟨(some 14), .load false 1 (.t 13), none, [4], false⟩,
⟨(some 15), .pur (.lst 1 2 [(.int .i64 0)] [(0, 1), (1, 1)]) [(.t 11), (.t 14)], none, [2, 5], false⟩,
⟨(some 4), .mov (.t 15), none, [6, 0, 1, 2, 3, 4, 5, 6], false⟩,
⟨(some 5), .mov (.c (.bool true)), none, [7, 0, 1, 2, 3, 4, 5, 6, 7], false⟩])
.ret)
(.seq (.seq (.reg [ao 17 (.bin .eql .no (.t 6) (.c (.int .i64 14))),
mv 16 17])
(.cond (.t 16)
.skip
(.reg [ao 18 (.bin .eql .no (.t 6) (.c (.int .i64 22))),
mv 16 18])))
(.cond (.t 16)
(.seq (.reg [ao 4 (.mov (.c (.list [] true))),
ao 5 (.mov (.c (.bool true)))])
.ret)
(.seq (.reg [ao 20 (.bin .eql .no (.t 6) (.c (.int .i64 15))),
mv 19 20])
(.cond (.t 19)
(.seq (.calm [mv 21 1,
⟨(some 22), .indexSl 1 (.t 21) (.c (.int .i64 1)), none, [0], false⟩,
⟨(some 23), .load false 1 (.t 22), none, [1], false⟩,
mv 24 1,
⟨(some 25), .indexSl 1 (.t 24) (.c (.int .i64 0)), none, [3], false⟩,
⟨(some 26), .load false 1 (.t 25), none, [4], false⟩,
⟨(some 27), .pur (.lst 1 2 [(.int .i64 0)] [(0, 1), (1, 1)]) [(.t 23), (.t 26)], none, [2, 5], false⟩,
⟨(some 4), .mov (.t 27), none, [6, 0, 1, 2, 3, 4, 5, 6], false⟩,
⟨(some 5), .mov (.c (.bool true)), none, [7, 0, 1, 2, 3, 4, 5, 6, 7], false⟩])
.ret)
(.seq (.reg [ao 29 (.bin .eql .no (.t 6) (.c (.int .i64 16))),
mv 28 29])
(.cond (.t 28)
(.seq (.calm [mv 30 1,
⟨(some 31), .indexSl 1 (.t 30) (.c (.int .i64 0)), none, [0], false⟩,
⟨(some 32), .load false 1 (.t 31), none, [1], false⟩,
mv 33 1,
⟨(some 34), .indexSl 1 (.t 33) (.c (.int .i64 1)), none, [3], false⟩,
⟨(some 35), .load false 1 (.t 34), none, [4], false⟩,
mv 36 1,
⟨(some 37), .indexSl 1 (.t 36) (.c (.int .i64 0)), none, [6], false⟩,
⟨(some 38), .load false 1 (.t 37), none, [7], false⟩,
⟨(some 39), .pur (.lst 1 3 [(.int .i64 0)] [(0, 1), (1, 1), (2, 1)]) [(.t 32), (.t 35), (.t 38)], none, [2, 5, 8], false⟩,
⟨(some 4), .mov (.t 39), none, [9, 0, 1, 2, 3, 4, 5, 6, 7, 8, 9], false⟩,
⟨(some 5), .mov (.c (.bool true)), none, [10, 0, 1, 2, 3, 4, 5, 6, 7, 8, 9, 10], false⟩])
.ret)
(.seq (.reg [ao 41 (.bin .eql .no (.t 6) (.c (.int .i64 17))),
mv 40 41])
(.cond (.t 40)
(.seq (.calm [mv 42 1,
⟨(some 43), .indexSl 1 (.t 42) (.c (.int .i64 1)), none, [0], false⟩,
⟨(some 44), .load false 1 (.t 43), none, [1], false⟩,
mv 45 1,
⟨(some 46), .indexSl 1 (.t 45) (.c (.int .i64 2)), none, [3], false⟩,
⟨(some 47), .load false 1 (.t 46), none, [4], false⟩,
mv 48 1,
⟨(some 49), .indexSl 1 (.t 48) (.c (.int .i64 0)), none, [6], false⟩,
⟨(some 50), .load false 1 (.t 49), none, [7], false⟩,
⟨(some 51), .pur (.lst 1 3 [(.int .i64 0)] [(0, 1), (1, 1), (2, 1)]) [(.t 44), (.t 47), (.t 50)], none, [2, 5, 8], false⟩,
⟨(some 4), .mov (.t 51), none, [9, 0, 1, 2, 3, 4, 5, 6, 7, 8, 9], false⟩,
⟨(some 5), .mov (.c (.bool true)), none, [10, 0, 1, 2, 3, 4, 5, 6, 7, 8, 9, 10], false⟩])
.ret)
(.seq (.reg [ao 53 (.bin .eql .no (.t 6) (.c (.int .i64 18))),
mv 52 53])
(.cond (.t 52)
(.seq (.reg [mv 54 1,
ao 55 (.indexSl 1 (.t 54) (.c (.int .i64 1))),
ao 56 (.load false 1 (.t 55)),
ao 57 (.buildSlice 1 1 [(.int .i64 0)] [(0, 1, (.t 56))]),
mv 4 57,
ao 5 (.mov (.c (.bool true)))])
.ret)
(.seq (.reg [ao 59 (.bin .eql .no (.t 6) (.c (.int .i64 19))),
mv 58 59])
(.cond (.t 58)
(.seq (.calm [mv 60 1,
⟨(some 61), .indexSl 1 (.t 60) (.c (.int .i64 1)), none, [0], false⟩,
⟨(some 62), .load false 1 (.t 61), none, [1], false⟩,
mv 63 1,
⟨(some 64), .indexSl 1 (.t 63) (.c (.int .i64 0)), none, [3], false⟩,
⟨(some 65), .load false 1 (.t 64), none, [4], false⟩,
mv 66 1,
⟨(some 67), .indexSl 1 (.t 66) (.c (.int .i64 1)), none, [6], false⟩,
⟨(some 68), .load false 1 (.t 67), none, [7], false⟩,
⟨(some 69), .pur (.lst 1 3 [(.int .i64 0)] [(0, 1), (1, 1), (2, 1)]) [(.t 62), (.t 65), (.t 68)], none, [2, 5, 8], false⟩,
⟨(some 4), .mov (.t 69), none, [9, 0, 1, 2, 3, 4, 5, 6, 7, 8, 9], false⟩,
⟨(some 5), .mov (.c (.bool true)), none, [10, 0, 1, 2, 3, 4, 5, 6, 7, 8, 9, 10], false⟩])
.ret)
(.seq (.reg [ao 71 (.bin .eql .no (.t 6) (.c (.int .i64 21))),
mv 70 71])
(.cond (.t 70)
(.seq (.calm [mv 72 1,
⟨(some 73), .indexSl 1 (.t 72) (.c (.int .i64 0)), none, [0], false⟩,
⟨(some 74), .load false 1 (.t 73), none, [1], false⟩,
mv 75 1,
⟨(some 76), .indexSl 1 (.t 75) (.c (.int .i64 1)), none, [3], false⟩,
⟨(some 77), .load false 1 (.t 76), none, [4], false⟩,
mv 78 1,
⟨(some 79), .indexSl 1 (.t 78) (.c (.int .i64 0)), none, [6], false⟩,
⟨(some 80), .load false 1 (.t 79), none, [7], false⟩,
mv 81 1,
⟨(some 82), .indexSl 1 (.t 81) (.c (.int .i64 1)), none, [9], false⟩,
⟨(some 83), .load false 1 (.t 82), none, [10], false⟩,
⟨(some 84), .pur (.lst 1 4 [(.int .i64 0)] [(0, 1), (1, 1), (2, 1), (3, 1)]) [(.t 74), (.t 77), (.t 80), (.t 83)], none, [2, 5, 8, 11], false⟩,
⟨(some 4), .mov (.t 84), none, [12, 0, 1, 2, 3, 4, 5, 6, 7, 8, 9, 10, 11, 12], false⟩,
⟨(some 5), .mov (.c (.bool true)), none, [13, 0, 1, 2, 3, 4, 5, 6, 7, 8, 9, 10, 11, 12, 13], false⟩])
.ret)
(.seq (.reg [ao 86 (.bin .eql .no (.t 6) (.c (.int .i64 23))),
mv 85 86])
(.cond (.t 85)
(.seq (.calm [mv 87 1,
⟨(some 88), .indexSl 1 (.t 87) (.c (.int .i64 2)), none, [0], false⟩,
⟨(some 89), .load false 1 (.t 88), none, [1], false⟩,
mv 90 1,
⟨(some 91), .indexSl 1 (.t 90) (.c (.int .i64 3)), none, [3], false⟩,
⟨(some 92), .load false 1 (.t 91), none, [4], false⟩,
mv 93 1,
⟨(some 94), .indexSl 1 (.t 93) (.c (.int .i64 0)), none, [6], false⟩,
⟨(some 95), .load false 1 (.t 94), none, [7], false⟩,
mv 96 1,
⟨(some 97), .indexSl 1 (.t 96) (.c (.int .i64 1)), none, [9], false⟩,
⟨(some 98), .load false 1 (.t 97), none, [10], false⟩,
⟨(some 99), .pur (.lst 1 4 [(.int .i64 0)] [(0, 1), (1, 1), (2, 1), (3, 1)]) [(.t 89), (.t 92), (.t 95), (.t 98)], none, [2, 5, 8, 11], false⟩,
⟨(some 4), .mov (.t 99), none, [12, 0, 1, 2, 3, 4, 5, 6, 7, 8, 9, 10, 11, 12], false⟩,
⟨(some 5), .mov (.c (.bool true)), none, [13, 0, 1, 2, 3, 4, 5, 6, 7, 8, 9, 10, 11, 12, 13], false⟩])
.ret)
(.seq (.reg [ao 101 (.bin .eql .no (.t 6) (.c (.int .i64 24))),
mv 100 101])
(.cond (.t 100)
(.seq (.calm [mv 102 1,
⟨(some 103), .indexSl 1 (.t 102) (.c (.int .i64 0)), none, [0], false⟩,
⟨(some 104), .load false 1 (.t 103), none, [1], false⟩,
mv 105 1,
⟨(some 106), .indexSl 1 (.t 105) (.c (.int .i64 1)), none, [3], false⟩,
⟨(some 107), .load false 1 (.t 106), none, [4], false⟩,
mv 108 1,
⟨(some 109), .indexSl 1 (.t 108) (.c (.int .i64 2)), none, [6], false⟩,
⟨(some 110), .load false 1 (.t 109), none, [7], false⟩,
mv 111 1,
⟨(some 112), .indexSl 1 (.t 111) (.c (.int .i64 3)), none, [9], false⟩,
⟨(some 113), .load false 1 (.t 112), none, [10], false⟩,
mv 114 1,
⟨(some 115), .indexSl 1 (.t 114) (.c (.int .i64 0)), none, [12], false⟩,
⟨(some 116), .load false 1 (.t 115), none, [13], false⟩,
mv 117 1,
⟨(some 118), .indexSl 1 (.t 117) (.c (.int .i64 1)), none, [15], false⟩,
⟨(some 119), .load false 1 (.t 118), none, [16], false⟩,
⟨(some 120), .pur (.lst 1 6 [(.int .i64 0)] [(0, 1), (1, 1), (2, 1), (3, 1), (4, 1), (5, 1)]) [(.t 104), (.t 107), (.t 110), (.t 113), (.t 116), (.t 119)], none, [2, 5, 8, 11, 14, 17], false⟩,
⟨(some 4), .mov (.t 120), none, [18, 0, 1, 2, 3, 4, 5, 6, 7, 8, 9, 10, 11, 12, 13, 14, 15, 16, 17, 18], false⟩,
⟨(some 5), .mov (.c (.bool true)), none, [19, 0, 1, 2, 3, 4, 5, 6, 7, 8, 9, 10, 11, 12, 13, 14, 15, 16, 17, 18, 19], false⟩])
.ret)
(.seq (.reg [ao 122 (.bin .eql .no (.t 6) (.c (.int .i64 20))),
mv 121 122])
(.cond (.t 121)
(.seq (.seq (.reg [mv 123 1,
ao 124 (.indexSl 1 (.t 123) (.c (.int .i64 0))),
ao 125 (.load false 1 (.t 124)),
ao 126 (.bin .eql .no (.t 125) (.c (.int .i64 0)))])
(.cond (.t 126)
(.seq (.reg [ao 127 (.buildSlice 1 1 [(.int .i64 0)] [(0, 1, (.c (.int .i64 0)))]),
mv 4 127,
ao 5 (.mov (.c (.bool true)))])
.ret)
.skip))
(.seq (.calm [mv 128 1,
⟨(some 129), .indexSl 1 (.t 128) (.c (.int .i64 0)), none, [0], false⟩,
⟨(some 130), .load false 1 (.t 129), none, [1], false⟩,
mv 131 1,
⟨(some 132), .indexSl 1 (.t 131) (.c (.int .i64 0)), none, [3], false⟩,
⟨(some 133), .load false 1 (.t 132), none, [4], false⟩,
⟨(some 134), .pur (.lst 1 2 [(.int .i64 0)] [(0, 1), (1, 1)]) [(.t 130), (.t 133)], none, [2, 5], false⟩,
⟨(some 4), .mov (.t 134), none, [6, 0, 1, 2, 3, 4, 5, 6], false⟩,
⟨(some 5), .mov (.c (.bool true)), none, [7, 0, 1, 2, 3, 4, 5, 6, 7], false⟩])
.ret))
.skip))))))))))))))))))))))))
(.seq (.reg [ao 4 (.mov (.c (.list [] true))),
ao 5 (.mov (.c (.bool false)))])
.ret))) }
def w135 : WF := { nt := 70, results := [(4, none), (5, none), (6, none)], code :=
(.seq (.reg [ao 4 (.mov (.c (.list [] true))),
ao 5 (.mov (.c (.int .i64 0))),
ao 6 (.mov (.c (.bool false)))])
(.seq (.seq (.reg [mv 13 0,
ao 14 (.bin .lss .no (.t 13) (.c (.int .i64 31))),
mv 15 14,
ag 16 (.mov (.t 0)) 15 false,
ag 17 (.bin .gtr .no (.t 16) (.c (.int .i64 35))) 15 false,
ao 18 (.pick (.t 15) (.c (.bool true)) (.t 17))])
(.cond (.t 18)
(.seq (.reg [ao 4 (.mov (.c (.list [] true))),
ao 5 (.mov (.c (.int .i64 0))),
ao 6 (.mov (.c (.bool false)))])
.ret)
.skip))
(.seq (.seq (.reg [mv 19 1,
mv 20 1,
ao 21 (.len (.t 20)),
ao 22 (.bin .sub .no (.t 21) (.c (.int .i64 1))),
ao 23 (.indexSl 1 (.t 19) (.t 22)),
ao 24 (.load false 1 (.t 23)),
ao 25 (.bin .eql .no (.t 24) (.c (.int .i64 0)))])
(.cond (.t 25)
(.seq (.reg [ao 4 (.mov (.c (.list [] true))),
ao 5 (.mov (.c (.int .i64 (-10)))),
ao 6 (.mov (.c (.bool true)))])
.ret)
.skip))
(.seq (.calm [mv 27 1,
⟨(some 28), .indexSl 1 (.t 27) (.c (.int .i64 0)), none, [0], false⟩,
⟨(some 29), .load false 1 (.t 28), none, [1], false⟩,
mv 30 1,
⟨(some 31), .indexSl 1 (.t 30) (.c (.int .i64 1)), none, [3], false⟩,
⟨(some 32), .load false 1 (.t 31), none, [4], false⟩,
⟨(some 33), .call 182 [(.t 29), (.t 32)], none, [2, 5], false⟩,
⟨(some 26), .mov (.t 33), none, [6], false⟩,
⟨(some 34), .extract 0 (.t 26), none, [7], false⟩,
⟨(some 35), .extract 1 (.t 26), none, [7], false⟩,
⟨(some 36), .extract 2 (.t 26), none, [7], false⟩,
⟨(some 7), .mov (.t 34), none, [8, 6, 0, 1, 2, 3, 4, 5, 6, 7, 8], false⟩,
⟨(some 8), .mov (.t 35), none, [9, 11, 0, 1, 2, 3, 4, 5, 6, 7, 8, 9, 11], false⟩,
⟨(some 9), .mov (.t 36), none, [10, 12, 0, 1, 2, 3, 4, 5, 6, 7, 8, 9, 10, 11, 12], false⟩])
(.seq (.seq (.reg [mv 37 0,
ao 38 (.bin .geq .no (.t 37) (.c (.int .i64 34)))])
(.cond (.t 38)
(.seq (.calm [mv 40 1,
⟨(some 41), .indexSl 1 (.t 40) (.c (.int .i64 0)), none, [0], false⟩,
⟨(some 42), .load false 1 (.t 41), none, [1], false⟩,
mv 43 1,
⟨(some 44), .indexSl 1 (.t 43) (.c (.int .i64 1)), none, [3], false⟩,
⟨(some 45), .load false 1 (.t 44), none, [4], false⟩,
mv 46 1,
⟨(some 47), .indexSl 1 (.t 46) (.c (.int .i64 2)), none, [6], false⟩,
⟨(some 48), .load false 1 (.t 47), none, [7], false⟩,
⟨(some 49), .call 183 [(.t 42), (.t 45), (.t 48)], none, [2, 5, 8], false⟩,
⟨(some 39), .mov (.t 49), none, [9], false⟩,
⟨(some 50), .extract 0 (.t 39), none, [10], false⟩,
⟨(some 51), .extract 1 (.t 39), none, [10], false⟩,
⟨(some 52), .extract 2 (.t 39), none, [10], false⟩,
⟨(some 10), .mov (.t 50), none, [11, 9, 0, 1, 2, 3, 4, 5, 6, 7, 8, 9, 10, 11], false⟩,
⟨(some 11), .mov (.t 51), none, [12, 14, 0, 1, 2, 3, 4, 5, 6, 7, 8, 9, 10, 11, 12, 14], false⟩,
⟨(some 12), .mov (.t 52), none, [13, 15, 0, 1, 2, 3, 4, 5, 6, 7, 8, 9, 10, 11, 12, 13, 14, 15], false⟩])
(.seq (.seq (.reg [mv 53 12,
ao 54 (.un .not (.t 53))])
(.cond (.t 54)
(.seq (.reg [ao 4 (.mov (.c (.list [] true))),
ao 5 (.mov (.c (.int .i64 (-11)))),
ao 6 (.mov (.c (.bool true)))])
.ret)
.skip))
(.seq (.reg [mv 55 10,
mv 7 55])
(.reg [mv 56 11,
mv 8 56]))))
.skip))
(.seq (.seq (.reg [mv 57 0])
(.block 0 (.seq (.seq (.reg [ao 59 (.bin .eql .no (.t 57) (.c (.int .i64 31))),
mv 58 59])
(.cond (.t 58)
.skip
(.reg [ao 60 (.bin .eql .no (.t 57) (.c (.int .i64 34))),
mv 58 60])))
(.cond (.t 58)
(.seq (.reg [mv 61 7,
ao 62 (.buildSlice 1 1 [(.int .i64 0)] [(0, 1, (.t 61))]),
mv 4 62,
ao 5 (.mov (.c (.int .i64 0))),
ao 6 (.mov (.c (.bool true)))])
.ret)
(.seq (.reg [ao 64 (.bin .eql .no (.t 57) (.c (.int .i64 32))),
mv 63 64])
(.cond (.t 63)
(.seq (.reg [mv 65 8,
ao 66 (.buildSlice 1 1 [(.int .i64 0)] [(0, 1, (.t 65))]),
mv 4 66,
ao 5 (.mov (.c (.int .i64 0))),
ao 6 (.mov (.c (.bool true)))])
.ret)
.skip))))))
(.seq (.reg [mv 67 8,
mv 68 7,
ao 69 (.buildSlice 1 2 [(.int .i64 0)] [(0, 1, (.t 67)), (1, 1, (.t 68))]),
mv 4 69,
ao 5 (.mov (.c (.int .i64 0))),
ao 6 (.mov (.c (.bool true)))])
.ret))))))) }
def w136 : WF := { nt := 22, results := [(4, none), (5, none)], code :=
(.seq (.reg [ao 4 (.mov (.c (.int .i64 0))),
ao 5 (.mov (.c (.int .i64 0)))])
(.seq (.seq (.reg [mv 6 1,
ao 7 (.bin .lss .no (.t 6) (.c (.int .i64 0))),
mv 8 7,
ag 9 (.mov (.t 1)) 8 false,
ag 10 (.mov (.t 0)) 8 false,
ag 11 (.len (.t 10)) 8 false,
ag 12 (.bin .geq .no (.t 9) (.t 11)) 8 false,
ao 13 (.pick (.t 8) (.c (.bool true)) (.t 12))])
(.cond (.t 13)
(.seq (.reg [ao 4 (.mov (.c (.int .i64 0))),
ao 5 (.mov (.c (.int .i64 (-4))))])
.ret)
.skip))
(.seq (.reg [mv 14 0,
mv 15 0,
ao 16 (.len (.t 15)),
ao 17 (.bin .sub .no (.t 16) (.c (.int .i64 1))),
mv 18 1,
ao 19 (.bin .sub .no (.t 17) (.t 18)),
ao 20 (.indexSl 1 (.t 14) (.t 19)),
ao 21 (.load false 1 (.t 20)),
mv 4 21,
ao 5 (.mov (.c (.int .i64 0)))])
.ret))) }
def w137 : WF := { nt := 48, results := [(4, none), (5, none)], code :=
(.seq (.reg [ao 4 (.mov (.c (.list [] true))),
ao 5 (.mov (.c (.int .i64 0)))])
(.seq (.seq (.reg [mv 8 1,
ao 9 (.bin .lss .no (.t 8) (.c (.int .i64 0))),
mv 10 9,
ag 11 (.mov (.t 1)) 10 false,
ag 12 (.mov (.t 0)) 10 false,
ag 13 (.len (.t 12)) 10 false,
ag 14 (.bin .geq .no (.t 11) (.t 13)) 10 false,
ao 15 (.pick (.t 10) (.c (.bool true)) (.t 14))])
(.cond (.t 15)
(.seq (.reg [ao 4 (.mov (.c (.list [] true))),
ao 5 (.mov (.c (.int .i64 (-4))))])
.ret)
.skip))
(.seq (.reg [ao 6 (.mov (.c (.list [] true)))])
(.seq (.seq (.reg [ao 7 (.mov (.c (.int .i64 0)))])
(.block 0 (.loop (.seq (.seq (.reg [mv 16 7,
mv 17 0,
ao 18 (.len (.t 17)),
ao 19 (.bin .lss .no (.t 16) (.t 18))])
(.cond (.t 19)
.skip
(.exit 0)))
(.seq (.block 1 (.seq (.reg [mv 22 7,
mv 23 0,
ao 24 (.len (.t 23)),
ao 25 (.bin .sub .no (.t 24) (.c (.int .i64 1))),
mv 26 1,
ao 27 (.bin .sub .no (.t 25) (.t 26)),
ao 28 (.bin .neq .no (.t 22) (.t 27))])
(.cond (.t 28)
(.reg [mv 29 6,
mv 30 0,
mv 31 7,
ao 32 (.indexSl 1 (.t 30) (.t 31)),
ao 33 (.load false 1 (.t 32)),
ao 34 (.buildSlice 1 1 [(.int .i64 0)] [(0, 1, (.t 33))]),
ao 35 (.append 1 8 none (.t 29) (.t 34)),
mv 6 35])
.skip)))
(.reg [mv 20 7,
ao 21 (.bin .add .no (.t 20) (.c (.int .i64 1))),
mv 7 21]))))))
(.seq (.reg [mv 36 6,
mv 37 0,
mv 38 0,
ao 39 (.len (.t 38)),
ao 40 (.bin .sub .no (.t 39) (.c (.int .i64 1))),
mv 41 1,
ao 42 (.bin .sub .no (.t 40) (.t 41)),
ao 43 (.indexSl 1 (.t 37) (.t 42)),
ao 44 (.load false 1 (.t 43)),
ao 45 (.buildSlice 1 1 [(.int .i64 0)] [(0, 1, (.t 44))]),
ao 46 (.append 1 8 none (.t 36) (.t 45)),
mv 6 46])
(.seq (.reg [mv 47 6,
mv 4 47,
ao 5 (.mov (.c (.int .i64 0)))])
.ret)))))) }
def w138 : WF := { nt := 4, results := [(2, none)], code :=
(.seq (.reg [ao 2 (.mov (.c (.int .i64 0)))])
(.seq (.seq (.reg [mv 3 0])
(.cond (.t 3)
(.seq (.reg [ao 2 (.mov (.c (.int .i64 (-1))))])
.ret)
.skip))
(.seq (.reg [ao 2 (.mov (.c (.int .i64 0)))])
.ret))) }
def w139 : WF := { nt := 15, results := [(4, none)], code :=
(.seq (.reg [ao 4 (.mov (.c (.bool false)))])
(.seq (.seq (.reg [mv 5 0,
ao 6 (.bin .lss .no (.t 5) (.c (.int .i64 0))),
mv 7 1,
ao 8 (.bin .lss .no (.t 7) (.c (.int .i64 0))),
ao 9 (.bin .neq .bool (.t 6) (.t 8))])
(.cond (.t 9)
(.seq (.reg [mv 10 1,
ao 11 (.bin .lss .no (.t 10) (.c (.int .i64 0))),
mv 4 11])
.ret)
.skip))
(.seq (.reg [mv 12 0,
mv 13 1,
ao 14 (.bin .lss .no (.t 12) (.t 13)),
mv 4 14])
.ret))) }
def w140 : WF := { nt := 22, results := [(2, none), (3, none)], code :=
(.seq (.reg [ao 2 (.mov (.c (.int .i64 0))),
ao 3 (.mov (.c (.bool false)))])
(.seq (.reg [mv 5 0,
ao 6 (.conv (.int .u64) (.t 5)),
ao 7 (.call 184 [(.t 6)]),
mv 4 7])
(.seq (.seq (.reg [mv 8 4,
mv 9 4,
ao 10 (.bin .neq .no (.t 8) (.t 9)),
mv 11 10,
ag 12 (.mov (.t 4)) 11 false,
ag 13 (.bin .lss .no (.t 12) (.c (.float .f64 14114281232179134464))) 11 false,
ao 14 (.pick (.t 11) (.c (.bool true)) (.t 13)),
mv 15 14,
ag 16 (.mov (.t 4)) 15 false,
ag 17 (.bin .geq .no (.t 16) (.c (.float .f64 4890909195324358656))) 15 false,
ao 18 (.pick (.t 15) (.c (.bool true)) (.t 17))])
(.cond (.t 18)
(.seq (.reg [ao 2 (.mov (.c (.int .i64 0))),
ao 3 (.mov (.c (.bool false)))])
.ret)
.skip))
(.seq (.reg [mv 19 4,
ao 20 (.call 185 [(.t 19)]),
ao 21 (.pur (.f2i .i64) [(.t 20)]),
mv 2 21,
ao 3 (.mov (.c (.bool true)))])
.ret)))) }
def w141 : WF := { nt := 84, results := [(4, none), (5, none)], code :=
(.seq (.reg [ao 4 (.mov (.c (.int .i64 0))),
ao 5 (.mov (.c (.bool false)))])
(.seq (.seq (.reg [mv 9 0])
(.block 0 (.seq (.reg [ao 11 (.bin .eql .no (.t 9) (.c (.int .i64 36))),
mv 10 11])
(.cond (.t 10)
(.seq (.reg [mv 12 1,
ao 13 (.bin .add .no (.t 12) (.c (.int .i64 1))),
mv 4 13,
ao 5 (.mov (.c (.bool true)))])
.ret)
(.seq (.reg [ao 15 (.bin .eql .no (.t 9) (.c (.int .i64 37))),
mv 14 15])
(.cond (.t 14)
(.seq (.reg [mv 16 1,
ao 17 (.bin .sub .no (.t 16) (.c (.int .i64 1))),
mv 4 17,
ao 5 (.mov (.c (.bool true)))])
.ret)
(.seq (.reg [ao 19 (.bin .eql .no (.t 9) (.c (.int .i64 38))),
mv 18 19])
(.cond (.t 18)
(.seq (.reg [mv 20 1,
mv 21 1,
ao 22 (.bin .add .no (.t 20) (.t 21)),
mv 4 22,
ao 5 (.mov (.c (.bool true)))])
.ret)
(.seq (.reg [ao 24 (.bin .eql .no (.t 9) (.c (.int .i64 39))),
mv 23 24])
(.cond (.t 23)
(.seq (.reg [mv 26 1,
ao 27 (.call 182 [(.t 26), (.c (.int .i64 2))]),
mv 25 27,
ao 28 (.extract 0 (.t 25)),
ao 29 (.extract 1 (.t 25)),
ao 30 (.extract 2 (.t 25)),
mv 6 28,
mv 7 29,
mv 8 30])
(.seq (.reg [mv 31 6,
mv 4 31,
ao 5 (.mov (.c (.bool true)))])
.ret))
(.seq (.reg [ao 33 (.bin .eql .no (.t 9) (.c (.int .i64 40))),
mv 32 33])
(.cond (.t 32)
(.seq (.reg [mv 34 1,
ao 35 (.bin .sub .no (.c (.int .i64 0)) (.t 34)),
mv 4 35,
ao 5 (.mov (.c (.bool true)))])
.ret)
(.seq (.reg [ao 37 (.bin .eql .no (.t 9) (.c (.int .i64 41))),
mv 36 37])
(.cond (.t 36)
(.seq (.seq (.reg [mv 38 1,
ao 39 (.bin .lss .no (.t 38) (.c (.int .i64 0)))])
(.cond (.t 39)
(.seq (.reg [mv 40 1,
ao 41 (.bin .sub .no (.c (.int .i64 0)) (.t 40)),
mv 4 41,
ao 5 (.mov (.c (.bool true)))])
.ret)
.skip))
(.seq (.reg [mv 42 1,
mv 4 42,
ao 5 (.mov (.c (.bool true)))])
.ret))
(.seq (.reg [ao 44 (.bin .eql .no (.t 9) (.c (.int .i64 47))),
mv 43 44])
(.cond (.t 43)
(.seq (.reg [mv 45 1,
ao 46 (.bin .sub .no (.c (.int .i64 (-1))) (.t 45)),
mv 4 46,
ao 5 (.mov (.c (.bool true)))])
.ret)
(.seq (.reg [ao 48 (.bin .eql .no (.t 9) (.c (.int .i64 55))),
mv 47 48])
(.cond (.t 47)
(.seq (.reg [mv 49 1,
ao 50 (.bin .eql .no (.t 49) (.c (.int .i64 0))),
ao 51 (.call 138 [(.t 50)]),
mv 4 51,
ao 5 (.mov (.c (.bool true)))])
.ret)
(.seq (.reg [ao 53 (.bin .eql .no (.t 9) (.c (.int .i64 56))),
mv 52 53])
(.cond (.t 52)
(.seq (.reg [mv 54 1,
ao 55 (.bin .lss .no (.t 54) (.c (.int .i64 0))),
ao 56 (.call 138 [(.t 55)]),
mv 4 56,
ao 5 (.mov (.c (.bool true)))])
.ret)
(.seq (.reg [ao 58 (.bin .eql .no (.t 9) (.c (.int .i64 57))),
mv 57 58])
(.cond (.t 57)
(.seq (.reg [mv 59 1,
ao 60 (.bin .neq .no (.t 59) (.c (.int .i64 0))),
ao 61 (.call 138 [(.t 60)]),
mv 4 61,
ao 5 (.mov (.c (.bool true)))])
.ret)
(.seq (.reg [ao 63 (.bin .eql .no (.t 9) (.c (.int .i64 58))),
mv 62 63])
(.cond (.t 62)
(.seq (.reg [mv 64 1,
ao 65 (.bin .gtr .no (.t 64) (.c (.int .i64 0))),
ao 66 (.call 138 [(.t 65)]),
mv 4 66,
ao 5 (.mov (.c (.bool true)))])
.ret)
(.seq (.reg [ao 68 (.bin .eql .no (.t 9) (.c (.int .i64 62))),
mv 67 68])
(.cond (.t 67)
(.seq (.reg [mv 69 1,
ao 70 (.bin .mul .no (.c (.int .i64 8)) (.t 69)),
mv 4 70,
ao 5 (.mov (.c (.bool true)))])
.ret)
(.seq (.reg [ao 72 (.bin .eql .no (.t 9) (.c (.int .i64 63))),
mv 71 72])
(.cond (.t 71)
(.seq (.reg [mv 73 1,
ao 74 (.bin .add .no (.t 73) (.c (.int .i64 8))),
mv 4 74,
ao 5 (.mov (.c (.bool true)))])
.ret)
(.seq (.reg [ao 76 (.bin .eql .no (.t 9) (.c (.int .i64 76))),
mv 75 76])
(.cond (.t 75)
(.seq (.reg [mv 77 1,
ao 78 (.call 186 [(.t 77)]),
mv 4 78,
ao 5 (.mov (.c (.bool true)))])
.ret)
.skip))))))))))))))))))))))))))))))
(.seq (.reg [mv 79 0,
mv 80 1,
ao 81 (.call 187 [(.t 79), (.t 80)]),
ao 82 (.extract 0 (.t 81)),
ao 83 (.extract 1 (.t 81)),
mv 4 82,
mv 5 83])
.ret))) }
def w142 : WF := { nt := 112, results := [(6, none)], code :=
(.seq (.reg [ao 6 (.mov (.c (.int .i64 0)))])
(.seq (.seq (.reg [mv 9 0])
(.block 0 (.seq (.reg [ao 11 (.bin .eql .no (.t 9) (.c (.int .i64 28))),
mv 10 11])
(.cond (.t 10)
(.seq (.reg [mv 12 1,
mv 13 2,
ao 14 (.bin .add .no (.t 12) (.t 13)),
mv 6 14])
.ret)
(.seq (.reg [ao 16 (.bin .eql .no (.t 9) (.c (.int .i64 29))),
mv 15 16])
(.cond (.t 15)
(.seq (.reg [mv 17 1,
mv 18 2,
ao 19 (.bin .sub .no (.t 17) (.t 18)),
mv 6 19])
.ret)
(.seq (.reg [ao 21 (.bin .eql .no (.t 9) (.c (.int .i64 30))),
mv 20 21])
(.cond (.t 20)
(.seq (.reg [mv 22 1,
mv 23 2,
ao 24 (.bin .mul .no (.t 22) (.t 23)),
mv 6 24])
.ret)
(.seq (.reg [ao 26 (.bin .eql .no (.t 9) (.c (.int .i64 42))),
mv 25 26])
(.cond (.t 25)
(.seq (.reg [mv 27 1,
mv 28 2,
ao 29 (.min [(.t 27), (.t 28)]),
mv 6 29])
.ret)
(.seq (.reg [ao 31 (.bin .eql .no (.t 9) (.c (.int .i64 43))),
mv 30 31])
(.cond (.t 30)
(.seq (.reg [mv 32 1,
mv 33 2,
ao 34 (.max [(.t 32), (.t 33)]),
mv 6 34])
.ret)
(.seq (.reg [ao 36 (.bin .eql .no (.t 9) (.c (.int .i64 44))),
mv 35 36])
(.cond (.t 35)
(.seq (.reg [mv 37 1,
mv 38 2,
ao 39 (.bin .and .no (.t 37) (.t 38)),
mv 6 39])
.ret)
(.seq (.reg [ao 41 (.bin .eql .no (.t 9) (.c (.int .i64 45))),
mv 40 41])
(.cond (.t 40)
(.seq (.reg [mv 42 1,
mv 43 2,
ao 44 (.bin .or .no (.t 42) (.t 43)),
mv 6 44])
.ret)
(.seq (.reg [ao 46 (.bin .eql .no (.t 9) (.c (.int .i64 46))),
mv 45 46])
(.cond (.t 45)
(.seq (.reg [mv 47 1,
mv 48 2,
ao 49 (.bin .xor .no (.t 47) (.t 48)),
mv 6 49])
.ret)
(.seq (.reg [ao 51 (.bin .eql .no (.t 9) (.c (.int .i64 48))),
mv 50 51])
(.cond (.t 50)
(.seq (.reg [mv 52 1,
mv 53 2,
ao 54 (.call 188 [(.t 52), (.t 53)]),
mv 6 54])
.ret)
(.seq (.reg [ao 56 (.bin .eql .no (.t 9) (.c (.int .i64 49))),
mv 55 56])
(.cond (.t 55)
(.seq (.reg [mv 57 1,
mv 58 2,
ao 59 (.call 189 [(.t 57), (.t 58)]),
mv 6 59])
.ret)
(.seq (.reg [ao 61 (.bin .eql .no (.t 9) (.c (.int .i64 50))),
mv 60 61])
(.cond (.t 60)
(.seq (.reg [mv 62 1,
mv 63 2,
ao 64 (.bin .eql .no (.t 62) (.t 63)),
ao 65 (.call 138 [(.t 64)]),
mv 6 65])
.ret)
(.seq (.reg [ao 67 (.bin .eql .no (.t 9) (.c (.int .i64 51))),
mv 66 67])
(.cond (.t 66)
(.seq (.reg [mv 68 1,
mv 69 2,
ao 70 (.bin .neq .no (.t 68) (.t 69)),
ao 71 (.call 138 [(.t 70)]),
mv 6 71])
.ret)
(.seq (.reg [ao 73 (.bin .eql .no (.t 9) (.c (.int .i64 52))),
mv 72 73])
(.cond (.t 72)
(.seq (.reg [mv 74 1,
mv 75 2,
ao 76 (.bin .lss .no (.t 74) (.t 75)),
ao 77 (.call 138 [(.t 76)]),
mv 6 77])
.ret)
(.seq (.reg [ao 79 (.bin .eql .no (.t 9) (.c (.int .i64 53))),
mv 78 79])
(.cond (.t 78)
(.seq (.reg [mv 80 1,
mv 81 2,
ao 82 (.bin .gtr .no (.t 80) (.t 81)),
ao 83 (.call 138 [(.t 82)]),
mv 6 83])
.ret)
(.seq (.reg [ao 85 (.bin .eql .no (.t 9) (.c (.int .i64 54))),
mv 84 85])
(.cond (.t 84)
(.seq (.reg [mv 86 1,
mv 87 2,
ao 88 (.call 139 [(.t 86), (.t 87)]),
ao 89 (.call 138 [(.t 88)]),
mv 6 89])
.ret)
(.seq (.reg [ao 91 (.bin .eql .no (.t 9) (.c (.int .i64 74))),
mv 90 91])
(.cond (.t 90)
(.seq (.reg [mv 92 1,
mv 93 2,
ao 94 (.call 190 [(.t 92), (.t 93)]),
ao 95 (.call 138 [(.t 94)]),
mv 6 95])
.ret)
(.seq (.reg [ao 97 (.bin .eql .no (.t 9) (.c (.int .i64 75))),
mv 96 97])
(.cond (.t 96)
(.seq (.reg [mv 98 1,
mv 99 2,
ao 100 (.call 191 [(.t 98), (.t 99)]),
ao 101 (.call 138 [(.t 100)]),
mv 6 101])
.ret)
.skip))))))))))))))))))))))))))))))))))))
(.seq (.reg [mv 103 0,
ao 104 (.bin .sub .no (.t 103) (.c (.int .i64 64))),
ao 105 (.indexStr (.c (.str ⟨#[43, 45, 42, 47, 109, 77]⟩)) (.t 104)),
mv 106 1,
mv 107 2,
ao 108 (.call 192 [(.t 105), (.t 106), (.t 107)]),
mv 102 108,
ao 109 (.extract 0 (.t 102)),
ao 110 (.extract 1 (.t 102)),
mv 7 109,
mv 8 110])
(.seq (.reg [mv 111 7,
mv 6 111])
.ret)))) }
def w143 : WF := { nt := 106, results := [(2, none)], code :=
(.seq (.reg [ao 2 (.mov (.c (.list [] true)))])
(.seq (.reg [ao 3 (.mov (.c (.int .i64 0)))])
(.seq (.reg [ao 4 (.mov (.c (.int .i64 1)))])
(.seq (.reg [ao 5 (.mov (.c (.int .u8 0)))])
(.seq (.seq (.reg [ao 6 (.mov (.c (.int .i64 0)))])
(.block 0 (.loop (.seq (.seq (.reg [mv 13 6,
mv 14 0,
ao 15 (.lenS (.t 14)),
ao 16 (.bin .lss .no (.t 13) (.t 15))])
(.cond (.t 16)
.skip
(.exit 0)))
(.seq (.block 1 (.seq (.reg [mv 19 0,
mv 20 6,
ao 21 (.indexStr (.t 19) (.t 20)),
mv 7 21])
(.seq (.reg [mv 22 5,
mv 23 7,
ao 24 (.bin .or .no (.t 22) (.t 23)),
mv 5 24])
(.seq (.reg [mv 25 7,
ao 26 (.indexPA 256 1 (.c glA) (.t 25)),
ao 27 (.load false 1 (.t 26)),
ao 28 (.conv (.int .i64) (.t 27)),
mv 8 28])
(.seq (.reg [mv 29 3,
mv 30 4,
mv 31 8,
ao 32 (.un .xor (.t 31)),
ao 33 (.bin .and .no (.t 30) (.t 32)),
ao 34 (.bin .add .no (.t 29) (.t 33)),
mv 3 34])
(.reg [mv 35 8,
mv 4 35]))))))
(.reg [mv 17 6,
ao 18 (.bin .add .no (.t 17) (.c (.int .i64 1))),
mv 6 18]))))))
(.seq (.seq (.reg [mv 36 5,
ao 37 (.bin .geq .no (.t 36) (.c (.int .u8 128)))])
(.cond (.t 37)
(.seq (.reg [mv 38 0,
ao 39 (.call 193 [(.t 38), (.c (.fn (.func 194) [] []))]),
mv 2 39])
.ret)
.skip))
(.seq (.reg [mv 40 3,
ao 41 (.makeSlice 1 16 [(.str ⟨#[]⟩)] (.t 40) (.t 40)),
mv 9 41])
(.seq (.reg [ao 10 (.mov (.c (.int .i64 0)))])
(.seq (.reg [ao 11 (.mov (.c (.int .i64 0)))])
(.seq (.reg [ao 12 (.mov (.c (.int .i64 0)))])
(.seq (.block 2 (.loop (.seq (.seq (.reg [mv 42 12,
mv 43 0,
ao 44 (.lenS (.t 43)),
ao 45 (.bin .lss .no (.t 42) (.t 44)),
mv 46 45,
ag 47 (.mov (.t 0)) 46 true,
ag 48 (.mov (.t 12)) 46 true,
ag 49 (.indexStr (.t 47) (.t 48)) 46 true,
ag 50 (.indexPA 256 1 (.c glA) (.t 49)) 46 true,
ag 51 (.load false 1 (.t 50)) 46 true,
ag 52 (.bin .neq .no (.t 51) (.c (.int .u8 0))) 46 true,
ao 53 (.pick (.t 46) (.t 52) (.c (.bool false)))])
(.cond (.t 53)
.skip
(.exit 2)))
(.block 3 (.reg [mv 54 12,
ao 55 (.bin .add .no (.t 54) (.c (.int .i64 1))),
mv 12 55])))))
(.seq (.reg [mv 56 12,
mv 11 56])
(.seq (.block 4 (.loop (.seq (.seq (.reg [mv 57 12,
mv 58 0,
ao 59 (.lenS (.t 58)),
ao 60 (.bin .lss .no (.t 57) (.t 59))])
(.cond (.t 60)
.skip
(.exit 4)))
(.block 5 (.seq (.seq (.reg [mv 61 0,
mv 62 12,
ao 63 (.indexStr (.t 61) (.t 62)),
ao 64 (.indexPA 256 1 (.c glA) (.t 63)),
ao 65 (.load false 1 (.t 64)),
ao 66 (.bin .eql .no (.t 65) (.c (.int .u8 0)))])
(.cond (.t 66)
(.seq (.reg [mv 67 12,
ao 68 (.bin .add .no (.t 67) (.c (.int .i64 1))),
mv 12 68])
(.exit 5))
.skip))
(.seq (.reg [mv 69 9,
mv 70 10,
mv 71 0,
mv 72 11,
mv 73 12,
ao 74 (.slice .str (.t 71) (some (.t 72)) (some (.t 73)) none),
ao 75 (.indexSl 1 (.t 69) (.t 70)),
an (.store 1 (.t 75) (.t 74))])
(.seq (.reg [mv 76 10,
ao 77 (.bin .add .no (.t 76) (.c (.int .i64 1))),
mv 10 77])
(.seq (.reg [mv 78 12,
ao 79 (.bin .add .no (.t 78) (.c (.int .i64 1))),
mv 12 79])
(.seq (.block 6 (.loop (.seq (.seq (.reg [mv 80 12,
mv 81 0,
ao 82 (.lenS (.t 81)),
ao 83 (.bin .lss .no (.t 80) (.t 82)),
mv 84 83,
ag 85 (.mov (.t 0)) 84 true,
ag 86 (.mov (.t 12)) 84 true,
ag 87 (.indexStr (.t 85) (.t 86)) 84 true,
ag 88 (.indexPA 256 1 (.c glA) (.t 87)) 84 true,
ag 89 (.load false 1 (.t 88)) 84 true,
ag 90 (.bin .neq .no (.t 89) (.c (.int .u8 0))) 84 true,
ao 91 (.pick (.t 84) (.t 90) (.c (.bool false)))])
(.cond (.t 91)
.skip
(.exit 6)))
(.block 7 (.reg [mv 92 12,
ao 93 (.bin .add .no (.t 92) (.c (.int .i64 1))),
mv 12 93])))))
(.reg [mv 94 12,
mv 11 94]))))))))))
(.seq (.seq (.reg [mv 95 11,
mv 96 0,
ao 97 (.lenS (.t 96)),
ao 98 (.bin .lss .no (.t 95) (.t 97))])
(.cond (.t 98)
(.reg [mv 99 9,
mv 100 10,
mv 101 0,
mv 102 11,
ao 103 (.slice .str (.t 101) (some (.t 102)) none none),
ao 104 (.indexSl 1 (.t 99) (.t 100)),
an (.store 1 (.t 104) (.t 103))])
.skip))
(.seq (.reg [mv 105 9,
mv 2 105])
.ret))))))))))))))) }
def w147 : WF := { nt := 8, results := [(4, none)], code :=
(.seq (.reg [ao 4 (.mov (.c (.bool false)))])
(.seq (.reg [mv 5 0,
mv 6 1,
ao 7 (.call 196 [(.t 5), (.t 6)]),
mv 4 7])
.ret)) }
def w148 : WF := { nt := 13, results := [(0, none)], code :=
(.seq (.reg [ao 0 (.mov (.c .nilmap))])
(.seq (.reg [ao 1 (.mov (.c (.fn (.func 197) [] [])))])
(.seq (.reg [ao 2 (.mov (.c (.fn (.func 201) [] [])))])
(.seq (.reg [ao 3 (.mem .makeMap []),
an (.mem (.mapPut .str) [(.t 3), (.c (.str ⟨#[73, 70]⟩)), (.c (.fn (.func 204) [] []))]),
an (.mem (.mapPut .str) [(.t 3), (.c (.str ⟨#[66, 69, 71, 73, 78]⟩)), (.c (.fn (.func 206) [] []))]),
an (.mem (.mapPut .str) [(.t 3), (.c (.str ⟨#[68, 79]⟩)), (.c (.fn (.func 208) [] []))]),
mv 4 1,
ao 5 (.callv (.t 4) [(.c (.int .i64 3))]),
an (.mem (.mapPut .str) [(.t 3), (.c (.str ⟨#[65, 71, 65, 73, 78]⟩)), (.t 5)]),
mv 6 1,
ao 7 (.callv (.t 6) [(.c (.int .i64 4))]),
an (.mem (.mapPut .str) [(.t 3), (.c (.str ⟨#[85, 78, 84, 73, 76]⟩)), (.t 7)]),
mv 8 2,
ao 9 (.callv (.t 8) [(.c (.int .i64 6))]),
an (.mem (.mapPut .str) [(.t 3), (.c (.str ⟨#[76, 79, 79, 80]⟩)), (.t 9)]),
mv 10 2,
ao 11 (.callv (.t 10) [(.c (.int .i64 7))]),
an (.mem (.mapPut .str) [(.t 3), (.c (.str ⟨#[43, 76, 79, 79, 80]⟩)), (.t 11)]),
an (.mem (.mapPut .str) [(.t 3), (.c (.str ⟨#[84, 72, 69, 78]⟩)), (.c (.fn (.func 209) [] []))]),
an (.mem (.mapPut .str) [(.t 3), (.c (.str ⟨#[69, 76, 83, 69]⟩)), (.c (.fn (.func 210) [] []))]),
an (.mem (.mapPut .str) [(.t 3), (.c (.str ⟨#[87, 72, 73, 76, 69]⟩)), (.c (.fn (.func 213) [] []))]),
an (.mem (.mapPut .str) [(.t 3), (.c (.str ⟨#[82, 69, 80, 69, 65, 84]⟩)), (.c (.fn (.func 214) [] []))]),
an (.mem (.mapPut .str) [(.t 3), (.c (.str ⟨#[82, 69, 67, 85, 82, 83, 69]⟩)), (.c (.fn (.func 216) [] []))]),
mv 12 3,
mv 0 12])
.ret)))) }
def w149 : WF := { nt := 8, results := [(2, none)], code :=
(.seq (.reg [ao 2 (.mov (.c (.bool false)))])
(.seq (.reg [mv 3 0,
ao 4 (.nilCheck (.t 3)),
ao 5 (.fieldAddr 15 (.t 4)),
ao 6 (.load false 1 (.t 5)),
ao 7 (.bin .eql .no (.t 6) (.c (.int .i64 0))),
mv 2 7])
.ret)) }
def w150 : WF := { nt := 3, results := [(0, none)], code :=
(.seq (.reg [ao 0 (.mov (.c .nilmap))])
(.seq (.reg [ao 1 (.mem .makeMap []),
an (.mem (.mapPut .str) [(.t 1), (.c (.str ⟨#[58]⟩)), (.c (.fn (.func 219) [] []))]),
an (.mem (.mapPut .str) [(.t 1), (.c (.str ⟨#[59]⟩)), (.c (.fn (.func 221) [] []))]),
an (.mem (.mapPut .str) [(.t 1), (.c (.str ⟨#[67, 79, 78, 83, 84, 65, 78, 84]⟩)), (.c (.fn (.func 222) [] []))]),
an (.mem (.mapPut .str) [(.t 1), (.c (.str ⟨#[67, 82, 69, 65, 84, 69]⟩)), (.c (.fn (.func 224) [] []))]),
an (.mem (.mapPut .str) [(.t 1), (.c (.str ⟨#[77, 65, 82, 75, 69, 82]⟩)), (.c (.fn (.func 225) [] []))]),
an (.mem (.mapPut .str) [(.t 1), (.c (.str ⟨#[68, 79, 69, 83, 62]⟩)), (.c (.fn (.func 226) [] []))]),
an (.mem (.mapPut .str) [(.t 1), (.c (.str ⟨#[86, 65, 82, 73, 65, 66, 76, 69]⟩)), (.c (.fn (.func 228) [] []))]),
an (.mem (.mapPut .str) [(.t 1), (.c (.str ⟨#[73, 77, 77, 69, 68, 73, 65, 84, 69]⟩)), (.c (.fn (.func 231) [] []))]),
mv 2 1,
mv 0 2])
.ret)) }
def w151 : WF := { nt := 3, results := [(0, none)], code :=
(.seq (.reg [ao 0 (.mov (.c .nilmap))])
(.seq (.reg [ao 1 (.mem .makeMap []),
an (.mem (.mapPut .str) [(.t 1), (.c (.str ⟨#[39]⟩)), (.c (.fn (.func 235) [] []))]),
an (.mem (.mapPut .str) [(.t 1), (.c (.str ⟨#[91, 39, 93]⟩)), (.c (.fn (.func 238) [] []))]),
an (.mem (.mapPut .str) [(.t 1), (.c (.str ⟨#[76, 73, 84, 69, 82, 65, 76]⟩)), (.c (.fn (.func 239) [] []))]),
an (.mem (.mapPut .str) [(.t 1), (.c (.str ⟨#[91]⟩)), (.c (.fn (.func 240) [] []))]),
an (.mem (.mapPut .str) [(.t 1), (.c (.str ⟨#[93]⟩)), (.c (.fn (.func 241) [] []))]),
an (.mem (.mapPut .str) [(.t 1), (.c (.str ⟨#[67, 72, 65, 82]⟩)), (.c (.fn (.func 242) [] []))]),
an (.mem (.mapPut .str) [(.t 1), (.c (.str ⟨#[91, 67, 72, 65, 82, 93]⟩)), (.c (.fn (.func 244) [] []))]),
an (.mem (.mapPut .str) [(.t 1), (.c (.str ⟨#[40]⟩)), (.c (.fn (.func 245) [] []))]),
an (.mem (.mapPut .str) [(.t 1), (.c (.str ⟨#[92]⟩)), (.c (.fn (.func 247) [] []))]),
an (.mem (.mapPut .str) [(.t 1), (.c (.str ⟨#[46, 34]⟩)), (.c (.fn (.func 249) [] []))]),
an (.mem (.mapPut .str) [(.t 1), (.c (.str ⟨#[80, 79, 83, 84, 80, 79, 78, 69]⟩)), (.c (.fn (.func 250) [] []))]),
mv 2 1,
mv 0 2])
.ret)) }
def w152 : WF := { nt := 8, results := [(2, none)], code :=
(.seq (.reg [ao 2 (.mov (.c (.bool false)))])
(.seq (.reg [mv 3 0,
ao 4 (.nilCheck (.t 3)),
ao 5 (.fieldAddr 20 (.t 4)),
ao 6 (.load false 1 (.t 5)),
ao 7 (.bin .eql .no (.t 6) (.c (.int .i64 0))),
mv 2 7])
.ret)) }
def w153 : WF := { nt := 3, results := [(0, none)], code :=
(.seq (.reg [ao 0 (.mov (.c .nilmap))])
(.seq (.reg [ao 1 (.mem .makeMap []),
an (.mem (.mapPut .str) [(.t 1), (.c (.str ⟨#[40, 76, 73, 84, 41]⟩)), (.c (.fn (.func 251) [] []))]),
an (.mem (.mapPut .str) [(.t 1), (.c (.str ⟨#[40, 66, 82, 65, 78, 67, 72, 41]⟩)), (.c (.fn (.func 253) [] []))]),
an (.mem (.mapPut .str) [(.t 1), (.c (.str ⟨#[40, 48, 66, 82, 65, 78, 67, 72, 41]⟩)), (.c (.fn (.func 254) [] []))]),
an (.mem (.mapPut .str) [(.t 1), (.c (.str ⟨#[40, 68, 79, 41]⟩)), (.c (.fn (.func 256) [] []))]),
an (.mem (.mapPut .str) [(.t 1), (.c (.str ⟨#[40, 76, 79, 79, 80, 41]⟩)), (.c (.fn (.func 257) [] []))]),
an (.mem (.mapPut .str) [(.t 1), (.c (.str ⟨#[40, 43, 76, 79, 79, 80, 41]⟩)), (.c (.fn (.func 260) [] []))]),
an (.mem (.mapPut .str) [(.t 1), (.c (.str ⟨#[40, 86, 65, 82, 41]⟩)), (.c (.fn (.func 262) [] []))]),
an (.mem (.mapPut .str) [(.t 1), (.c (.str ⟨#[40, 68, 79, 69, 83, 41]⟩)), (.c (.fn (.func 264) [] []))]),
an (.mem (.mapPut .str) [(.t 1), (.c (.str ⟨#[40, 84, 69, 88, 84, 41]⟩)), (.c (.fn (.func 265) [] []))]),
an (.mem (.mapPut .str) [(.t 1), (.c (.str ⟨#[40, 77, 65, 82, 75, 41]⟩)), (.c (.fn (.func 269) [] []))]),
mv 2 1,
mv 0 2])
.ret)) }
def w154 : WF := { nt := 3, results := [(0, none)], code :=
(.seq (.reg [ao 0 (.mov (.c .nilmap))])
(.seq (.reg [ao 1 (.mem .makeMap []),
an (.mem (.mapPut .str) [(.t 1), (.c (.str ⟨#[64]⟩)), (.c (.fn (.func 270) [] []))]),
an (.mem (.mapPut .str) [(.t 1), (.c (.str ⟨#[67, 64]⟩)), (.c (.fn (.func 271) [] []))]),
an (.mem (.mapPut .str) [(.t 1), (.c (.str ⟨#[33]⟩)), (.c (.fn (.func 273) [] []))]),
an (.mem (.mapPut .str) [(.t 1), (.c (.str ⟨#[67, 33]⟩)), (.c (.fn (.func 276) [] []))]),
an (.mem (.mapPut .str) [(.t 1), (.c (.str ⟨#[43, 33]⟩)), (.c (.fn (.func 278) [] []))]),
an (.mem (.mapPut .str) [(.t 1), (.c (.str ⟨#[72, 69, 82, 69]⟩)), (.c (.fn (.func 279) [] []))]),
an (.mem (.mapPut .str) [(.t 1), (.c (.str ⟨#[66, 65, 83, 69]⟩)), (.c (.fn (.func 280) [] []))]),
an (.mem (.mapPut .str) [(.t 1), (.c (.str ⟨#[65, 76, 76, 79, 84]⟩)), (.c (.fn (.func 281) [] []))]),
an (.mem (.mapPut .str) [(.t 1), (.c (.str ⟨#[65, 76, 73, 71, 78]⟩)), (.c (.fn (.func 282) [] []))]),
an (.mem (.mapPut .str) [(.t 1), (.c (.str ⟨#[68, 69, 67, 73, 77, 65, 76]⟩)), (.c (.fn (.func 283) [] []))]),
an (.mem (.mapPut .str) [(.t 1), (.c (.str ⟨#[72, 69, 88]⟩)), (.c (.fn (.func 286) [] []))]),
an (.mem (.mapPut .str) [(.t 1), (.c (.str ⟨#[44]⟩)), (.c (.fn (.func 287) [] []))]),
an (.mem (.mapPut .str) [(.t 1), (.c (.str ⟨#[67, 44]⟩)), (.c (.fn (.func 288) [] []))]),
mv 2 1,
mv 0 2])
.ret)) }
def w155 : WF := { nt := 3, results := [(0, none)], code :=
(.seq (.reg [ao 0 (.mov (.c .nilmap))])
(.seq (.reg [ao 1 (.mem .makeMap []),
an (.mem (.mapPut .str) [(.t 1), (.c (.str ⟨#[69, 88, 73, 84]⟩)), (.c (.fn (.func 263) [] []))]),
an (.mem (.mapPut .str) [(.t 1), (.c (.str ⟨#[62, 82]⟩)), (.c (.fn (.func 289) [] []))]),
an (.mem (.mapPut .str) [(.t 1), (.c (.str ⟨#[82, 62]⟩)), (.c (.fn (.func 290) [] []))]),
an (.mem (.mapPut .str) [(.t 1), (.c (.str ⟨#[82, 64]⟩)), (.c (.fn (.func 291) [] []))]),
an (.mem (.mapPut .str) [(.t 1), (.c (.str ⟨#[73]⟩)), (.c (.fn (.func 293) [] []))]),
an (.mem (.mapPut .str) [(.t 1), (.c (.str ⟨#[74]⟩)), (.c (.fn (.func 294) [] []))]),
an (.mem (.mapPut .str) [(.t 1), (.c (.str ⟨#[85, 78, 76, 79, 79, 80]⟩)), (.c (.fn (.func 295) [] []))]),
an (.mem (.mapPut .str) [(.t 1), (.c (.str ⟨#[76, 69, 65, 86, 69]⟩)), (.c (.fn (.func 296) [] []))]),
mv 2 1,
mv 0 2])
.ret)) }
def w156 : WF := { nt := 3, results := [(0, none)], code :=
(.seq (.reg [ao 0 (.mov (.c .nilmap))])
(.seq (.reg [ao 1 (.mem .makeMap []),
an (.mem (.mapPut .str) [(.t 1), (.c (.str ⟨#[69, 77, 73, 84]⟩)), (.c (.fn (.func 297) [] []))]),
an (.mem (.mapPut .str) [(.t 1), (.c (.str ⟨#[67, 82]⟩)), (.c (.fn (.func 298) [] []))]),
an (.mem (.mapPut .str) [(.t 1), (.c (.str ⟨#[83, 80, 65, 67, 69]⟩)), (.c (.fn (.func 299) [] []))]),
an (.mem (.mapPut .str) [(.t 1), (.c (.str ⟨#[46]⟩)), (.c (.fn (.func 300) [] []))]),
an (.mem (.mapPut .str) [(.t 1), (.c (.str ⟨#[75, 69, 89]⟩)), (.c (.fn (.func 301) [] []))]),
an (.mem (.mapPut .str) [(.t 1), (.c (.str ⟨#[84, 89, 80, 69]⟩)), (.c (.fn (.func 302) [] []))]),
an (.mem (.mapPut .str) [(.t 1), (.c (.str ⟨#[84, 72, 82, 79, 87]⟩)), (.c (.fn (.func 303) [] []))]),
an (.mem (.mapPut .str) [(.t 1), (.c (.str ⟨#[65, 66, 79, 82, 84]⟩)), (.c (.fn (.func 304) [] []))]),
an (.mem (.mapPut .str) [(.t 1), (.c (.str ⟨#[67, 79, 77, 80, 73, 76, 69, 44]⟩)), (.c (.fn (.func 305) [] []))]),
an (.mem (.mapPut .str) [(.t 1), (.c (.str ⟨#[69, 88, 69, 67, 85, 84, 69]⟩)), (.c (.fn (.func 306) [] []))]),
mv 2 1,
mv 0 2])
.ret)) }
def w157 : WF := { nt := 16, results := [], code :=
(.seq (.reg [mv 6 0,
ao 7 (.call 48 [(.t 6)]),
mv 8 7,
ag 9 (.mov (.t 1)) 8 true,
ag 10 (.un .not (.t 9)) 8 true,
ao 11 (.pick (.t 8) (.t 10) (.c (.bool false)))])
(.cond (.t 11)
(.reg [mv 12 0,
mv 13 2,
ao 14 (.nilCheck (.t 12)),
ao 15 (.fieldAddr 21 (.t 14)),
an (.store 1 (.t 15) (.t 13))])
.skip)) }
def w158 : WF := { nt := 13, results := [(6, none)], code :=
(.seq (.reg [ao 6 (.mov (.c (.int .i64 0)))])
(.seq (.reg [mv 7 0,
mv 8 2,
ao 9 (.bin .eql .no (.t 8) (.c (.int .i64 0))),
mv 10 2,
ao 11 (.call 157 [(.t 7), (.t 9), (.t 10)])])
(.seq (.reg [mv 12 1,
mv 6 12])
.ret))) }
def w159 : WF := { nt := 35, results := [], code :=
(.seq (.calm [mv 4 0,
mv 5 0,
⟨(some 6), .nilCheck (.t 5), none, [1], false⟩,
⟨(some 7), .fieldAddr 0 (.t 6), none, [2], false⟩,
⟨(some 8), .fieldAddr 2 (.t 7), none, [3], false⟩,
⟨(some 9), .load false 1 (.t 8), none, [4], false⟩,
⟨(some 10), .len (.t 9), none, [5], false⟩,
mv 11 1,
⟨(some 12), .len (.t 11), none, [7], false⟩,
⟨(some 13), .bin .add .no (.t 10) (.t 12), none, [6, 8], false⟩,
mv 14 0,
⟨(some 15), .nilCheck (.t 14), none, [10], false⟩,
⟨(some 16), .fieldAddr 15 (.t 15), none, [11], false⟩,
⟨(some 17), .fieldAddr 3 (.t 16), none, [12], false⟩,
⟨(some 18), .load false 1 (.t 17), none, [13], false⟩,
⟨(some 19), .bin .leq .no (.t 13) (.t 18), none, [9, 14], false⟩,
⟨(some 20), .call 157 [(.t 4), (.t 19), (.c (.int .i64 (-5)))], none, [0, 15], true⟩])
(.seq (.reg [mv 21 0,
ao 22 (.call 48 [(.t 21)])])
(.cond (.t 22)
(.reg [mv 23 0,
mv 24 0,
ao 25 (.nilCheck (.t 24)),
ao 26 (.fieldAddr 0 (.t 25)),
ao 27 (.fieldAddr 2 (.t 26)),
ao 28 (.load false 1 (.t 27)),
mv 29 1,
ao 30 (.buildSlice 1 2 [(.list [] true)] [(0, 1, (.t 28)), (1, 1, (.t 29))]),
ao 31 (.call 307 [(.t 30)]),
ao 32 (.nilCheck (.t 23)),
ao 33 (.fieldAddr 0 (.t 32)),
ao 34 (.fieldAddr 2 (.t 33)),
an (.store 1 (.t 34) (.t 31))])
.skip))) }
def w160 : WF := { nt := 11, results := [], code :=
(.seq (.reg [mv 4 0,
ao 5 (.call 48 [(.t 4)])])
(.cond (.t 5)
(.reg [mv 6 0,
mv 7 1,
ao 8 (.nilCheck (.t 6)),
ao 9 (.fieldAddr 0 (.t 8)),
ao 10 (.fieldAddr 7 (.t 9)),
an (.store 1 (.t 10) (.t 7))])
.skip)) }
def w161 : WF := { nt := 37, results := [(6, none), (7, none)], code :=
(.seq (.reg [ao 6 (.mov (.c (.list [] true))),
ao 7 (.mov (.c (.int .i64 0)))])
(.seq (.seq (.reg [mv 8 1,
ao 9 (.bin .lss .no (.t 8) (.c (.int .i64 0))),
mv 10 9,
ag 11 (.mov (.t 2)) 10 false,
ag 12 (.bin .lss .no (.t 11) (.c (.int .i64 0))) 10 false,
ao 13 (.pick (.t 10) (.c (.bool true)) (.t 12)),
mv 14 13,
ag 15 (.mov (.t 2)) 14 false,
ag 16 (.mov (.t 0)) 14 false,
ag 17 (.len (.t 16)) 14 false,
ag 18 (.bin .gtr .no (.t 15) (.t 17)) 14 false,
ao 19 (.pick (.t 14) (.c (.bool true)) (.t 18)),
mv 20 19,
ag 21 (.mov (.t 1)) 20 false,
ag 22 (.mov (.t 0)) 20 false,
ag 23 (.len (.t 22)) 20 false,
ag 24 (.mov (.t 2)) 20 false,
ag 25 (.bin .sub .no (.t 23) (.t 24)) 20 false,
ag 26 (.bin .gtr .no (.t 21) (.t 25)) 20 false,
ao 27 (.pick (.t 20) (.c (.bool true)) (.t 26))])
(.cond (.t 27)
(.seq (.reg [ao 6 (.mov (.c (.list [] true))),
ao 7 (.mov (.c (.int .i64 (-9))))])
.ret)
.skip))
(.seq (.reg [mv 28 0,
mv 29 1,
mv 30 1,
mv 31 2,
ao 32 (.bin .add .no (.t 30) (.t 31)),
mv 33 1,
mv 34 2,
ao 35 (.bin .add .no (.t 33) (.t 34)),
ao 36 (.slice (.sl 1) (.t 28) (some (.t 29)) (some (.t 32)) (some (.t 35))),
mv 6 36,
ao 7 (.mov (.c (.int .i64 0)))])
.ret))) }
def w162 : WF := { nt := 9, results := [], code :=
(.same [mv 3 0,
ao 4 (.load false 1 (.t 1)),
mv 5 0,
⟨(some 6), .call 72 [(.t 5)], none, [2], true⟩,
⟨(some 7), .callv (.t 4) [(.t 6)], none, [1, 3, 3], true⟩,
⟨(some 8), .call 75 [(.t 3), (.t 7)], none, [0, 4, 4], true⟩]) }
def w163 : WF := { nt := 15, results := [], code :=
(.seq (.reg [mv 4 0,
ao 5 (.call 164 [(.t 4), (.c (.int .i64 2))])])
(.seq (.reg [mv 6 0,
ao 7 (.call 72 [(.t 6)]),
mv 3 7])
(.same [mv 8 0,
ao 9 (.load false 1 (.t 1)),
mv 10 0,
⟨(some 11), .call 72 [(.t 10)], none, [2], true⟩,
mv 12 3,
⟨(some 13), .callv (.t 9) [(.t 11), (.t 12)], none, [1, 3, 4, 3], true⟩,
⟨(some 14), .call 75 [(.t 8), (.t 13)], none, [0, 5, 5], true⟩]))) }
def w164 : WF := { nt := 12, results := [], code :=
(.reg [mv 4 0,
ao 5 (.nilCheck (.t 4)),
ao 6 (.fieldAddr 0 (.t 5)),
ao 7 (.load false 1 (.t 6)),
ao 8 (.len (.t 7)),
mv 9 1,
ao 10 (.bin .geq .no (.t 8) (.t 9)),
ao 11 (.call 34 [(.t 10), (.c (.int .i64 (-4)))])]) }
def w165 : WF := { nt := 19, results := [], code :=
(.seq (.reg [mv 5 0,
ao 6 (.call 164 [(.t 5), (.c (.int .i64 3))])])
(.seq (.reg [mv 7 0,
ao 8 (.call 72 [(.t 7)]),
mv 9 0,
ao 10 (.call 72 [(.t 9)]),
mv 3 8,
mv 4 10])
(.same [mv 11 0,
ao 12 (.load false 1 (.t 1)),
mv 13 0,
⟨(some 14), .call 72 [(.t 13)], none, [2], true⟩,
mv 15 4,
mv 16 3,
⟨(some 17), .callv (.t 12) [(.t 14), (.t 15), (.t 16)], none, [1, 3, 4, 5, 3], true⟩,
⟨(some 18), .call 75 [(.t 11), (.t 17)], none, [0, 6, 6], true⟩]))) }
def w166 : WF := { nt := 23, results := [], code :=
(.seq (.reg [mv 6 0,
ao 7 (.call 164 [(.t 6), (.c (.int .i64 4))])])
(.seq (.reg [mv 8 0,
ao 9 (.call 72 [(.t 8)]),
mv 10 0,
ao 11 (.call 72 [(.t 10)]),
mv 12 0,
ao 13 (.call 72 [(.t 12)]),
mv 3 9,
mv 4 11,
mv 5 13])
(.same [mv 14 0,
ao 15 (.load false 1 (.t 1)),
mv 16 0,
⟨(some 17), .call 72 [(.t 16)], none, [2], true⟩,
mv 18 5,
mv 19 4,
mv 20 3,
⟨(some 21), .callv (.t 15) [(.t 17), (.t 18), (.t 19), (.t 20)], none, [1, 3, 4, 5, 6, 3], true⟩,
⟨(some 22), .call 75 [(.t 14), (.t 21)], none, [0, 7, 7], true⟩]))) }
def w167 : WF := { nt := 29, results := [(4, none), (5, none), (6, none)], code :=
(.seq (.reg [ao 4 (.mov (.c (.list [] true))),
ao 5 (.mov (.c (.list [] true))),
ao 6 (.mov (.c (.int .i64 0)))])
(.seq (.reg [mv 8 0,
ao 9 (.len (.t 8)),
mv 10 1,
ao 11 (.bin .sub .no (.t 9) (.t 10)),
mv 7 11])
(.seq (.seq (.reg [mv 12 1,
ao 13 (.bin .lss .no (.t 12) (.c (.int .i64 0))),
mv 14 13,
ag 15 (.mov (.t 7)) 14 false,
ag 16 (.bin .lss .no (.t 15) (.c (.int .i64 0))) 14 false,
ao 17 (.pick (.t 14) (.c (.bool true)) (.t 16))])
(.cond (.t 17)
(.seq (.reg [ao 4 (.mov (.c (.list [] true))),
ao 5 (.mov (.c (.list [] true))),
ao 6 (.mov (.c (.int .i64 (-4))))])
.ret)
.skip))
(.seq (.calm [mv 18 0,
mv 19 7,
mv 20 7,
⟨(some 21), .slice (.sl 1) (.t 18) none (some (.t 19)) (some (.t 20)), none, [0, 1, 2], false⟩,
mv 22 0,
mv 23 7,
mv 24 0,
⟨(some 25), .len (.t 24), none, [6], false⟩,
mv 26 0,
⟨(some 27), .len (.t 26), none, [8], false⟩,
⟨(some 28), .slice (.sl 1) (.t 22) (some (.t 23)) (some (.t 25)) (some (.t 27)), none, [4, 5, 7, 9], false⟩,
⟨(some 4), .mov (.t 21), none, [3, 0, 1, 2, 3], false⟩,
⟨(some 5), .mov (.t 28), none, [10, 11, 0, 1, 2, 3, 4, 5, 6, 7, 8, 9, 10, 11], false⟩,
⟨(some 6), .mov (.c (.int .i64 0)), none, [12, 0, 1, 2, 3, 4, 5, 6, 7, 8, 9, 10, 11, 12], false⟩])
.ret)))) }
def w168 : WF := { nt := 16, results := [(4, none), (5, none)], code :=
(.seq (.reg [ao 2 (.box (.t 0)),
ao 3 (.box (.t 1)),
ao 4 (.mov (.c (.int .i64 0))),
ao 5 (.mov (.c (.int .i64 0)))])
(.seq (.reg [ao 7 (.makeFunc (.func 308) [] [(.t 3), (.t 2)]),
mv 6 7])
(.seq (.seq (.reg [mv 8 6,
ao 9 (.callv (.t 8) []),
ao 10 (.un .not (.t 9))])
(.cond (.t 10)
(.seq (.reg [ao 4 (.mov (.c (.int .i64 0))),
ao 5 (.mov (.c (.int .i64 (-4))))])
.ret)
.skip))
(.seq (.reg [ao 11 (.load false 1 (.t 2)),
ao 12 (.len (.t 11)),
ao 13 (.bin .sub .no (.t 12) (.c (.int .i64 1))),
ao 14 (.load false 1 (.t 3)),
ao 15 (.bin .sub .no (.t 13) (.t 14)),
mv 4 15,
ao 5 (.mov (.c (.int .i64 0)))])
.ret)))) }
def w169 : WF := { nt := 36, results := [(2, none)], code :=
(.seq (.reg [ao 2 (.mov (.c (.list [] true)))])
(.seq (.reg [ao 3 (.mov (.c (.int .i64 0)))])
(.seq (.seq (.reg [mv 9 0,
ao 10 (.len (.t 9)),
ao 11 (.mov (.c (.int .i64 0)))])
(.block 0 (.loop (.seq (.reg [ao 12 (.bin .lss .no (.t 11) (.t 10))])
(.seq (.cond (.t 12)
.skip
(.exit 0))
(.seq (.block 1 (.seq (.reg [ao 13 (.indexSl 1 (.t 9) (.t 11)),
ao 14 (.load false 1 (.t 13)),
mv 5 14])
(.seq (.reg [mv 15 3,
mv 16 5,
ao 17 (.len (.t 16)),
ao 18 (.bin .add .no (.t 15) (.t 17)),
mv 3 18])
(.seq (.reg [mv 19 3,
ao 20 (.bin .lss .no (.t 19) (.c (.int .i64 0)))])
(.cond (.t 20)
(.reg [ao 21 (.makeIface 9 (.c (.str ⟨#[108, 101, 110, 32, 111, 117, 116, 32, 111, 102, 32, 114, 97, 110, 103, 101]⟩))),
an (.panic (.t 21))])
.skip)))))
(.reg [ao 22 (.bin .add .no (.t 11) (.c (.int .i64 1))),
mv 11 22])))))))
(.seq (.reg [mv 23 3,
ao 24 (.call 309 [(.c (.list [] true)), (.t 23)]),
mv 6 24])
(.seq (.seq (.reg [mv 25 0,
ao 26 (.len (.t 25)),
ao 27 (.mov (.c (.int .i64 0)))])
(.block 2 (.loop (.seq (.reg [ao 28 (.bin .lss .no (.t 27) (.t 26))])
(.seq (.cond (.t 28)
.skip
(.exit 2))
(.seq (.block 3 (.seq (.reg [ao 29 (.indexSl 1 (.t 25) (.t 27)),
ao 30 (.load false 1 (.t 29)),
mv 8 30])
(.reg [mv 31 6,
mv 32 8,
ao 33 (.append 1 8 none (.t 31) (.t 32)),
mv 6 33])))
(.reg [ao 34 (.bin .add .no (.t 27) (.c (.int .i64 1))),
mv 27 34])))))))
(.seq (.reg [mv 35 6,
mv 2 35])
.ret)))))) }
def w170 : WF := { nt := 22, results := [(5, none)], code :=
(.seq (.reg [ao 5 (.mov (.c (.list [] true)))])
(.seq (.reg [mv 10 0,
mv 11 1,
ao 12 (.call 171 [(.t 10), (.t 11)]),
mv 9 12,
ao 13 (.extract 0 (.t 9)),
ao 14 (.extract 1 (.t 9)),
ao 15 (.extract 2 (.t 9)),
mv 6 13,
mv 7 14,
mv 8 15])
(.seq (.reg [mv 16 6,
mv 17 7,
mv 18 8,
mv 19 1,
ao 20 (.load false 1 (.t 2)),
ao 21 (.call 172 [(.t 16), (.t 17), (.t 18), (.t 19), (.t 20)]),
mv 5 21])
.ret))) }
def w171 : WF := { nt := 38, results := [(4, none), (5, none), (6, none)], code :=
(.seq (.reg [ao 4 (.mov (.c (.int .i64 0))),
ao 5 (.mov (.c (.int .i64 0))),
ao 6 (.mov (.c (.bool false)))])
(.seq (.seq (.reg [mv 9 1])
(.block 0 (.seq (.reg [ao 11 (.bin .eql .no (.t 9) (.c (.int .i64 0))),
mv 10 11])
(.cond (.t 10)
(.seq (.reg [ao 4 (.mov (.c (.int .i64 0))),
ao 5 (.mov (.c (.int .i64 0))),
ao 6 (.mov (.c (.bool false)))])
.ret)
(.seq (.reg [ao 13 (.bin .eql .no (.t 9) (.c (.int .i64 (-1)))),
mv 12 13])
(.cond (.t 12)
(.seq (.reg [mv 14 0,
ao 15 (.un .neg (.t 14)),
mv 4 15,
ao 5 (.mov (.c (.int .i64 0))),
ao 6 (.mov (.c (.bool true)))])
.ret)
.skip))))))
(.seq (.calm [mv 16 0,
mv 17 1,
⟨(some 18), .bin .quo .no (.t 16) (.t 17), none, [0, 1], false⟩,
mv 19 0,
mv 20 1,
⟨(some 21), .bin .rem .no (.t 19) (.t 20), none, [3, 4], false⟩,
⟨(some 7), .mov (.t 18), none, [2, 0, 1, 2], false⟩,
⟨(some 8), .mov (.t 21), none, [5, 6, 0, 1, 2, 3, 4, 5, 6], false⟩])
(.seq (.seq (.reg [mv 22 8,
ao 23 (.bin .neq .no (.t 22) (.c (.int .i64 0))),
mv 24 23,
ag 25 (.mov (.t 8)) 24 true,
ag 26 (.bin .lss .no (.t 25) (.c (.int .i64 0))) 24 true,
ag 27 (.mov (.t 1)) 24 true,
ag 28 (.bin .lss .no (.t 27) (.c (.int .i64 0))) 24 true,
ag 29 (.bin .neq .bool (.t 26) (.t 28)) 24 true,
ao 30 (.pick (.t 24) (.t 29) (.c (.bool false)))])
(.cond (.t 30)
(.reg [mv 31 7,
ao 32 (.bin .sub .no (.t 31) (.c (.int .i64 1))),
mv 33 8,
mv 34 1,
ao 35 (.bin .add .no (.t 33) (.t 34)),
mv 7 32,
mv 8 35])
.skip))
(.seq (.reg [mv 36 7,
mv 37 8,
mv 4 36,
mv 5 37,
ao 6 (.mov (.c (.bool true)))])
.ret))))) }
def w172 : WF := { nt := 20, results := [(10, none)], code :=
(.seq (.reg [ao 10 (.mov (.c (.list [] true)))])
(.seq (.reg [mv 11 3,
ao 12 (.bin .neq .no (.t 11) (.c (.int .i64 0))),
ao 13 (.call 34 [(.t 12), (.c (.int .i64 (-10)))])])
(.seq (.reg [mv 14 2,
ao 15 (.call 34 [(.t 14), (.c (.int .i64 (-11)))])])
(.seq (.reg [mv 16 4,
mv 17 0,
mv 18 1,
ao 19 (.callv (.t 16) [(.t 17), (.t 18)]),
mv 10 19])
.ret)))) }
def w173 : WF := { nt := 25, results := [(7, none)], code :=
(.seq (.reg [ao 7 (.mov (.c (.list [] true)))])
(.seq (.reg [mv 12 0,
mv 13 1,
mv 14 2,
ao 15 (.call 174 [(.t 12), (.t 13), (.t 14)]),
mv 11 15,
ao 16 (.extract 0 (.t 11)),
ao 17 (.extract 1 (.t 11)),
ao 18 (.extract 2 (.t 11)),
mv 8 16,
mv 9 17,
mv 10 18])
(.seq (.reg [mv 19 8,
mv 20 9,
mv 21 10,
mv 22 2,
ao 23 (.load false 1 (.t 3)),
ao 24 (.call 172 [(.t 19), (.t 20), (.t 21), (.t 22), (.t 23)]),
mv 7 24])
.ret))) }
end Fz.D
