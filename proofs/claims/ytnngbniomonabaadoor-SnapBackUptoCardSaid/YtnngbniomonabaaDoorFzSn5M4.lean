import Derived.Test.YtnngbniomonabaaDoorFzSn5M3
import Derived.Test.YtnngbniomonabaaDoorProg
set_option linter.all false
set_option linter.unusedVariables false
set_option linter.unusedSimpArgs false
set_option linter.unnecessarySimpa false
namespace Fz
open Go
def Sees (H H' : List Ob) : Prop := ∀ i : Nat, match H[i]? with
  | some (.live l) => H'[i]? = some (.live l) ∨ H'[i]? = some (.fixed l)
  | some .dead => True
  | some o => H'[i]? = some o
  | none => True
theorem Sees.refl (H : List Ob) : Sees H H := by
  intro i
  cases h : H[i]? with
  | none => trivial
  | some o => cases o <;> simp
theorem Sees.trans {A B C : List Ob} (h : Sees A B) (g : Sees B C) : Sees A C := by
  intro i
  have h1 := h i
  have h2 := g i
  cases ho : A[i]? with
  | none => trivial
  | some o =>
    rw [ho] at h1
    cases o with
    | live l =>
      rcases h1 with h1 | h1
      · rw [h1] at h2; exact h2
      · rw [h1] at h2; exact .inr h2
    | dead => trivial
    | _ => rw [show B[i]? = _ from h1] at h2; exact h2
theorem Sees.app (H G : List Ob) : Sees H (H ++ G) := by
  intro i
  cases ho : H[i]? with
  | none => trivial
  | some o =>
    have : (H ++ G)[i]? = some o := by rw [List.getElem?_append_left (List.getElem?_eq_some_iff.1 ho).1]; exact ho
    cases o <;> simp [this]
theorem Sees.set {H : List Ob} {i : Nat} {l : List V} (h : H[i]? = some (.live l)) : Sees H (H.set i (.fixed l)) := by
  intro j
  rw [List.getElem?_set]
  by_cases e : i = j
  · subst e
    rw [h, if_pos rfl, if_pos (List.getElem?_eq_some_iff.1 h).1]
    exact .inr rfl
  · rw [if_neg e]
    cases ho : H[j]? with
    | none => trivial
    | some o => cases o <;> simp
theorem peek_see {H : List Ob} {n : Nat} {v : V} {l : List V} {H' : List Ob} (G : Sees H H') (h : peek H n v = some l) : peek (H') n v = some l := by
  cases v with
  | ref x => exact h
  | ptr id off =>
    simp only [peek] at h ⊢
    cases ho : H[id]? with
    | none => rw [ho] at h; cases h
    | some o =>
      have hs := G id
      rw [ho] at h hs
      cases o with
      | live x => rcases hs with hs | hs <;> (rw [hs]; exact h)
      | fixed x => rw [show H'[id]? = _ from hs]; exact h
      | _ => cases h
  | _ => cases h
theorem elems_see {H : List Ob} {n : Nat} {v : V} {l : List V × Nat} {H' : List Ob} (G : Sees H H') (h : elems H n v = some l) : elems (H') n v = some l := by
  cases v with
  | own id off len m =>
    simp only [elems] at h ⊢
    split at h
    · rename_i hm
      rw [if_pos hm]
      obtain ⟨x, hx, hh⟩ := Option.map_eq_some_iff.1 h
      rw [peek_see G hx, Option.map_some, hh]
    · cases h
  | _ => exact h
theorem lend_see {H : List Ob} {H' : List Ob} (G : Sees H H') : ∀ (k : Nat) (v v' : V), lendV H k v = some v' → lendV (H') k v = some v' := by
  intro k
  induction k with
  | zero => intro v v' h; cases h
  | succ k ih =>
    have hm : ∀ (l x : List V), mapOpt (lendV H k) l = some x → mapOpt (lendV (H') k) l = some x := by
      intro l
      induction l with
      | nil => intro x h; exact h
      | cons v l ihl =>
        intro x h
        simp only [mapOpt] at h ⊢
        split at h <;> cases h
        rename_i a b ha hb
        rw [ih _ _ ha, ihl _ hb]
    intro v v' h
    cases v with
    | own id off len n =>
      simp only [lendV] at h ⊢
      split at h
      · cases h
      · rename_i hn
        rw [if_neg hn]
        split at h
        · rename_i l hl
          rw [peek_see G hl]
          dsimp only
          split at h
          · rename_i x hx; rw [hm _ _ hx]; exact h
          · cases h
        · cases h
    | agg l =>
      simp only [lendV] at h ⊢
      obtain ⟨x, hx, hh⟩ := Option.map_eq_some_iff.1 h
      rw [hm _ _ hx, Option.map_some, hh]
    | tuple l =>
      simp only [lendV] at h ⊢
      obtain ⟨x, hx, hh⟩ := Option.map_eq_some_iff.1 h
      rw [hm _ _ hx, Option.map_some, hh]
    | _ => exact h
theorem lends_see {H : List Ob} {H' : List Ob} (G : Sees H H') (k : Nat) : ∀ (l x : List V), mapOpt (lendV H k) l = some x → mapOpt (lendV (H') k) l = some x := by
  intro l
  induction l with
  | nil => intro x h; exact h
  | cons v l ihl =>
    intro x h
    simp only [mapOpt] at h ⊢
    split at h <;> cases h
    rename_i a b ha hb
    rw [lend_see G _ _ _ ha, ihl _ hb]
theorem mapOf_see {H : List Ob} {H' : List Ob} (G : Sees H H') {m : V} {x : List V × List V} (h : mapOf H m = some x) : mapOf (H') m = some x := by
  unfold mapOf at h ⊢
  split at h <;> try (cases h; done)
  · exact h
  · exact h
  · rename_i id
    split at h <;> cases h
    rename_i ho
    have hs := G id
    rw [ho] at hs
    rw [show H'[id]? = _ from hs]
theorem rd_see {H : List Ob} {H' : List Ob} (G : Sees H H') {k : RK} {l : List V} {v : V} (h : rdV H k l = some v) : rdV (H') k l = some v := by
  unfold rdV at h ⊢
  split at h
  · rename_i kk z ok m k
    cases hm : mapOf H m with
    | none => rw [hm] at h; cases h
    | some x => rw [hm] at h; rw [mapOf_see G hm]; exact h
  · cases h
theorem evOp_see {ρ : Opd → V} {op : AOp} (hp : pureOp op = true) {H : List Ob} {H' : List Ob} (G : Sees H H') {v : V} {H1 : List Ob} (h : evOp ρ H op = some (.val v H1)) :
    ∃ H2, evOp ρ (H') op = some (.val v H2) := by
  by_cases hf : heapFree op = true
  · exact ⟨_, evOp_free hf H (H') h⟩
  · cases op with
    | rd k l =>
      simp only [evOp, ans] at h ⊢
      obtain ⟨u, hu, h⟩ := Option.map_eq_some_iff.1 h
      rw [rd_see G hu]; cases h; exact ⟨_, rfl⟩
    | load agg n x =>
      simp only [evOp] at h ⊢
      cases hl : peek H n (ρ x) with
      | none => rw [hl] at h; cases h
      | some l =>
        rw [hl] at h
        rw [peek_see G hl]
        dsimp only at h ⊢
        split at h
        · rename_i ha; cases h; exact ⟨_, if_pos ha⟩
        · rename_i ha
          rw [if_neg ha]
          split at h
          · cases h; exact ⟨_, rfl⟩
          · cases h
    | conv k x =>
      cases k with
      | b2s =>
        simp only [evOp] at h ⊢
        cases hx : ρ x with
        | list l c =>
          rw [hx] at h
          dsimp only at h ⊢
          obtain ⟨q, hq, h⟩ := Option.bind_eq_some_iff.1 h
          rw [elems_see G hq, Option.bind_some]
          split at h <;> cases h
          rename_i hc
          exact ⟨_, if_pos hc⟩
        | own a b c d =>
          rw [hx] at h
          dsimp only at h ⊢
          obtain ⟨q, hq, h⟩ := Option.bind_eq_some_iff.1 h
          rw [elems_see G hq, Option.bind_some]
          split at h <;> cases h
          rename_i hc
          exact ⟨_, if_pos hc⟩
        | _ => rw [hx] at h; cases h
      | _ => exact absurd rfl hf
    | slice k x lo hi mx =>
      cases k with
      | arr alen n =>
        simp only [evOp, ans] at h ⊢
        obtain ⟨u, hu, hh⟩ := Option.map_eq_some_iff.1 h
        refine ⟨H', ?_⟩
        have : sliceV (H') (.arr alen n) (ρ x) (lo.map ρ) (hi.map ρ) (mx.map ρ) = some u := by
          unfold sliceV at hu ⊢
          split at hu
          · cases hu
          · rename_i hc
            rw [if_neg hc]
            cases hx : ρ x with
            | ptr id off =>
              rw [hx] at hu
              dsimp only at hu ⊢
              split at hu
              · rename_i h1 h2 h3 h4
                rw [h1, h2, h3, peek_see G h4]
                exact hu
              · cases hu
            | _ => rw [hx] at hu; cases hu
        rw [this]
        cases hh
        rfl
      | _ => exact absurd rfl hf
    | _ => first | (exact absurd rfl hf) | (cases hp)
theorem quiet_see {call : CallT} {inl : FuncId → Bool} {e : Env} {o : AO} {H : List Ob} {H' : List Ob} (G : Sees H H') {v : V} (h : quietOp call inl e H o = some v) :
    quietOp call inl e (H') o = some v := by
  have go : ∀ (hh : (match evOp (evO e) H o.op with
    | some (.val v _) => if pureOp o.op then some v else none
    | some (.call k args) => match mapOpt (lendV H depthF) args with
      | some l => if groundL l then (match doCall call inl k l [] with
        | some (.ret v, []) => if ground v && (listFree v || groundL args) then some v else none
        | _ => none) else none
      | none => none
    | _ => none) = some v), (match evOp (evO e) (H') o.op with
    | some (.val v _) => if pureOp o.op then some v else none
    | some (.call k args) => match mapOpt (lendV (H') depthF) args with
      | some l => if groundL l then (match doCall call inl k l [] with
        | some (.ret v, []) => if ground v && (listFree v || groundL args) then some v else none
        | _ => none) else none
      | none => none
    | _ => none) = some v := by
    intro hh
    cases hv : evOp (evO e) H o.op with
    | none => rw [hv] at hh; cases hh
    | some q =>
      cases q with
      | val u H1 =>
        rw [hv] at hh
        dsimp only at hh
        have hp : pureOp o.op = true := by
          split at hh
          · assumption
          · cases hh
        obtain ⟨H2, h2⟩ := evOp_see hp G hv
        rw [h2]
        exact hh
      | skip _ => rw [hv] at hh; cases hh
      | panic _ _ => rw [hv] at hh; cases hh
      | call k args =>
        have hc : evOp (evO e) (H') o.op = some (.call k args) := by
          generalize o.op = op at hv
          cases op with
          | call f l => exact hv
          | callv f l => exact hv
          | conv kk x =>
            exfalso
            cases kk with
            | b2s =>
              simp only [evOp] at hv
              split at hv
              · obtain ⟨a, _, hv⟩ := Option.bind_eq_some_iff.1 hv
                split at hv <;> cases hv
              · obtain ⟨a, _, hv⟩ := Option.bind_eq_some_iff.1 hv
                split at hv <;> cases hv
              · cases hv
            | _ =>
              simp only [evOp] at hv
              first
              | (cases hv; done)
              | (split at hv <;> cases hv)
          | append n b z s x =>
            exfalso
            simp only [evOp] at hv
            repeat' split at hv
            all_goals cases hv
          | mem k l =>
            exfalso
            simp only [evOp] at hv
            exact memV_nocall hv
          | _ =>
            exfalso
            simp only [evOp, ans] at hv
            repeat' split at hv
            all_goals first | (cases hv; done) | (obtain ⟨_, _, hv⟩ := Option.map_eq_some_iff.1 hv; cases hv)
        rw [hc]
        rw [hv] at hh
        dsimp only at hh ⊢
        split at hh
        · rename_i l hl
          rw [lends_see G _ _ _ hl]
          exact hh
        · cases hh
  unfold quietOp at h ⊢
  dsimp only at h ⊢
  cases hg : o.guard with
  | none => rw [hg] at h; exact go h
  | some tw =>
    rw [hg] at h
    obtain ⟨t', w⟩ := tw
    dsimp only at h ⊢
    cases he : e t' with
    | bool b =>
      simp only [he] at h ⊢
      by_cases hb : b = w
      · simp only [hb, if_true] at h ⊢; exact go h
      · simp only [hb, if_false] at h ⊢; exact h
    | tuple l =>
      simp only [he] at h ⊢
      cases l with
      | nil => exact h
      | cons _ _ => cases h
    | _ => simp only [he] at h; cases h
def wExt (p : AP) (Q : X → Env → List Ob → Prop) (H0 : List Ob) : List AO → Env → List Ob → Prop
  | [], e, H => Q .normal e H
  | o :: r, e, H => if o.eff = true then
      wGuard e o.guard (wAct p e H (fun v H' => Sees H0 H' ∧ wExt p Q H0 r (putE e o.dst v) H') (fun _ _ => False) o.op) (wExt p Q H0 r (putE e o.dst uv) H)
    else wGuard e o.guard (wQ p e H0 (fun v => wExt p Q H0 r (putE e o.dst v) H) o.op) (wExt p Q H0 r (putE e o.dst uv) H)
def AtH (call : CallT) (inl : FuncId → Bool) (H0 : List Ob) : List AO → List (Env × Nat × V) → Prop
  | [], [] => True
  | o :: r, (e, _, v) :: t => (o.eff = true ∨ quietOp call inl e H0 o = some v) ∧ AtH call inl H0 r t
  | _, _ => False
theorem AtH_mono {f g : CallT} (h : LeC f g) {inl : FuncId → Bool} {H0 : List Ob} : ∀ {r : List AO} {t : List (Env × Nat × V)}, AtH f inl H0 r t → AtH g inl H0 r t
  | [], [], _ => trivial
  | o :: r, (e, k, v) :: t, ⟨h1, h2⟩ => ⟨h1.imp id (quietOp_mono h inl e H0 o v), AtH_mono h h2⟩
  | [], _ :: _, h => h.elim
  | _ :: _, [], h => h.elim
theorem AtH_steady {call : CallT} {inl : FuncId → Bool} {ops : List AO} {an : List (List Nat)} {H0 : List Ob} {hs : List (List Ob)} (hx : ∀ G ∈ hs, Sees H0 G) : ∀ (r : List AO) (s : Nat) (t : List (Env × Nat × V)), AtH call inl H0 r t → steadyAll call inl ops an hs (r.zipIdx s) t = true
  | [], s, [], _ => rfl
  | o :: r, s, (e, k, v) :: t, ⟨h1, h2⟩ => by
    rw [List.zipIdx_cons]
    unfold steadyAll
    rw [Bool.and_eq_true]
    refine ⟨?_, AtH_steady hx r (s + 1) t h2⟩
    rw [Bool.or_eq_true]
    refine h1.imp id fun hq => ?_
    have : ∀ l : List (List Ob), (∀ G ∈ l, Sees H0 G) → steady call inl e v o l = true := by
      intro l
      induction l with
      | nil => intro _; rfl
      | cons H' l ihl =>
        intro hl'
        have J := hl' H' (List.mem_cons_self ..)
        unfold steady
        rw [quiet_see J hq, Bool.and_eq_true]
        exact ⟨veq_refl v, ihl fun G hG => hl' G (List.mem_cons_of_mem _ hG)⟩
    exact this _ fun G hG => hx G (List.mem_of_mem_drop (List.mem_of_mem_take hG))
  | [], _, _ :: _, h => h.elim
  | _ :: _, _, [], h => h.elim
theorem wExt_trace {p : AP} {Q : X → Env → List Ob → Prop} {H0 : List Ob} (ops : List AO) : ∀ (e : Env) (H : List Ob) (hs : List (List Ob)), wExt p Q H0 ops e H → hs.getLast? = some H → (Sees H0 H) → (∀ G ∈ hs, Sees H0 G) →
    ∃ n t hs' e' H', trace (acall p n) p.inlY ops e hs = some (t, hs', e') ∧ hs'.getLast? = some H' ∧ (∀ G ∈ hs', Sees H0 G) ∧ AtH (acall p n) p.inlY H0 ops t ∧ Q .normal e' H' := by
  induction ops with
  | nil => intro e H hs h hl hJ ha; exact ⟨0, _, _, _, H, rfl, hl, ha, trivial, h⟩
  | cons o r ih =>
    intro e H hs h hl hJ ha
    unfold wExt at h
    unfold trace
    rw [hl]
    dsimp only
    have ha' : ∀ H', (Sees H0 H') → ∀ G ∈ hs ++ [H'], Sees H0 G := by
      intro H' hH' G hG
      rcases List.mem_append.1 hG with h | h
      · exact ha G h
      · rw [List.mem_singleton.1 h]; exact hH'
    by_cases he : o.eff = true
    · rw [if_pos he] at h
      simp only [if_pos he]
      rcases wEff_ok h with ⟨n, v, H1, h1, hG, h2⟩ | ⟨h1, h2⟩
      · have hJ' : Sees H0 H1 := hG
        obtain ⟨m, t, hs', e', H2, h3, h4, h5, h6, h7⟩ := ih _ _ (hs ++ [H1]) h2 (by simp) hJ' (ha' _ hJ')
        refine ⟨max n m, (e, hs.length - 1, v) :: t, hs', e', H2, ?_, h4, h5, ⟨.inl he, AtH_mono (acall_le p (Nat.le_max_right n m)) h6⟩, h7⟩
        rw [effOp_mono (acall_le p (Nat.le_max_left n m)) _ _ _ _ _ h1]
        dsimp only
        rw [trace_mono (acall_le p (Nat.le_max_right n m)) _ _ _ _ _ h3]
        rfl
      · obtain ⟨m, t, hs', e', H2, h3, h4, h5, h6, h7⟩ := ih _ _ (hs ++ [H]) h2 (by simp) hJ (ha' _ hJ)
        refine ⟨m, (e, hs.length - 1, uv) :: t, hs', e', H2, ?_, h4, h5, ⟨.inl he, h6⟩, h7⟩
        rw [h1]
        dsimp only
        rw [h3]
        rfl
    · rw [if_neg he] at h
      simp only [if_neg he]
      rcases wQuiet_ok h with ⟨n, v, h1, h2⟩ | ⟨h1, h2⟩
      · obtain ⟨m, t, hs', e', H2, h3, h4, h5, h6, h7⟩ := ih _ _ hs h2 hl hJ ha
        refine ⟨max n m, (e, hs.length - 1, v) :: t, hs', e', H2, ?_, h4, h5, ⟨.inr (quietOp_mono (acall_le p (Nat.le_max_left n m)) _ _ _ _ _ h1), AtH_mono (acall_le p (Nat.le_max_right n m)) h6⟩, h7⟩
        rw [quiet_see hJ (quietOp_mono (acall_le p (Nat.le_max_left n m)) _ _ _ _ _ h1)]
        dsimp only
        rw [trace_mono (acall_le p (Nat.le_max_right n m)) _ _ _ _ _ h3]
        rfl
      · obtain ⟨m, t, hs', e', H2, h3, h4, h5, h6, h7⟩ := ih _ _ hs h2 hl hJ ha
        refine ⟨m, (e, hs.length - 1, uv) :: t, hs', e', H2, ?_, h4, h5, ⟨.inr (h1 m), h6⟩, h7⟩
        rw [quiet_see hJ (h1 m)]
        dsimp only
        rw [h3]
        rfl
theorem WDraw_see {p : AP} {ops : List AO} (hc : okDraw ops = true) {e : Env} {H R : List Ob} {Q : X → Env → List Ob → Prop} (hR : Sees R H) (h : wExt p Q R ops e H) : WDraw p ops e H Q := by
  obtain ⟨n, t, hs', e', H', h1, h2, h3, h4, h5⟩ := wExt_trace ops e H [H] h rfl hR (fun G hG => by rw [List.mem_singleton.1 hG]; exact hR)
  refine ⟨n, .normal, e', H', ?_, h5⟩
  unfold runDraw
  rw [h1]
  dsimp only
  rw [hc, AtH_steady h3 ops 0 t h4, h2]
  rfl
theorem WDraw_ext {p : AP} {ops : List AO} (hc : okDraw ops = true) {e : Env} {H : List Ob} {Q : X → Env → List Ob → Prop} (h : wExt p Q H ops e H) : WDraw p ops e H Q := WDraw_see hc (Sees.refl H) h
section
variable {p : AP} {Q : X → Env → List Ob → Prop} {e : Env} {H H0 : List Ob}
@[simp ↓] theorem wExt_nil : wExt p Q H0 [] e H = Q .normal e H := (rfl)
@[simp ↓] theorem wExt_eff {d : Option Nat} {op : AOp} {af : List Nat} {r : List AO} :
    wExt p Q H0 (⟨d, op, none, af, true⟩ :: r) e H = wAct p e H (fun v H' => Sees H0 H' ∧ wVal v fun v => wExt p Q H0 r (putE e d v) H') (fun _ _ => False) op := (rfl)
@[simp ↓] theorem wExt_effG {d : Option Nat} {op : AOp} {t : Nat} {w : Bool} {af : List Nat} {r : List AO} :
    wExt p Q H0 (⟨d, op, some (t, w), af, true⟩ :: r) e H = wGuardV (e t) w (wAct p e H (fun v H' => Sees H0 H' ∧ wVal v fun v => wExt p Q H0 r (putE e d v) H') (fun _ _ => False) op) (wExt p Q H0 r (putE e d uv) H) := (rfl)
@[simp ↓] theorem wExt_q {d : Option Nat} {op : AOp} {af : List Nat} {r : List AO} :
    wExt p Q H0 (⟨d, op, none, af, false⟩ :: r) e H = wQ p e H0 (fun v => wVal v fun v => wExt p Q H0 r (putE e d v) H) op := (rfl)
@[simp ↓] theorem wExt_qG {d : Option Nat} {op : AOp} {t : Nat} {w : Bool} {af : List Nat} {r : List AO} :
    wExt p Q H0 (⟨d, op, some (t, w), af, false⟩ :: r) e H = wGuardV (e t) w (wQ p e H0 (fun v => wVal v fun v => wExt p Q H0 r (putE e d v) H) op) (wExt p Q H0 r (putE e d uv) H) := (rfl)
def see1 : Ob → Ob → Prop
  | .live l, o => o = .live l ∨ o = .fixed l
  | .dead, _ => True
  | x, o => o = x
@[simp] theorem see1_live {l m : List V} : see1 (.live l) (.live m) = (m = l) := by simp [see1]
@[simp] theorem see1_lf {l m : List V} : see1 (.live l) (.fixed m) = (m = l) := by simp [see1]
@[simp] theorem see1_dead {o : Ob} : see1 .dead o = True := (rfl)
@[simp] theorem see1_fixed {l m : List V} : see1 (.fixed l) (.fixed m) = (m = l) := by simp [see1]
@[simp] theorem sees_nil {H : List Ob} : Sees [] H = True := eq_true fun i => by simp
@[simp] theorem sees_cons {o o' : Ob} {R H : List Ob} : Sees (o :: R) (o' :: H) = (see1 o o' ∧ Sees R H) := by
  refine propext ⟨fun h => ⟨?_, fun i => ?_⟩, fun h i => ?_⟩
  · have := h 0
    cases o <;> simpa [see1] using this
  · have := h (i + 1)
    simpa only [List.getElem?_cons_succ] using this
  · cases i with
    | zero => have := h.1; cases o <;> simpa [see1] using this
    | succ i => have := h.2 i; simpa only [List.getElem?_cons_succ] using this
@[simp] theorem sees_self {H : List Ob} : Sees H H = True := eq_true (Sees.refl H)
@[simp] theorem sees_app {H G : List Ob} : Sees H (H ++ G) = True := eq_true (Sees.app H G)
end
end Fz
namespace Fz
open Go
@[simp] theorem ex3 {α β γ : Type} {x : α} {y : β} {z : γ} {K : α → β → γ → Prop} : (∃ a b c, (x = a ∧ y = b ∧ z = c) ∧ K a b c) = K x y z :=
  propext ⟨fun ⟨_, _, _, ⟨rfl, rfl, rfl⟩, h⟩ => h, fun h => ⟨x, y, z, ⟨rfl, rfl, rfl⟩, h⟩⟩
theorem reach_go {H : List Ob} {k i : Nat} {todo seen : List Nat} {o : Ob} (hs : seen.contains i = false) (ho : H[i]? = some o) : reach H (k + 1) (i :: todo) seen = reach H k (todo ++ refsOb o) (seen ++ [i]) := by
  conv => lhs; unfold reach
  rw [if_neg (by rw [hs]; exact Bool.false_ne_true), ho]
theorem reach_skip {H : List Ob} {k i : Nat} {todo seen : List Nat} (hs : seen.contains i = true) : reach H (k + 1) (i :: todo) seen = reach H k todo seen := by
  conv => lhs; unfold reach
  rw [if_pos hs]
theorem reach_end {H : List Ob} {k : Nat} {seen : List Nat} : reach H (k + 1) [] seen = some seen := by
  unfold reach; rfl
def roundQ (id : Nat) (Q : CR → List Ob → Prop) : QX := fun x _ H2 => ∃ k2 ts2 l2, H2[id]? = some (.loop k2 ts2 l2 .busy) ∧ match x with
  | .normal => Q (.ret (.bool true)) (H2.set id (.loop k2 ts2 l2 .ready))
  | .ret => Q (.ret (.bool false)) (H2.set id (.loop k2 ts2 l2 (.done .ret)))
  | .exit i => Q (.ret (.bool false)) (H2.set id (.loop k2 ts2 l2 (.done (.exit i))))
  | _ => False
def assignQ (p : AP) (cb : WC) (id : Nat) (Q : CR → List Ob → Prop) : QX := fun x e1 H1 => match x with
  | .normal => ∃ k1 ts1 l1, H1[id]? = some (.loop k1 ts1 l1 .ready) ∧ wx p cb e1 (H1.set id (.loop k1 ts1 l1 .busy)) (roundQ id Q)
  | _ => False
theorem WFun_round {p : AP} {id k : Nat} {ts : List Nat} {l rest : List V} {ab : ABody} {H : List Ob} {Q : CR → List Ob → Prop} (ca cb : WC) (hb : p.body k = some ab) (hH : H[id]? = some (.loop k ts l .ready)) (hl : rest.length = ab.ps.length)
    (ha : ab.assign = toA ca) (hbd : ab.body = toA cb) (oa : okW ca = true) (ob : okW cb = true)
    (h : wx p ca (setPs (envT ts l) ab.ps rest) H (assignQ p cb id Q)) : WFun p YF (.yld id :: rest) H Q := by
  obtain ⟨n, x, e1, H1, h1, h2⟩ := wx_ok _ _ _ _ oa h
  cases x with
  | normal =>
    obtain ⟨k1, ts1, l1, h3, h4⟩ := h2
    obtain ⟨m, y, e2, H2, h5, h6⟩ := wx_ok _ _ _ _ ob h4
    obtain ⟨k2, ts2, l2, h7, h8⟩ := h6
    have g1 := exec_le p (Nat.le_max_left n m) _ _ _ _ h1
    have g2 := exec_le p (Nat.le_max_right n m) _ _ _ _ h5
    cases y with
    | normal => exact ⟨max n m, _, _, by simp only [acall, callW, if_true, roundW, hH, hb, hl, ha, g1, h3, hbd, g2, h7], h8⟩
    | ret => exact ⟨max n m, _, _, by simp only [acall, callW, if_true, roundW, hH, hb, hl, ha, g1, h3, hbd, g2, h7], h8⟩
    | exit i => exact ⟨max n m, _, _, by simp only [acall, callW, if_true, roundW, hH, hb, hl, ha, g1, h3, hbd, g2, h7], h8⟩
    | panic v => cases h8
    | mayRet => cases h8
  | _ => cases h2
theorem WRange_of {p : AP} {k : Nat} {ab : ABody} {g : FuncId} {first cap : List V} {e : Env} {H : List Ob} {Q : QX} {af : AFun} (hb : p.body k = some ab) (hg : g ≠ YF) (hp : p.prim g = none) (hf : p.fn g = some af) {ids : List Nat}
    (hr : reach (H ++ [Ob.loop k ab.keep (ab.keep.map e) .ready]) 1000 (refsL (first ++ [.yld H.length] ++ cap)) [] = some ids)
    (h : WFun p g (renL (fun i => ids.idxOf i) (first ++ [.yld H.length] ++ cap)) (ids.map fun i => renOb (fun i => ids.idxOf i) ((H ++ [Ob.loop k ab.keep (ab.keep.map e) .ready])[i]?.getD .dead)) fun r Hl =>
      ids.length ≤ Hl.length ∧ ∃ x e' H', endRange H.length e (some (renR (backK ids (H ++ [Ob.loop k ab.keep (ab.keep.map e) .ready]).length) r, backH ids r Hl (H ++ [Ob.loop k ab.keep (ab.keep.map e) .ready]))) = some (x, e', H') ∧ Q x e' H') :
    WRange p k (.fn (.func g) first cap) e H Q := by
  obtain ⟨n, r, Hl, h1, h2, h3⟩ := h
  refine ⟨ab, g, first, cap, hb, rfl, n, _, _, doCall_inl rfl hr (r := r) (Hl := Hl) ?_ h2, h3⟩
  rw [← h1]
  simp only [acall, callW, callE, if_neg hg, hp, hf]
end Fz
namespace Fz
open Go
def Has (n : Nat) (H : List Ob) (v : V) (l : List V) : Prop :=
  uni n l = true ∧ n ≠ 0 ∧ ((∃ c, v = .list l c) ∨ ∃ id cells, v = .own id 0 l.length n ∧ (H[id]? = some (.live cells) ∨ H[id]? = some (.fixed cells)) ∧ l.length * n ≤ cells.length ∧ cells.take (l.length * n) = flat l)
theorem Has.list {n : Nat} {H : List Ob} {l : List V} {c : Bool} (hu : uni n l = true) (hn : n ≠ 0) : Has n H (.list l c) l := ⟨hu, hn, .inl ⟨c, rfl⟩⟩
theorem has_see {n : Nat} {R H : List Ob} {v : V} {l : List V} (hs : Sees R H) (h : Has n R v l) : Has n H v l := by
  obtain ⟨h1, h2, h3⟩ := h
  refine ⟨h1, h2, ?_⟩
  rcases h3 with h3 | ⟨id, cells, h3, h4, h5⟩
  · exact .inl h3
  · have := hs id
    rcases h4 with h4 | h4
    · rw [h4] at this
      exact .inr ⟨id, cells, h3, this, h5⟩
    · rw [h4] at this
      exact .inr ⟨id, cells, h3, .inr this, h5⟩
theorem has_ac {n b : Nat} {H : List Ob} {v : V} {l : List V} (h : Ac n b (H.drop b) v l) : Has n H v l := by
  obtain ⟨h1, h2, h3⟩ := h
  refine ⟨h1, h2, ?_⟩
  rcases h3 with ⟨rfl, rfl⟩ | ⟨j, cells, h3, h4, h5⟩
  · exact .inl ⟨true, rfl⟩
  · rw [List.getElem?_drop] at h4
    exact .inr ⟨b + j, cells, h3, .inl h4, h5⟩
theorem frz_has {H : List Ob} {n k : Nat} {v : V} {l : List V} {K : V → List Ob → Prop} (ha : Has n H v l) (hg : (flat l).all (gk k) = true) (hgr : l.all ground = true)
    (hl : (n = 1 ∧ l.all leafy = true) ∨ (n ≠ 1 ∧ ∀ v ∈ l, ∃ c, v = .agg c)) (hK : ∀ H', Sees H H' → H'.length = H.length → K (.list (l.map nrm) false) H') : xFrz (k + 1) v H K := by
  obtain ⟨h1, h2, h3⟩ := ha
  rcases h3 with ⟨c, rfl⟩ | ⟨id, cells, rfl, h4, h5, h6⟩
  · rw [frz_gk (by rw [gk_list]; exact hgr), nr_list]
    exact hK H (Sees.refl H) rfl
  · have e1 : (cells.drop 0).take (l.length * n) = flat l := by rw [List.drop_zero, h6]
    have fin : ∀ H' : List Ob, Sees H H' → H'.length = H.length → (n ≠ 1 ∨ ((flat l).map nrm).all leafy = true) ∧ K (.list (chunk n l.length ((flat l).map nrm)) false) H' := by
      intro H' q1 q2
      rcases hl with ⟨rfl, hl⟩ | ⟨hn, hl⟩
      · obtain ⟨f1, _⟩ := flat_leafy hl
        rw [f1]
        refine ⟨.inr (by rw [leafy_nrm]; exact hl), ?_⟩
        rw [chunk_one, List.take_of_length_le (by simp)]
        exact hK _ q1 q2
      · refine ⟨.inl hn, ?_⟩
        have : chunk n l.length ((flat l).map nrm) = l.map nrm := by
          rw [← chunk_nrm]
          unfold chunk
          rw [if_neg hn, chunk_of h1 hn hl]
        rw [this]
        exact hK _ q1 q2
    rw [frz_own]
    rcases h4 with h4 | h4
    · rw [wOb_at h4]
      refine ⟨⟨by omega, h2⟩, ?_⟩
      rw [wVal_eq, wSetOb_eq, e1, frzL_gk hg, wVal_eq]
      exact fin _ (Sees.set h4) (by simp)
    · rw [show ∀ L F : List V → Prop, wOb H id L F = F cells from fun L F => by simp [wOb, h4]]
      refine ⟨⟨by omega, h2⟩, ?_⟩
      rw [wVal_eq, e1, frzL_gk hg, wVal_eq]
      exact fin _ (Sees.refl H) rfl
end Fz
namespace Fz
open Go
def gho (n m : Nat) (H : List Ob) : List Ob := (H.set n .dead).set m .dead
theorem has_val {n : Nat} {H : List Ob} {v : V} {l : List V} (h : Has n H v l) : cellsOf v = [v] ∧ isAny v = false ∧ storable v = true := by
  obtain ⟨_, _, h3⟩ := h
  rcases h3 with ⟨c, rfl⟩ | ⟨j, c, rfl, _⟩ <;> exact ⟨rfl, rfl, rfl⟩
end Fz
namespace Fz
open Go
end Fz
namespace Fz
open Go
def roundL (p : AP) (b : WC) (Q : QX) : QX := fun x e H => match x with
  | .normal => xL p b e H Q
  | .mayRet => False
  | x => Q x e H
theorem xL_one {p : AP} {b : WC} {Q : QX} {e : Env} {H : List Ob} (hc : okW b = true) (h : wx p b e H (roundL p b Q)) : xL p b e H Q := by
  show WX p (.loop (toA b)) e H Q
  obtain ⟨n, x, e', H', h1, h2⟩ := wx_ok b e H _ hc h
  cases x with
  | normal =>
    obtain ⟨m, x, e'', H'', h3, h4⟩ := (show WX p (.loop (toA b)) e' H' Q from h2)
    refine ⟨max n m + 1, x, e'', H'', ?_, h4⟩
    rw [exec, exec_le p (Nat.le_max_left n m) _ _ _ _ h1]
    exact exec_le p (Nat.le_max_right n m) _ _ _ _ h3
  | mayRet => cases h2
  | _ => exact ⟨n + 1, _, _, _, by rw [exec, h1], h2⟩
end Fz
set_option maxRecDepth 100000
namespace Fz.D
open Go Go.Proofs
def w3 : WF := { nt := 53, results := [(6, none)], code :=
(.seq (.reg [ao 3 (.box (.t 0)),
ao 6 (.mov (.c (.bool false)))])
(.seq (.reg [ao 13 (.call 5 []),
mv 7 13])
(.seq (.seq (.reg [ao 14 (.load true 15 (.t 3)),
mv 15 1,
ao 16 (.call 6 [(.t 14), (.t 15)]),
ao 17 (.un .not (.t 16))])
(.cond (.t 17)
(.seq (.reg [mv 18 7,
mv 6 18])
.ret)
.skip))
(.seq (.reg [ao 19 (.load true 15 (.t 3)),
mv 20 1,
ao 21 (.call 7 [(.t 19), (.t 20)]),
mv 8 21])
(.seq (.reg [mv 23 8,
mv 24 1,
ao 25 (.call 8 [(.t 23), (.t 24)]),
mv 22 25,
ao 26 (.extract 0 (.t 22)),
ao 27 (.extract 1 (.t 22)),
ao 9 (.alloc [(.list [] true), (.list [] true), (.list [] true), (.list [] true), (.list [] true), (.list [] true), (.list [] true), (.int .i64 0), (.int .i64 0), (.int .i64 0), (.int .i64 0), (.int .i64 0), (.int .i64 0), (.bool false), (.bool false)]),
an (.store 15 (.t 9) (.t 26)),
mv 10 27])
(.seq (.reg [ao 29 (.buildSlice 1 0 [(.int .u8 0)] []),
mv 30 8,
ao 31 (.append 1 1 none (.t 29) (.t 30)),
mv 32 2,
ao 33 (.buildSlice 1 1 [(.int .u8 0)] [(0, 1, (.t 32))]),
ao 34 (.append 1 1 none (.t 31) (.t 33)),
mv 35 1,
ao 36 (.call 8 [(.t 34), (.t 35)]),
mv 28 36,
ao 37 (.extract 0 (.t 28)),
ao 38 (.extract 1 (.t 28)),
ao 11 (.alloc [(.list [] true), (.list [] true), (.list [] true), (.list [] true), (.list [] true), (.list [] true), (.list [] true), (.int .i64 0), (.int .i64 0), (.int .i64 0), (.int .i64 0), (.int .i64 0), (.int .i64 0), (.bool false), (.bool false)]),
an (.store 15 (.t 11) (.t 37)),
mv 12 38])
(.seq (.reg [mv 39 7,
mv 40 39,
ag 41 (.mov (.t 10)) 40 true,
ag 42 (.bin .eql .no (.t 41) (.c (.int .i64 0))) 40 true,
ao 43 (.pick (.t 40) (.t 42) (.c (.bool false))),
mv 44 43,
ag 45 (.load true 15 (.t 3)) 44 true,
ag 46 (.load true 15 (.t 9)) 44 true,
ag 47 (.call 9 [(.t 45), (.t 46)]) 44 true,
ao 48 (.pick (.t 44) (.t 47) (.c (.bool false))),
mv 49 48,
ag 50 (.mov (.t 12)) 49 true,
ag 51 (.bin .eql .no (.t 50) (.c (.int .i64 2))) 49 true,
ao 52 (.pick (.t 49) (.t 51) (.c (.bool false))),
mv 6 52])
.ret))))))) }
def w4 : WF := { nt := 50, results := [(4, none)], code :=
(.seq (.reg [ao 4 (.mov (.c (.bool false)))])
(.seq (.reg [ao 8 (.call 5 []),
mv 5 8])
(.seq (.seq (.reg [mv 9 0,
ao 10 (.len (.t 9)),
ao 11 (.bin .gtr .no (.t 10) (.c (.int .i64 300))),
mv 12 11,
ag 13 (.mov (.t 1)) 12 false,
ag 14 (.len (.t 13)) 12 false,
ag 15 (.bin .gtr .no (.t 14) (.c (.int .i64 200))) 12 false,
ao 16 (.pick (.t 12) (.c (.bool true)) (.t 15))])
(.cond (.t 16)
(.seq (.reg [mv 17 5,
mv 4 17])
.ret)
.skip))
(.seq (.reg [mv 19 0,
mv 20 1,
ao 21 (.call 8 [(.t 19), (.t 20)]),
mv 18 21,
ao 22 (.extract 0 (.t 18)),
ao 23 (.extract 1 (.t 18)),
ao 6 (.alloc [(.list [] true), (.list [] true), (.list [] true), (.list [] true), (.list [] true), (.list [] true), (.list [] true), (.int .i64 0), (.int .i64 0), (.int .i64 0), (.int .i64 0), (.int .i64 0), (.int .i64 0), (.bool false), (.bool false)]),
an (.store 15 (.t 6) (.t 22)),
mv 7 23])
(.seq (.seq (.reg [mv 24 7,
ao 25 (.bin .neq .no (.t 24) (.c (.int .i64 0)))])
(.cond (.t 25)
(.seq (.reg [mv 26 5,
mv 27 26,
ag 28 (.load true 15 (.t 6)) 27 true,
ag 29 (.build [(.list [] true), (.list [] true), (.list [] true), (.list [] true), (.list [] true), (.list [] true), (.list [] true), (.int .i64 0), (.int .i64 0), (.int .i64 0), (.int .i64 0), (.int .i64 0), (.int .i64 0), (.bool false), (.bool false)] []) 27 true,
ag 30 (.call 9 [(.t 28), (.t 29)]) 27 true,
ao 31 (.pick (.t 27) (.t 30) (.c (.bool false))),
mv 4 31])
.ret)
.skip))
(.seq (.calm [mv 32 5,
⟨(some 33), .mov (.t 32), none, [0], false⟩,
⟨(some 34), .fieldAddr 0 (.t 6), some (33, true), [1], false⟩,
⟨(some 35), .load false 1 (.t 34), some (33, true), [2, 1], false⟩,
⟨(some 36), .len (.t 35), some (33, true), [3, 1], false⟩,
⟨(some 37), .mov (.t 1), some (33, true), [1], false⟩,
⟨(some 38), .len (.t 37), some (33, true), [5, 1], false⟩,
⟨(some 39), .bin .eql .no (.t 36) (.t 38), some (33, true), [4, 6, 1], false⟩,
⟨(some 40), .pick (.t 33) (.t 39) (.c (.bool false)), none, [1, 7], false⟩,
⟨(some 41), .mov (.t 40), none, [8, 1], false⟩,
⟨(some 42), .load true 15 (.t 6), some (41, true), [9], false⟩,
⟨(some 43), .mov (.t 1), some (41, true), [9], false⟩,
⟨(some 44), .call 7 [(.t 42), (.t 43)], some (41, true), [10, 11, 9, 9], false⟩,
⟨(some 45), .conv .b2s (.t 44), some (41, true), [12, 9], false⟩,
⟨(some 46), .mov (.t 0), some (41, true), [9], false⟩,
⟨(some 47), .conv .b2s (.t 46), some (41, true), [14, 9], false⟩,
⟨(some 48), .bin .eql .no (.t 45) (.t 47), some (41, true), [13, 15, 9], false⟩,
⟨(some 49), .pick (.t 41) (.t 48) (.c (.bool false)), none, [9, 16], false⟩,
⟨(some 4), .mov (.t 49), none, [17, 12, 0, 1, 2, 3, 4, 5, 6, 7, 8, 9, 10, 11, 12, 13, 14, 15, 16, 17], false⟩])
.ret)))))) }
def w5 : WF := { nt := 64, results := [(0, none)], code :=
(.seq (.reg [ao 0 (.mov (.c (.bool false)))])
(.seq (.reg [ao 8 (.makeSlice 1 1 [(.int .u8 0)] (.c (.int .i64 100)) (.c (.int .i64 100))),
mv 1 8])
(.seq (.reg [ao 9 (.makeSlice 1 1 [(.int .u8 0)] (.c (.int .i64 100)) (.c (.int .i64 100))),
ao 10 (.buildSlice 1 1 [(.int .i64 0)] [(0, 1, (.c (.int .i64 5)))]),
ao 11 (.buildSlice 1 1 [(.int .u8 0)] [(0, 1, (.c (.int .u8 120)))]),
ao 12 (.mem .mark [(.t 11)]),
ao 13 (.build [(.list [] true), (.list [] true), (.list [] true), (.list [] true), (.list [] true), (.list [] true), (.list [] true), (.int .i64 0), (.int .i64 0), (.int .i64 0), (.int .i64 0), (.int .i64 0), (.int .i64 0), (.bool false), (.bool false)] [(0, 1, (.t 9)), (1, 1, (.t 10)), (6, 1, (.t 12)), (8, 1, (.c (.int .i64 9)))]),
ao 2 (.alloc [(.list [] true), (.list [] true), (.list [] true), (.list [] true), (.list [] true), (.list [] true), (.list [] true), (.int .i64 0), (.int .i64 0), (.int .i64 0), (.int .i64 0), (.int .i64 0), (.int .i64 0), (.bool false), (.bool false)]),
an (.store 15 (.t 2) (.t 13))])
(.seq (.reg [ao 14 (.fieldAddr 0 (.t 2)),
ao 15 (.load false 1 (.t 14)),
ao 16 (.indexSl 1 (.t 15) (.c (.int .i64 70))),
an (.store 1 (.t 16) (.c (.int .u8 1)))])
(.seq (.reg [ao 17 (.load true 15 (.t 2)),
mv 18 1,
ao 19 (.call 7 [(.t 17), (.t 18)]),
mv 3 19])
(.seq (.reg [mv 21 3,
mv 22 1,
ao 23 (.call 8 [(.t 21), (.t 22)]),
mv 20 23,
ao 24 (.extract 0 (.t 20)),
ao 25 (.extract 1 (.t 20)),
ao 4 (.alloc [(.list [] true), (.list [] true), (.list [] true), (.list [] true), (.list [] true), (.list [] true), (.list [] true), (.int .i64 0), (.int .i64 0), (.int .i64 0), (.int .i64 0), (.int .i64 0), (.int .i64 0), (.bool false), (.bool false)]),
an (.store 15 (.t 4) (.t 24)),
mv 5 25])
(.seq (.reg [mv 27 3,
mv 28 3,
ao 29 (.len (.t 28)),
ao 30 (.bin .quo .no (.t 29) (.c (.int .i64 2))),
ao 31 (.slice (.sl 1) (.t 27) none (some (.t 30)) none),
mv 32 1,
ao 33 (.call 8 [(.t 31), (.t 32)]),
mv 26 33,
ao 34 (.extract 0 (.t 26)),
ao 35 (.extract 1 (.t 26)),
ao 6 (.alloc [(.list [] true), (.list [] true), (.list [] true), (.list [] true), (.list [] true), (.list [] true), (.list [] true), (.int .i64 0), (.int .i64 0), (.int .i64 0), (.int .i64 0), (.int .i64 0), (.int .i64 0), (.bool false), (.bool false)]),
an (.store 15 (.t 6) (.t 34)),
mv 7 35])
(.seq (.reg [mv 36 5,
ao 37 (.bin .eql .no (.t 36) (.c (.int .i64 0))),
mv 38 37,
ag 39 (.load true 15 (.t 2)) 38 true,
ag 40 (.load true 15 (.t 4)) 38 true,
ag 41 (.call 9 [(.t 39), (.t 40)]) 38 true,
ao 42 (.pick (.t 38) (.t 41) (.c (.bool false))),
mv 43 42,
ag 44 (.mov (.t 7)) 43 true,
ag 45 (.bin .neq .no (.t 44) (.c (.int .i64 0))) 43 true,
ao 46 (.pick (.t 43) (.t 45) (.c (.bool false))),
mv 47 46,
ag 48 (.mov (.t 3)) 47 true,
ag 49 (.len (.t 48)) 47 true,
ag 50 (.bin .gtr .no (.t 49) (.c (.int .i64 10))) 47 true,
ao 51 (.pick (.t 47) (.t 50) (.c (.bool false))),
mv 52 51,
ag 53 (.mov (.t 3)) 52 true,
ag 54 (.indexSl 1 (.t 53) (.c (.int .i64 0))) 52 true,
ag 55 (.load false 1 (.t 54)) 52 true,
ag 56 (.bin .eql .no (.t 55) (.c (.int .u8 2))) 52 true,
ao 57 (.pick (.t 52) (.t 56) (.c (.bool false))),
mv 58 57,
ag 59 (.mov (.t 3)) 58 true,
ag 60 (.indexSl 1 (.t 59) (.c (.int .i64 1))) 58 true,
ag 61 (.load false 1 (.t 60)) 58 true,
ag 62 (.bin .eql .no (.t 61) (.c (.int .u8 2))) 58 true,
ao 63 (.pick (.t 58) (.t 62) (.c (.bool false))),
mv 0 63])
.ret)))))))) }
def w6 : WF := { nt := 15, results := [(4, none)], code :=
(.seq (.reg [ao 2 (.box (.t 0)),
ao 4 (.mov (.c (.bool false)))])
(.seq (.reg [ao 5 (.load true 15 (.t 2)),
ao 6 (.call 10 [(.t 5)]),
mv 7 6,
ag 8 (.fieldAddr 0 (.t 2)) 7 true,
ag 9 (.load false 1 (.t 8)) 7 true,
ag 10 (.len (.t 9)) 7 true,
ag 11 (.mov (.t 1)) 7 true,
ag 12 (.len (.t 11)) 7 true,
ag 13 (.bin .eql .no (.t 10) (.t 12)) 7 true,
ao 14 (.pick (.t 7) (.t 13) (.c (.bool false))),
mv 4 14])
.ret)) }
def ca70 : WC := (.seq (.reg [mv 7 14])
(.reg [mv 8 15]))
def cb70 : WC :=
(.block 1 (.seq (.reg [mv 16 7,
ao 17 (.bin .mul .no (.t 16) (.c (.int .i64 64))),
mv 9 17])
(.seq (.reg [mv 18 8,
ao 19 (.load false 1 (.t 3)),
mv 20 9,
mv 21 9,
mv 22 8,
ao 23 (.len (.t 22)),
ao 24 (.bin .add .no (.t 21) (.t 23)),
ao 25 (.slice (.sl 1) (.t 19) (some (.t 20)) (some (.t 24)) none),
ao 26 (.call 12 [(.t 18), (.t 25)]),
ao 27 (.un .not (.t 26))])
(.cond (.t 27)
(.seq (.calm [ao 28 (.load false 1 (.t 5)),
mv 29 7,
⟨(some 30), .call 14 [(.t 29)], none, [1], false⟩,
mv 31 8,
⟨(some 32), .call 16 [(.t 31)], none, [3, 2], false⟩,
⟨(some 33), .call 15 [(.t 32)], none, [4, 4], false⟩,
⟨(some 34), .pur (.lst 1 3 [(.list [] true)] [(0, 1), (1, 1), (2, 1)]) [(.t 28), (.t 30), (.t 33)], none, [0, 2, 5], false⟩,
⟨(some 35), .call 13 [(.t 34)], none, [6, 5], true⟩,
⟨none, .store 1 (.t 5) (.t 35), none, [7, 7, 0, 1, 2, 3, 4, 5, 6, 7], true⟩])
(.reg [ao 36 (.load false 1 (.t 6)),
ao 37 (.bin .add .no (.t 36) (.c (.int .i64 1))),
an (.store 1 (.t 6) (.t 37))]))
.skip))))
def bd70 : ABody := { keep := [3, 5, 6], ps := [14, 15], assign := toA ca70, body := toA cb70 }
def w7 : WF := { nt := 53, results := [(4, none)], code :=
(.seq (.reg [ao 2 (.box (.t 0)),
ao 3 (.box (.t 1)),
ao 4 (.mov (.c (.list [] true)))])
(.seq (.reg [ao 5 (.alloc [(.list [] true)])])
(.seq (.reg [ao 6 (.alloc [(.int .i64 0)]),
an (.store 1 (.t 6) (.c (.int .i64 0)))])
(.seq (.seq (.reg [ao 11 (.fieldAddr 0 (.t 2)),
ao 12 (.load false 1 (.t 11)),
ao 13 (.call 11 [(.t 12)])])
(.block 0 (.range 70 (.t 13) [14, 15] ca70 cb70)))
(.seq (.reg [ao 38 (.load true 15 (.t 2)),
ao 39 (.call 19 [(.t 38)]),
ao 40 (.build [(.list [] true), (.list [] true), (.list [] true), (.list [] true), (.list [] true), (.list [] true), (.list [] true), (.int .i64 0), (.int .i64 0), (.int .i64 0), (.int .i64 0), (.int .i64 0), (.int .i64 0), (.bool false), (.bool false)] []),
ao 41 (.call 18 [(.t 39), (.t 40)]),
ao 42 (.call 17 [(.t 41)]),
mv 10 42])
(.seq (.calm [ao 43 (.load false 1 (.t 6)),
⟨(some 44), .call 14 [(.t 43)], none, [0], false⟩,
ao 45 (.load false 1 (.t 5)),
ao 46 (.fieldAddr 6 (.t 2)),
⟨(some 47), .load false 1 (.t 46), none, [3], false⟩,
⟨(some 48), .call 15 [(.t 47)], none, [4, 1], false⟩,
mv 49 10,
⟨(some 50), .call 15 [(.t 49)], none, [6, 5], false⟩,
⟨(some 51), .pur (.lst 1 4 [(.list [] true)] [(0, 1), (1, 1), (2, 1), (3, 1)]) [(.t 44), (.t 45), (.t 48), (.t 50)], none, [1, 2, 5, 7], false⟩,
⟨(some 52), .call 13 [(.t 51)], none, [8, 7], true⟩,
⟨(some 4), .mov (.t 52), none, [9, 9, 0, 1, 2, 3, 4, 5, 6, 7, 8, 9], false⟩])
.ret)))))) }
def w8 : WF := { nt := 44, results := [(4, some (true, 15)), (5, some (false, 1))], code := .skip, dfr := some ([(.reg [ao 4 (.alloc [(.list [] true), (.list [] true), (.list [] true), (.list [] true), (.list [] true), (.list [] true), (.list [] true), (.int .i64 0), (.int .i64 0), (.int .i64 0), (.int .i64 0), (.int .i64 0), (.int .i64 0), (.bool false), (.bool false)]),
ao 5 (.alloc [(.int .i64 0)])])],
[ao 11 (.makeFunc (.func 20) [] [(.t 4), (.t 5)])],
(.t 11),
(.seq (.reg [mv 12 0,
ao 13 (.call 21 [(.t 12)]),
mv 6 13])
(.seq (.reg [mv 14 6,
mv 15 1,
ao 16 (.call 22 [(.t 14), (.t 15)]),
mv 7 16])
(.seq (.reg [mv 17 6,
ao 18 (.call 23 [(.t 17), (.c (.int .i64 65536))]),
mv 19 6,
ao 20 (.call 23 [(.t 19), (.c (.int .i64 65536))]),
mv 8 18,
mv 9 20])
(.seq (.reg [mv 21 6,
ao 22 (.call 25 [(.t 21)]),
ao 23 (.call 24 [(.t 22)])])
(.seq (.reg [mv 25 9,
ao 26 (.call 26 [(.t 25)]),
mv 24 26,
ao 27 (.extract 0 (.t 24)),
ao 28 (.extract 1 (.t 24)),
ao 10 (.alloc [(.list [] true), (.int .i64 0), (.list [] true), (.int .i64 0), (.list [] true), (.int .i64 0), (.list [] true), (.int .i64 0), (.list [] true), (.int .i64 0), (.list [] true), (.int .i64 0), (.int .i64 0), (.int .i64 0), (.int .i64 0), (.int .i64 0), (.int .i64 0), (.int .i64 0), (.bool false), (.bool false)]),
an (.store 20 (.t 10) (.t 27)),
an (.store 1 (.t 5) (.t 28))])
(.seq (.reg [ao 29 (.load false 1 (.t 5)),
ao 30 (.call 24 [(.t 29)])])
(.seq (.reg [ao 31 (.load true 20 (.t 10)),
ao 32 (.call 27 [(.t 31)])])
(.seq (.reg [ao 34 (.build [(.list [] true), (.list [] true), (.list [] true), (.list [] true), (.list [] true), (.list [] true), (.list [] true), (.int .i64 0), (.int .i64 0), (.int .i64 0), (.int .i64 0), (.int .i64 0), (.int .i64 0), (.bool false), (.bool false)] []),
ao 35 (.load true 20 (.t 10)),
ao 36 (.call 28 [(.t 34), (.t 35)]),
mv 33 36,
ao 37 (.extract 0 (.t 33)),
ao 38 (.extract 1 (.t 33)),
an (.store 15 (.t 4) (.t 37))])
(.seq (.reg [mv 39 7,
mv 40 8,
ao 41 (.fieldAddr 0 (.t 4)),
an (.store 1 (.t 41) (.t 39)),
ao 42 (.fieldAddr 6 (.t 4)),
an (.store 1 (.t 42) (.t 40))])
(.seq (.reg [ao 43 (.load true 15 (.t 4)),
an (.store 15 (.t 4) (.t 43)),
an (.store 1 (.t 5) (.c (.int .i64 0)))])
.ret))))))))))) }
def w9 : WF := { nt := 116, results := [(4, none)], code :=
(.seq (.reg [ao 2 (.box (.t 0)),
ao 3 (.box (.t 1)),
ao 4 (.mov (.c (.bool false)))])
(.seq (.reg [ao 7 (.fieldAddr 7 (.t 2)),
ao 8 (.load false 1 (.t 7)),
ao 9 (.fieldAddr 7 (.t 3)),
ao 10 (.load false 1 (.t 9)),
ao 11 (.bin .eql .no (.t 8) (.t 10)),
mv 12 11,
ag 13 (.fieldAddr 8 (.t 2)) 12 true,
ag 14 (.load false 1 (.t 13)) 12 true,
ag 15 (.fieldAddr 8 (.t 3)) 12 true,
ag 16 (.load false 1 (.t 15)) 12 true,
ag 17 (.bin .eql .no (.t 14) (.t 16)) 12 true,
ao 18 (.pick (.t 12) (.t 17) (.c (.bool false))),
mv 19 18,
ag 20 (.fieldAddr 9 (.t 2)) 19 true,
ag 21 (.load false 1 (.t 20)) 19 true,
ag 22 (.fieldAddr 9 (.t 3)) 19 true,
ag 23 (.load false 1 (.t 22)) 19 true,
ag 24 (.bin .eql .no (.t 21) (.t 23)) 19 true,
ao 25 (.pick (.t 19) (.t 24) (.c (.bool false))),
mv 26 25,
ag 27 (.fieldAddr 10 (.t 2)) 26 true,
ag 28 (.load false 1 (.t 27)) 26 true,
ag 29 (.fieldAddr 10 (.t 3)) 26 true,
ag 30 (.load false 1 (.t 29)) 26 true,
ag 31 (.bin .eql .no (.t 28) (.t 30)) 26 true,
ao 32 (.pick (.t 26) (.t 31) (.c (.bool false))),
mv 33 32,
ag 34 (.fieldAddr 11 (.t 2)) 33 true,
ag 35 (.load false 1 (.t 34)) 33 true,
ag 36 (.fieldAddr 11 (.t 3)) 33 true,
ag 37 (.load false 1 (.t 36)) 33 true,
ag 38 (.bin .eql .no (.t 35) (.t 37)) 33 true,
ao 39 (.pick (.t 33) (.t 38) (.c (.bool false))),
mv 40 39,
ag 41 (.fieldAddr 12 (.t 2)) 40 true,
ag 42 (.load false 1 (.t 41)) 40 true,
ag 43 (.fieldAddr 12 (.t 3)) 40 true,
ag 44 (.load false 1 (.t 43)) 40 true,
ag 45 (.bin .eql .no (.t 42) (.t 44)) 40 true,
ao 46 (.pick (.t 40) (.t 45) (.c (.bool false))),
mv 47 46,
ag 48 (.fieldAddr 13 (.t 2)) 47 true,
ag 49 (.load false 1 (.t 48)) 47 true,
ag 50 (.fieldAddr 13 (.t 3)) 47 true,
ag 51 (.load false 1 (.t 50)) 47 true,
ag 52 (.bin .eql .bool (.t 49) (.t 51)) 47 true,
ao 53 (.pick (.t 47) (.t 52) (.c (.bool false))),
mv 54 53,
ag 55 (.fieldAddr 14 (.t 2)) 54 true,
ag 56 (.load false 1 (.t 55)) 54 true,
ag 57 (.fieldAddr 14 (.t 3)) 54 true,
ag 58 (.load false 1 (.t 57)) 54 true,
ag 59 (.bin .eql .bool (.t 56) (.t 58)) 54 true,
ao 60 (.pick (.t 54) (.t 59) (.c (.bool false))),
mv 5 60])
(.seq (.reg [ao 61 (.fieldAddr 1 (.t 2)),
ao 62 (.load false 1 (.t 61)),
ao 63 (.fieldAddr 1 (.t 3)),
ao 64 (.load false 1 (.t 63)),
ao 65 (.call 29 [(.t 62), (.t 64)]),
mv 66 65,
ag 67 (.fieldAddr 2 (.t 2)) 66 true,
ag 68 (.load false 1 (.t 67)) 66 true,
ag 69 (.fieldAddr 2 (.t 3)) 66 true,
ag 70 (.load false 1 (.t 69)) 66 true,
ag 71 (.call 30 [(.t 68), (.t 70)]) 66 true,
ao 72 (.pick (.t 66) (.t 71) (.c (.bool false))),
mv 73 72,
ag 74 (.fieldAddr 3 (.t 2)) 73 true,
ag 75 (.load false 1 (.t 74)) 73 true,
ag 76 (.fieldAddr 3 (.t 3)) 73 true,
ag 77 (.load false 1 (.t 76)) 73 true,
ag 78 (.call 29 [(.t 75), (.t 77)]) 73 true,
ao 79 (.pick (.t 73) (.t 78) (.c (.bool false))),
mv 80 79,
ag 81 (.fieldAddr 4 (.t 2)) 80 true,
ag 82 (.load false 1 (.t 81)) 80 true,
ag 83 (.fieldAddr 4 (.t 3)) 80 true,
ag 84 (.load false 1 (.t 83)) 80 true,
ag 85 (.call 31 [(.t 82), (.t 84)]) 80 true,
ao 86 (.pick (.t 80) (.t 85) (.c (.bool false))),
mv 87 86,
ag 88 (.fieldAddr 5 (.t 2)) 87 true,
ag 89 (.load false 1 (.t 88)) 87 true,
ag 90 (.fieldAddr 5 (.t 3)) 87 true,
ag 91 (.load false 1 (.t 90)) 87 true,
ag 92 (.call 32 [(.t 89), (.t 91)]) 87 true,
ao 93 (.pick (.t 87) (.t 92) (.c (.bool false))),
mv 6 93])
(.seq (.reg [mv 94 5,
mv 95 94,
ag 96 (.mov (.t 6)) 95 true,
ao 97 (.pick (.t 95) (.t 96) (.c (.bool false))),
mv 98 97,
ag 99 (.fieldAddr 0 (.t 2)) 98 true,
ag 100 (.load false 1 (.t 99)) 98 true,
ag 101 (.conv .b2s (.t 100)) 98 true,
ag 102 (.fieldAddr 0 (.t 3)) 98 true,
ag 103 (.load false 1 (.t 102)) 98 true,
ag 104 (.conv .b2s (.t 103)) 98 true,
ag 105 (.bin .eql .no (.t 101) (.t 104)) 98 true,
ao 106 (.pick (.t 98) (.t 105) (.c (.bool false))),
mv 107 106,
ag 108 (.fieldAddr 6 (.t 2)) 107 true,
ag 109 (.load false 1 (.t 108)) 107 true,
ag 110 (.conv .b2s (.t 109)) 107 true,
ag 111 (.fieldAddr 6 (.t 3)) 107 true,
ag 112 (.load false 1 (.t 111)) 107 true,
ag 113 (.conv .b2s (.t 112)) 107 true,
ag 114 (.bin .eql .no (.t 110) (.t 113)) 107 true,
ao 115 (.pick (.t 107) (.t 114) (.c (.bool false))),
mv 4 115])
.ret)))) }
def w10 : WF := { nt := 63, results := [(2, none)], code :=
(.seq (.reg [ao 1 (.box (.t 0)),
ao 2 (.mov (.c (.bool false)))])
(.seq (.seq (.reg [ao 3 (.mov (.c (.int .i64 0)))])
(.block 0 (.loop (.seq (.seq (.reg [mv 4 3,
ao 5 (.fieldAddr 4 (.t 1)),
ao 6 (.load false 1 (.t 5)),
ao 7 (.len (.t 6)),
ao 8 (.bin .lss .no (.t 4) (.t 7)),
mv 9 8,
ag 10 (.mov (.t 3)) 9 true,
ag 11 (.bin .lss .no (.t 10) (.c (.int .i64 41))) 9 true,
ao 12 (.pick (.t 9) (.t 11) (.c (.bool false)))])
(.cond (.t 12)
.skip
(.exit 0)))
(.seq (.block 1 (.seq (.reg [ao 15 (.fieldAddr 4 (.t 1)),
ao 16 (.load false 1 (.t 15)),
mv 17 3,
ao 18 (.indexSl 4 (.t 16) (.t 17)),
ao 19 (.fieldAddr 0 (.t 18)),
ao 20 (.load false 1 (.t 19)),
ao 21 (.lenS (.t 20)),
ao 22 (.bin .gtr .no (.t 21) (.c (.int .i64 60)))])
(.cond (.t 22)
(.seq (.reg [ao 2 (.mov (.c (.bool false)))])
.ret)
.skip)))
(.reg [mv 13 3,
ao 14 (.bin .add .no (.t 13) (.c (.int .i64 1))),
mv 3 14]))))))
(.seq (.reg [ao 23 (.fieldAddr 0 (.t 1)),
ao 24 (.load false 1 (.t 23)),
ao 25 (.len (.t 24)),
ao 26 (.bin .leq .no (.t 25) (.c (.int .i64 600))),
mv 27 26,
ag 28 (.fieldAddr 1 (.t 1)) 27 true,
ag 29 (.load false 1 (.t 28)) 27 true,
ag 30 (.len (.t 29)) 27 true,
ag 31 (.bin .leq .no (.t 30) (.c (.int .i64 40))) 27 true,
ao 32 (.pick (.t 27) (.t 31) (.c (.bool false))),
mv 33 32,
ag 34 (.fieldAddr 2 (.t 1)) 33 true,
ag 35 (.load false 1 (.t 34)) 33 true,
ag 36 (.len (.t 35)) 33 true,
ag 37 (.bin .leq .no (.t 36) (.c (.int .i64 40))) 33 true,
ao 38 (.pick (.t 33) (.t 37) (.c (.bool false))),
mv 39 38,
ag 40 (.fieldAddr 3 (.t 1)) 39 true,
ag 41 (.load false 1 (.t 40)) 39 true,
ag 42 (.len (.t 41)) 39 true,
ag 43 (.bin .leq .no (.t 42) (.c (.int .i64 200))) 39 true,
ao 44 (.pick (.t 39) (.t 43) (.c (.bool false))),
mv 45 44,
ag 46 (.fieldAddr 4 (.t 1)) 45 true,
ag 47 (.load false 1 (.t 46)) 45 true,
ag 48 (.len (.t 47)) 45 true,
ag 49 (.bin .leq .no (.t 48) (.c (.int .i64 40))) 45 true,
ao 50 (.pick (.t 45) (.t 49) (.c (.bool false))),
mv 51 50,
ag 52 (.fieldAddr 5 (.t 1)) 51 true,
ag 53 (.load false 1 (.t 52)) 51 true,
ag 54 (.len (.t 53)) 51 true,
ag 55 (.bin .leq .no (.t 54) (.c (.int .i64 100))) 51 true,
ao 56 (.pick (.t 51) (.t 55) (.c (.bool false))),
mv 57 56,
ag 58 (.fieldAddr 6 (.t 1)) 57 true,
ag 59 (.load false 1 (.t 58)) 57 true,
ag 60 (.len (.t 59)) 57 true,
ag 61 (.bin .leq .no (.t 60) (.c (.int .i64 200))) 57 true,
ao 62 (.pick (.t 57) (.t 61) (.c (.bool false))),
mv 2 62])
.ret))) }
def w11 : WF := { nt := 4, results := [(2, none)], code :=
(.seq (.reg [ao 1 (.box (.t 0)),
ao 2 (.mov (.c .nilfn))])
(.seq (.reg [ao 3 (.makeFunc (.func 33) [] [(.t 1)]),
mv 2 3])
.ret)) }
def w12 : WF := { nt := 10, results := [(4, none)], code :=
(.seq (.reg [ao 4 (.mov (.c (.bool false)))])
(.seq (.reg [mv 5 0,
ao 6 (.conv .b2s (.t 5)),
mv 7 1,
ao 8 (.conv .b2s (.t 7)),
ao 9 (.bin .eql .no (.t 6) (.t 8)),
mv 4 9])
.ret)) }
def w13 : WF := { nt := 36, results := [(2, none)], code :=
(.seq (.reg [ao 2 (.mov (.c (.list [] true)))])
(.seq (.reg [ao 3 (.mov (.c (.int .i64 0)))])
(.seq (.seq (.reg [mv 9 0,
ao 10 (.len (.t 9)),
ao 11 (.mov (.c (.int .i64 0)))])
(.block 0 (.loop (.seq (.reg [ao 12 (.bin .lss .no (.t 11) (.t 10))])
(.seq (.cond (.t 12)
.skip
(.exit 0))
(.seq (.block 1 (.seq (.reg [ao 13 (.indexSl 1 (.t 9) (.t 11)),
ao 14 (.load false 1 (.t 13)),
mv 5 14])
(.seq (.reg [mv 15 3,
mv 16 5,
ao 17 (.len (.t 16)),
ao 18 (.bin .add .no (.t 15) (.t 17)),
mv 3 18])
(.seq (.reg [mv 19 3,
ao 20 (.bin .lss .no (.t 19) (.c (.int .i64 0)))])
(.cond (.t 20)
(.reg [ao 21 (.makeIface 9 (.c (.str ⟨#[108, 101, 110, 32, 111, 117, 116, 32, 111, 102, 32, 114, 97, 110, 103, 101]⟩))),
an (.panic (.t 21))])
.skip)))))
(.reg [ao 22 (.bin .add .no (.t 11) (.c (.int .i64 1))),
mv 11 22])))))))
(.seq (.reg [mv 23 3,
ao 24 (.call 34 [(.c (.list [] true)), (.t 23)]),
mv 6 24])
(.seq (.seq (.reg [mv 25 0,
ao 26 (.len (.t 25)),
ao 27 (.mov (.c (.int .i64 0)))])
(.block 2 (.loop (.seq (.reg [ao 28 (.bin .lss .no (.t 27) (.t 26))])
(.seq (.cond (.t 28)
.skip
(.exit 2))
(.seq (.block 3 (.seq (.reg [ao 29 (.indexSl 1 (.t 25) (.t 27)),
ao 30 (.load false 1 (.t 29)),
mv 8 30])
(.reg [mv 31 6,
mv 32 8,
ao 33 (.append 1 1 none (.t 31) (.t 32)),
mv 6 33])))
(.reg [ao 34 (.bin .add .no (.t 27) (.c (.int .i64 1))),
mv 27 34])))))))
(.seq (.reg [mv 35 6,
mv 2 35])
.ret)))))) }
def w14 : WF := { nt := 35, results := [(2, none)], code :=
(.seq (.reg [ao 2 (.mov (.c (.list [] true)))])
(.seq (.reg [mv 6 0,
ao 7 (.conv (.int .u64) (.t 6)),
ao 8 (.bin .shl .no (.t 7) (.c (.int .u64 1))),
mv 9 0,
ao 10 (.bin .shr .no (.t 9) (.c (.int .u64 63))),
ao 11 (.conv (.int .u64) (.t 10)),
ao 12 (.bin .xor .no (.t 8) (.t 11)),
mv 3 12])
(.seq (.reg [ao 4 (.alloc [(.int .u8 0), (.int .u8 0), (.int .u8 0), (.int .u8 0), (.int .u8 0), (.int .u8 0), (.int .u8 0), (.int .u8 0), (.int .u8 0), (.int .u8 0)])])
(.seq (.reg [ao 5 (.mov (.c (.int .i64 9)))])
(.seq (.reg [mv 13 5,
mv 14 3,
ao 15 (.bin .rem .no (.t 14) (.c (.int .u64 128))),
ao 16 (.conv (.int .u8) (.t 15)),
ao 17 (.indexPA 10 1 (.t 4) (.t 13)),
an (.store 1 (.t 17) (.t 16))])
(.seq (.seq (.reg [mv 18 3,
ao 19 (.bin .quo .no (.t 18) (.c (.int .u64 128))),
mv 3 19])
(.block 0 (.loop (.seq (.seq (.reg [mv 20 3,
ao 21 (.bin .gtr .no (.t 20) (.c (.int .u64 0)))])
(.cond (.t 21)
.skip
(.exit 0)))
(.seq (.block 1 (.seq (.reg [mv 24 5,
ao 25 (.bin .sub .no (.t 24) (.c (.int .i64 1))),
mv 5 25])
(.reg [mv 26 5,
mv 27 3,
ao 28 (.bin .rem .no (.t 27) (.c (.int .u64 128))),
ao 29 (.conv (.int .u8) (.t 28)),
ao 30 (.bin .or .no (.t 29) (.c (.int .u8 128))),
ao 31 (.indexPA 10 1 (.t 4) (.t 26)),
an (.store 1 (.t 31) (.t 30))])))
(.reg [mv 22 3,
ao 23 (.bin .quo .no (.t 22) (.c (.int .u64 128))),
mv 3 23]))))))
(.seq (.reg [mv 32 5,
ao 33 (.slice (.arr 10 1) (.t 4) (some (.t 32)) none none),
ao 34 (.call 35 [(.t 33)]),
mv 2 34])
.ret))))))) }
def w15 : WF := { nt := 9, results := [(2, none)], code :=
(.seq (.reg [ao 2 (.mov (.c (.list [] true)))])
(.seq (.reg [mv 3 0,
ao 4 (.len (.t 3)),
ao 5 (.call 14 [(.t 4)]),
mv 6 0,
ao 7 (.buildSlice 1 2 [(.list [] true)] [(0, 1, (.t 5)), (1, 1, (.t 6))]),
ao 8 (.call 13 [(.t 7)]),
mv 2 8])
.ret)) }
def ca160 : WC := (.seq (.reg [mv 4 8])
(.reg [mv 5 9]))
def cb160 : WC :=
(.block 1 (.calm [ao 10 (.load false 1 (.t 3)),
mv 11 4,
⟨(some 12), .call 14 [(.t 11)], none, [1], false⟩,
⟨(some 13), .append 1 1 none (.t 10) (.t 12), none, [0, 2, 2], true⟩,
mv 14 5,
⟨(some 15), .pur (.lst 1 1 [(.int .u8 0)] [(0, 1)]) [(.t 14)], none, [4], false⟩,
⟨(some 16), .append 1 1 none (.t 13) (.t 15), none, [3, 5, 3], true⟩,
⟨none, .store 1 (.t 3) (.t 16), none, [6, 6, 0, 1, 2, 3, 4, 5, 6], true⟩]))
def bd160 : ABody := { keep := [3], ps := [8, 9], assign := toA ca160, body := toA cb160 }
def w16 : WF := { nt := 18, results := [(2, none)], code :=
(.seq (.reg [ao 2 (.mov (.c (.list [] true)))])
(.seq (.reg [ao 3 (.alloc [(.list [] true)])])
(.seq (.seq (.reg [mv 6 0,
ao 7 (.call 36 [(.t 6)])])
(.block 0 (.range 160 (.t 7) [8, 9] ca160 cb160)))
(.seq (.reg [ao 17 (.load false 1 (.t 3)),
mv 2 17])
.ret)))) }
def w17 : WF := { nt := 84, results := [(2, none)], code :=
(.seq (.reg [ao 1 (.box (.t 0)),
ao 2 (.mov (.c (.list [] true)))])
(.seq (.reg [ao 7 (.fieldAddr 0 (.t 1)),
ao 8 (.load false 1 (.t 7)),
ao 9 (.len (.t 8)),
ao 10 (.call 14 [(.t 9)]),
mv 3 10])
(.seq (.seq (.reg [ao 11 (.fieldAddr 0 (.t 1)),
ao 12 (.load false 1 (.t 11)),
ao 13 (.len (.t 12)),
ao 14 (.mov (.c (.int .i64 0)))])
(.block 0 (.loop (.seq (.reg [ao 15 (.bin .lss .no (.t 14) (.t 13))])
(.seq (.cond (.t 15)
.skip
(.exit 0))
(.seq (.block 1 (.seq (.reg [ao 16 (.indexSl 2 (.t 12) (.t 14)),
ao 17 (.load true 2 (.t 16)),
ao 5 (.alloc [(.int .i64 0), (.list [] true)]),
an (.store 2 (.t 5) (.t 17))])
(.calm [mv 18 3,
ao 19 (.fieldAddr 0 (.t 5)),
⟨(some 20), .load false 1 (.t 19), none, [1], false⟩,
⟨(some 21), .call 14 [(.t 20)], none, [2], false⟩,
ao 22 (.fieldAddr 1 (.t 5)),
⟨(some 23), .load false 1 (.t 22), none, [4], false⟩,
⟨(some 24), .call 15 [(.t 23)], none, [5, 3], false⟩,
⟨(some 25), .pur (.lst 1 3 [(.list [] true)] [(0, 1), (1, 1), (2, 1)]) [(.t 18), (.t 21), (.t 24)], none, [0, 3, 6], false⟩,
⟨(some 26), .call 13 [(.t 25)], none, [7, 6], true⟩,
⟨(some 3), .mov (.t 26), none, [8, 8, 0, 1, 2, 3, 4, 5, 6, 7, 8], false⟩])))
(.fix (some 3) (.reg [ao 27 (.bin .add .no (.t 14) (.c (.int .i64 1))),
mv 14 27]))))))))
(.seq (.reg [ao 6 (.mov (.c (.fn (.func 37) [] [])))])
(.seq (.draw [mv 28 3,
ao 29 (.fieldAddr 1 (.t 1)),
⟨(some 30), .fieldAddr 0 (.t 29), none, [1], false⟩,
⟨(some 31), .load false 1 (.t 30), none, [2], false⟩,
ao 32 (.fieldAddr 1 (.t 1)),
⟨(some 33), .fieldAddr 1 (.t 32), none, [4], false⟩,
⟨(some 34), .load false 1 (.t 33), none, [5], false⟩,
mv 35 6,
⟨(some 36), .call 38 [(.t 31), (.t 34), (.t 35)], none, [3, 6, 7], true⟩,
ao 37 (.fieldAddr 3 (.t 1)),
⟨(some 38), .fieldAddr 0 (.t 37), none, [9], false⟩,
⟨(some 39), .load false 1 (.t 38), none, [10], false⟩,
ao 40 (.fieldAddr 3 (.t 1)),
⟨(some 41), .fieldAddr 1 (.t 40), none, [12], false⟩,
⟨(some 42), .load false 1 (.t 41), none, [13], false⟩,
⟨(some 43), .call 39 [(.t 39), (.t 42), (.c (.fn (.func 40) [] []))], none, [11, 14, 8], true⟩,
ao 44 (.fieldAddr 5 (.t 1)),
⟨(some 45), .fieldAddr 0 (.t 44), none, [16], false⟩,
⟨(some 46), .load false 1 (.t 45), none, [17], false⟩,
ao 47 (.fieldAddr 5 (.t 1)),
⟨(some 48), .fieldAddr 1 (.t 47), none, [19], false⟩,
⟨(some 49), .load false 1 (.t 48), none, [20], false⟩,
mv 50 6,
⟨(some 51), .call 38 [(.t 46), (.t 49), (.t 50)], none, [18, 21, 22, 15], true⟩,
ao 52 (.fieldAddr 7 (.t 1)),
⟨(some 53), .fieldAddr 0 (.t 52), none, [24], false⟩,
⟨(some 54), .load false 1 (.t 53), none, [25], false⟩,
ao 55 (.fieldAddr 7 (.t 1)),
⟨(some 56), .fieldAddr 1 (.t 55), none, [27], false⟩,
⟨(some 57), .load false 1 (.t 56), none, [28], false⟩,
⟨(some 58), .call 43 [(.t 54), (.t 57), (.c (.fn (.func 44) [] []))], none, [26, 29, 23], true⟩,
ao 59 (.fieldAddr 9 (.t 1)),
⟨(some 60), .fieldAddr 0 (.t 59), none, [31], false⟩,
⟨(some 61), .load false 1 (.t 60), none, [32], false⟩,
ao 62 (.fieldAddr 9 (.t 1)),
⟨(some 63), .fieldAddr 1 (.t 62), none, [34], false⟩,
⟨(some 64), .load false 1 (.t 63), none, [35], false⟩,
⟨(some 65), .call 45 [(.t 61), (.t 64), (.c (.fn (.func 46) [] []))], none, [33, 36, 30], true⟩,
ao 66 (.fieldAddr 11 (.t 1)),
⟨(some 67), .load false 1 (.t 66), none, [38], false⟩,
⟨(some 68), .pur (.lst 1 1 [(.int .i64 0)] [(0, 1)]) [(.t 67)], none, [39], false⟩,
⟨(some 69), .call 41 [(.t 68)], none, [40, 37], false⟩,
ao 70 (.fieldAddr 12 (.t 1)),
⟨(some 71), .slice (.arr 6 1) (.t 70) none none none, none, [42], false⟩,
⟨(some 72), .call 41 [(.t 71)], none, [43, 41], true⟩,
ao 73 (.fieldAddr 18 (.t 1)),
⟨(some 74), .load false 1 (.t 73), none, [45], false⟩,
⟨(some 75), .call 42 [(.t 74), (.c (.int .i64 1))], none, [46, 44], false⟩,
ao 76 (.fieldAddr 19 (.t 1)),
⟨(some 77), .load false 1 (.t 76), none, [48], false⟩,
⟨(some 78), .call 42 [(.t 77), (.c (.int .i64 2))], none, [49, 47], false⟩,
⟨(some 79), .bin .add .no (.t 75) (.t 78), none, [47, 50], false⟩,
⟨(some 80), .pur (.lst 1 1 [(.int .i64 0)] [(0, 1)]) [(.t 79)], none, [51], false⟩,
⟨(some 81), .call 41 [(.t 80)], none, [52, 50], false⟩,
⟨(some 82), .pur (.lst 1 9 [(.list [] true)] [(0, 1), (1, 1), (2, 1), (3, 1), (4, 1), (5, 1), (6, 1), (7, 1), (8, 1)]) [(.t 28), (.t 36), (.t 43), (.t 51), (.t 58), (.t 65), (.t 69), (.t 72), (.t 81)], none, [0, 8, 15, 23, 30, 37, 41, 44, 53], false⟩,
⟨(some 83), .call 13 [(.t 82)], none, [54, 53], true⟩,
⟨(some 2), .mov (.t 83), none, [55, 55, 0, 1, 2, 3, 4, 5, 6, 7, 8, 9, 10, 11, 12, 13, 14, 15, 16, 17, 18, 19, 20, 21, 22, 23, 24, 25, 26, 27, 28, 29, 30, 31, 32, 33, 34, 35, 36, 37, 38, 39, 40, 41, 42, 43, 44, 45, 46, 47, 48, 49, 50, 51, 52, 53, 54, 55], false⟩])
.ret))))) }
def ca180 : WC := (.reg [ao 6 (.alloc [(.int .i64 0), (.list [] true)]),
an (.store 2 (.t 6) (.t 38))])
def cb180 : WC :=
(.block 1 (.reg [ao 39 (.fieldAddr 0 (.t 5)),
ao 40 (.load false 1 (.t 39)),
ao 41 (.load true 2 (.t 6)),
ao 42 (.buildSlice 2 1 [(.int .i64 0), (.list [] true)] [(0, 2, (.t 41))]),
ao 43 (.append 2 32 none (.t 40) (.t 42)),
ao 44 (.fieldAddr 0 (.t 5)),
an (.store 1 (.t 44) (.t 43))]))
def bd180 : ABody := { keep := [5], ps := [38], assign := toA ca180, body := toA cb180 }
def w18 : WF := { nt := 106, results := [(4, some (true, 20))], code :=
(.seq (.reg [ao 2 (.box (.t 0)),
ao 3 (.box (.t 1)),
ao 4 (.alloc [(.list [] true), (.int .i64 0), (.list [] true), (.int .i64 0), (.list [] true), (.int .i64 0), (.list [] true), (.int .i64 0), (.list [] true), (.int .i64 0), (.list [] true), (.int .i64 0), (.int .i64 0), (.int .i64 0), (.int .i64 0), (.int .i64 0), (.int .i64 0), (.int .i64 0), (.bool false), (.bool false)])])
(.seq (.reg [ao 8 (.fieldAddr 6 (.t 3)),
ao 9 (.load false 1 (.t 8)),
ao 10 (.len (.t 9)),
ao 11 (.fieldAddr 6 (.t 2)),
ao 12 (.load false 1 (.t 11)),
ao 13 (.len (.t 12)),
ao 14 (.bin .sub .no (.t 10) (.t 13)),
ao 15 (.fieldAddr 7 (.t 2)),
ao 16 (.load false 1 (.t 15)),
ao 17 (.fieldAddr 8 (.t 2)),
ao 18 (.load false 1 (.t 17)),
ao 19 (.fieldAddr 9 (.t 2)),
ao 20 (.load false 1 (.t 19)),
ao 21 (.fieldAddr 10 (.t 2)),
ao 22 (.load false 1 (.t 21)),
ao 23 (.fieldAddr 11 (.t 2)),
ao 24 (.load false 1 (.t 23)),
ao 25 (.fieldAddr 12 (.t 2)),
ao 26 (.load false 1 (.t 25)),
ao 27 (.build [(.int .i64 0), (.int .i64 0), (.int .i64 0), (.int .i64 0), (.int .i64 0), (.int .i64 0)] [(0, 1, (.t 16)), (1, 1, (.t 18)), (2, 1, (.t 20)), (3, 1, (.t 22)), (4, 1, (.t 24)), (5, 1, (.t 26))]),
ao 28 (.fieldAddr 13 (.t 2)),
ao 29 (.load false 1 (.t 28)),
ao 30 (.fieldAddr 14 (.t 2)),
ao 31 (.load false 1 (.t 30)),
ao 32 (.build [(.list [] true), (.int .i64 0), (.list [] true), (.int .i64 0), (.list [] true), (.int .i64 0), (.list [] true), (.int .i64 0), (.list [] true), (.int .i64 0), (.list [] true), (.int .i64 0), (.int .i64 0), (.int .i64 0), (.int .i64 0), (.int .i64 0), (.int .i64 0), (.int .i64 0), (.bool false), (.bool false)] [(11, 1, (.t 14)), (12, 6, (.t 27)), (18, 1, (.t 29)), (19, 1, (.t 31))]),
ao 5 (.alloc [(.list [] true), (.int .i64 0), (.list [] true), (.int .i64 0), (.list [] true), (.int .i64 0), (.list [] true), (.int .i64 0), (.list [] true), (.int .i64 0), (.list [] true), (.int .i64 0), (.int .i64 0), (.int .i64 0), (.int .i64 0), (.int .i64 0), (.int .i64 0), (.int .i64 0), (.bool false), (.bool false)]),
an (.store 20 (.t 5) (.t 32))])
(.seq (.seq (.reg [ao 33 (.fieldAddr 0 (.t 2)),
ao 34 (.load false 1 (.t 33)),
ao 35 (.fieldAddr 0 (.t 3)),
ao 36 (.load false 1 (.t 35)),
ao 37 (.call 47 [(.t 34), (.t 36)])])
(.block 0 (.range 180 (.t 37) [38] ca180 cb180)))
(.seq (.reg [ao 45 (.fieldAddr 1 (.t 2)),
ao 46 (.load false 1 (.t 45)),
ao 47 (.fieldAddr 1 (.t 3)),
ao 48 (.load false 1 (.t 47)),
ao 49 (.call 48 [(.t 46), (.t 48)]),
mv 7 49])
(.seq (.reg [mv 50 7,
ao 51 (.fieldAddr 1 (.t 2)),
ao 52 (.load false 1 (.t 51)),
mv 53 7,
ao 54 (.slice (.sl 1) (.t 52) (some (.t 53)) none none),
ao 55 (.build [(.int .i64 0), (.list [] true)] [(0, 1, (.t 50)), (1, 1, (.t 54))]),
ao 56 (.fieldAddr 1 (.t 5)),
an (.store 2 (.t 56) (.t 55))])
(.seq (.reg [ao 57 (.fieldAddr 2 (.t 2)),
ao 58 (.load false 1 (.t 57)),
ao 59 (.fieldAddr 2 (.t 3)),
ao 60 (.load false 1 (.t 59)),
ao 61 (.call 49 [(.t 58), (.t 60)]),
mv 7 61])
(.seq (.reg [mv 62 7,
ao 63 (.fieldAddr 2 (.t 2)),
ao 64 (.load false 1 (.t 63)),
mv 65 7,
ao 66 (.slice (.sl 2) (.t 64) (some (.t 65)) none none),
ao 67 (.build [(.int .i64 0), (.list [] true)] [(0, 1, (.t 62)), (1, 1, (.t 66))]),
ao 68 (.fieldAddr 3 (.t 5)),
an (.store 2 (.t 68) (.t 67))])
(.seq (.reg [ao 69 (.fieldAddr 3 (.t 2)),
ao 70 (.load false 1 (.t 69)),
ao 71 (.fieldAddr 3 (.t 3)),
ao 72 (.load false 1 (.t 71)),
ao 73 (.call 48 [(.t 70), (.t 72)]),
mv 7 73])
(.seq (.reg [mv 74 7,
ao 75 (.fieldAddr 3 (.t 2)),
ao 76 (.load false 1 (.t 75)),
mv 77 7,
ao 78 (.slice (.sl 1) (.t 76) (some (.t 77)) none none),
ao 79 (.build [(.int .i64 0), (.list [] true)] [(0, 1, (.t 74)), (1, 1, (.t 78))]),
ao 80 (.fieldAddr 5 (.t 5)),
an (.store 2 (.t 80) (.t 79))])
(.seq (.reg [ao 81 (.fieldAddr 4 (.t 2)),
ao 82 (.load false 1 (.t 81)),
ao 83 (.fieldAddr 4 (.t 3)),
ao 84 (.load false 1 (.t 83)),
ao 85 (.call 50 [(.t 82), (.t 84)]),
mv 7 85])
(.seq (.reg [mv 86 7,
ao 87 (.fieldAddr 4 (.t 2)),
ao 88 (.load false 1 (.t 87)),
mv 89 7,
ao 90 (.slice (.sl 4) (.t 88) (some (.t 89)) none none),
ao 91 (.build [(.int .i64 0), (.list [] true)] [(0, 1, (.t 86)), (1, 1, (.t 90))]),
ao 92 (.fieldAddr 7 (.t 5)),
an (.store 2 (.t 92) (.t 91))])
(.seq (.reg [ao 93 (.fieldAddr 5 (.t 2)),
ao 94 (.load false 1 (.t 93)),
ao 95 (.fieldAddr 5 (.t 3)),
ao 96 (.load false 1 (.t 95)),
ao 97 (.call 51 [(.t 94), (.t 96)]),
mv 7 97])
(.seq (.reg [mv 98 7,
ao 99 (.fieldAddr 5 (.t 2)),
ao 100 (.load false 1 (.t 99)),
mv 101 7,
ao 102 (.slice (.sl 2) (.t 100) (some (.t 101)) none none),
ao 103 (.build [(.int .i64 0), (.list [] true)] [(0, 1, (.t 98)), (1, 1, (.t 102))]),
ao 104 (.fieldAddr 9 (.t 5)),
an (.store 2 (.t 104) (.t 103))])
(.seq (.reg [ao 105 (.load true 20 (.t 5)),
an (.store 20 (.t 4) (.t 105))])
.ret)))))))))))))) }
def w19 : WF := { nt := 6, results := [(2, some (true, 15))], code :=
(.seq (.reg [ao 1 (.box (.t 0)),
ao 2 (.alloc [(.list [] true), (.list [] true), (.list [] true), (.list [] true), (.list [] true), (.list [] true), (.list [] true), (.int .i64 0), (.int .i64 0), (.int .i64 0), (.int .i64 0), (.int .i64 0), (.int .i64 0), (.bool false), (.bool false)])])
(.seq (.reg [ao 3 (.fieldAddr 0 (.t 1)),
an (.store 1 (.t 3) (.c (.list [] true))),
ao 4 (.fieldAddr 6 (.t 1)),
an (.store 1 (.t 4) (.c (.list [] true)))])
(.seq (.reg [ao 5 (.load true 15 (.t 1)),
an (.store 15 (.t 2) (.t 5))])
.ret))) }
def w20 : WF := { nt := 13, results := [], rcv := some 5, code :=
(.block 0 (.seq (.reg [ao 7 (.pur (.isNilI true) [(.t 5)])])
(.cond (.t 7)
(.reg [mv 2 5])
(.seq (.reg [ao 8 (.pur (.assert 60 (some (.int .i64 0))) [(.t 5)]),
ao 9 (.extract 1 (.t 8)),
ao 10 (.extract 0 (.t 8))])
(.cond (.t 9)
(.seq (.reg [mv 3 10])
(.reg [ao 11 (.build [(.list [] true), (.list [] true), (.list [] true), (.list [] true), (.list [] true), (.list [] true), (.list [] true), (.int .i64 0), (.int .i64 0), (.int .i64 0), (.int .i64 0), (.int .i64 0), (.int .i64 0), (.bool false), (.bool false)] []),
mv 12 3,
an (.store 15 (.t 0) (.t 11)),
an (.store 1 (.t 1) (.t 12))]))
(.seq (.reg [mv 4 5])
(.reg [mv 6 4,
an (.panic (.t 6))]))))))) }
def w21 : WF := { nt := 6, results := [(2, none)], code :=
(.seq (.reg [ao 2 (.mov (.c .nilp))])
(.seq (.reg [mv 3 0,
ao 4 (.build [(.list [] true), (.int .i64 0)] [(0, 1, (.t 3))]),
ao 5 (.box (.t 4)),
mv 2 5])
.ret)) }
def ca220 : WC := (.reg [mv 7 19])
def cb220 : WC :=
(.block 1 (.reg [ao 20 (.load false 1 (.t 5)),
mv 21 7,
ao 22 (.buildSlice 1 1 [(.list [] true)] [(0, 1, (.t 21))]),
ao 23 (.append 1 24 none (.t 20) (.t 22)),
an (.store 1 (.t 5) (.t 23))]))
def bd220 : ABody := { keep := [5], ps := [18, 19], assign := toA ca220, body := toA cb220 }
def w22 : WF := { nt := 77, results := [(4, none)], code :=
(.seq (.reg [ao 4 (.mov (.c (.list [] true)))])
(.seq (.reg [ao 15 (.buildSlice 1 0 [(.list [] true)] []),
ao 5 (.alloc [(.list [] true)]),
an (.store 1 (.t 5) (.t 15))])
(.seq (.seq (.reg [mv 16 1,
ao 17 (.call 11 [(.t 16)])])
(.block 0 (.range 220 (.t 17) [18, 19] ca220 cb220)))
(.seq (.reg [mv 24 1,
ao 25 (.call 35 [(.t 24)]),
mv 8 25])
(.seq (.reg [mv 26 0,
ao 27 (.load false 1 (.t 5)),
ao 28 (.len (.t 27)),
ao 29 (.call 52 [(.t 26), (.c (.int .i64 0)), (.t 28)]),
mv 9 29])
(.seq (.reg [mv 30 0,
ao 31 (.call 53 [(.t 30)]),
ao 32 (.call 24 [(.t 31)])])
(.seq (.reg [ao 10 (.mov (.c (.int .i64 0)))])
(.seq (.seq (.reg [mv 33 9,
ao 34 (.mov (.c (.int .i64 0)))])
(.block 2 (.loop (.seq (.reg [ao 35 (.bin .lss .no (.t 34) (.t 33))])
(.seq (.cond (.t 35)
.skip
(.exit 2))
(.seq (.block 3 (.seq (.reg [mv 36 0,
mv 37 10,
ao 38 (.load false 1 (.t 5)),
ao 39 (.len (.t 38)),
ao 40 (.bin .sub .no (.t 39) (.c (.int .i64 1))),
ao 41 (.call 52 [(.t 36), (.t 37), (.t 40)]),
mv 11 41])
(.seq (.reg [mv 42 0,
ao 43 (.call 23 [(.t 42), (.c (.int .i64 65536))]),
mv 12 43])
(.seq (.reg [mv 44 0,
ao 45 (.call 53 [(.t 44)]),
ao 46 (.call 24 [(.t 45)])])
(.seq (.reg [mv 48 12,
ao 49 (.load false 1 (.t 5)),
mv 50 11,
ao 51 (.indexSl 1 (.t 49) (.t 50)),
ao 52 (.load false 1 (.t 51)),
ao 53 (.len (.t 52)),
ao 54 (.call 54 [(.t 48), (.t 53)]),
mv 47 54,
ao 55 (.extract 0 (.t 47)),
ao 56 (.extract 1 (.t 47)),
mv 13 55,
mv 14 56])
(.seq (.reg [mv 57 14,
ao 58 (.call 24 [(.t 57)])])
(.seq (.reg [mv 59 13,
ao 60 (.load false 1 (.t 5)),
mv 61 11,
ao 62 (.indexSl 1 (.t 60) (.t 61)),
ao 63 (.load false 1 (.t 62)),
ao 64 (.call 12 [(.t 59), (.t 63)]),
ao 65 (.un .not (.t 64)),
ao 66 (.call 55 [(.t 65)])])
(.seq (.reg [mv 67 8,
mv 68 11,
ao 69 (.bin .mul .no (.t 68) (.c (.int .i64 64))),
ao 70 (.slice (.sl 1) (.t 67) (some (.t 69)) none none),
mv 71 13,
ao 72 (.copy 1 (.t 70) (.t 71))])
(.reg [mv 73 11,
ao 74 (.bin .add .no (.t 73) (.c (.int .i64 1))),
mv 10 74])))))))))
(.reg [ao 75 (.bin .add .no (.t 34) (.c (.int .i64 1))),
mv 34 75])))))))
(.seq (.reg [mv 76 8,
mv 4 76])
.ret))))))))) }
def w23 : WF := { nt := 40, results := [(4, none)], code :=
(.seq (.reg [ao 4 (.mov (.c (.list [] true)))])
(.seq (.reg [mv 7 0,
mv 8 1,
ao 9 (.call 52 [(.t 7), (.c (.int .i64 0)), (.t 8)]),
mv 5 9])
(.seq (.seq (.reg [mv 10 0,
ao 11 (.call 53 [(.t 10)]),
ao 12 (.bin .neq .no (.t 11) (.c (.int .i64 0)))])
(.cond (.t 12)
(.seq (.reg [ao 4 (.mov (.c (.list [] true)))])
.ret)
.skip))
(.seq (.seq (.reg [mv 13 5,
mv 14 0,
ao 15 (.nilCheck (.t 14)),
ao 16 (.fieldAddr 0 (.t 15)),
ao 17 (.load false 1 (.t 16)),
ao 18 (.len (.t 17)),
ao 19 (.bin .gtr .no (.t 13) (.t 18))])
(.cond (.t 19)
(.seq (.reg [mv 20 0,
ao 21 (.nilCheck (.t 20)),
ao 22 (.fieldAddr 1 (.t 21)),
an (.store 1 (.t 22) (.c (.int .i64 3)))])
(.seq (.reg [ao 4 (.mov (.c (.list [] true)))])
.ret))
.skip))
(.seq (.reg [mv 23 0,
ao 24 (.nilCheck (.t 23)),
ao 25 (.fieldAddr 0 (.t 24)),
ao 26 (.load false 1 (.t 25)),
mv 27 5,
mv 28 5,
ao 29 (.slice (.sl 1) (.t 26) none (some (.t 27)) (some (.t 28))),
mv 6 29])
(.seq (.reg [mv 30 0,
mv 31 0,
ao 32 (.nilCheck (.t 31)),
ao 33 (.fieldAddr 0 (.t 32)),
ao 34 (.load false 1 (.t 33)),
mv 35 5,
ao 36 (.slice (.sl 1) (.t 34) (some (.t 35)) none none),
ao 37 (.nilCheck (.t 30)),
ao 38 (.fieldAddr 0 (.t 37)),
an (.store 1 (.t 38) (.t 36))])
(.seq (.reg [mv 39 6,
mv 4 39])
.ret))))))) }
def w24 : WF := { nt := 6, results := [], code :=
(.seq (.reg [mv 2 0,
ao 3 (.bin .neq .no (.t 2) (.c (.int .i64 0)))])
(.cond (.t 3)
(.reg [mv 4 0,
ao 5 (.makeIface 60 (.t 4)),
an (.panic (.t 5))])
.skip)) }
def w25 : WF := { nt := 16, results := [(2, none)], code :=
(.seq (.reg [ao 2 (.mov (.c (.int .i64 0)))])
(.seq (.seq (.reg [mv 3 0,
ao 4 (.call 53 [(.t 3)]),
ao 5 (.bin .eql .no (.t 4) (.c (.int .i64 0))),
mv 6 5,
ag 7 (.mov (.t 0)) 6 true,
ag 8 (.nilCheck (.t 7)) 6 true,
ag 9 (.fieldAddr 0 (.t 8)) 6 true,
ag 10 (.load false 1 (.t 9)) 6 true,
ag 11 (.len (.t 10)) 6 true,
ag 12 (.bin .gtr .no (.t 11) (.c (.int .i64 0))) 6 true,
ao 13 (.pick (.t 6) (.t 12) (.c (.bool false)))])
(.cond (.t 13)
(.seq (.reg [ao 2 (.mov (.c (.int .i64 2)))])
.ret)
.skip))
(.seq (.reg [mv 14 0,
ao 15 (.call 53 [(.t 14)]),
mv 2 15])
.ret))) }
def w26 : WF := { nt := 90, results := [(2, some (true, 20)), (3, none)], code :=
(.seq (.reg [ao 2 (.alloc [(.list [] true), (.int .i64 0), (.list [] true), (.int .i64 0), (.list [] true), (.int .i64 0), (.list [] true), (.int .i64 0), (.list [] true), (.int .i64 0), (.list [] true), (.int .i64 0), (.int .i64 0), (.int .i64 0), (.int .i64 0), (.int .i64 0), (.int .i64 0), (.int .i64 0), (.bool false), (.bool false)]),
ao 3 (.mov (.c (.int .i64 0)))])
(.seq (.reg [mv 10 0,
ao 11 (.call 21 [(.t 10)]),
ao 4 (.alloc [.nilp]),
an (.store 1 (.t 4) (.t 11))])
(.seq (.reg [ao 12 (.makeFunc (.func 56) [] [(.t 4)]),
ao 5 (.alloc [.nilfn]),
an (.store 1 (.t 5) (.t 12))])
(.seq (.reg [ao 6 (.alloc [(.list [] true), (.int .i64 0), (.list [] true), (.int .i64 0), (.list [] true), (.int .i64 0), (.list [] true), (.int .i64 0), (.list [] true), (.int .i64 0), (.list [] true), (.int .i64 0), (.int .i64 0), (.int .i64 0), (.int .i64 0), (.int .i64 0), (.int .i64 0), (.int .i64 0), (.bool false), (.bool false)])])
(.seq (.reg [ao 13 (.load false 1 (.t 4)),
ao 14 (.makeFunc (.func 58) [] [(.t 5), (.t 4)]),
ao 15 (.call 57 [(.t 13), (.t 14)]),
ao 16 (.fieldAddr 0 (.t 6)),
an (.store 1 (.t 16) (.t 15))])
(.seq (.reg [ao 17 (.load false 1 (.t 5)),
ao 18 (.callv (.t 17) []),
ao 19 (.fieldAddr 1 (.t 6)),
ao 20 (.fieldAddr 0 (.t 19)),
an (.store 1 (.t 20) (.t 18))])
(.seq (.reg [ao 21 (.load false 1 (.t 4)),
ao 22 (.load false 1 (.t 5)),
ao 23 (.call 59 [(.t 21), (.t 22)]),
ao 24 (.fieldAddr 1 (.t 6)),
ao 25 (.fieldAddr 1 (.t 24)),
an (.store 1 (.t 25) (.t 23))])
(.seq (.reg [ao 26 (.load false 1 (.t 5)),
ao 27 (.callv (.t 26) []),
ao 28 (.fieldAddr 3 (.t 6)),
ao 29 (.fieldAddr 0 (.t 28)),
an (.store 1 (.t 29) (.t 27))])
(.seq (.reg [ao 30 (.load false 1 (.t 4)),
ao 31 (.makeFunc (.func 61) [] [(.t 5), (.t 4)]),
ao 32 (.call 60 [(.t 30), (.t 31)]),
ao 33 (.fieldAddr 3 (.t 6)),
ao 34 (.fieldAddr 1 (.t 33)),
an (.store 1 (.t 34) (.t 32))])
(.seq (.reg [ao 35 (.load false 1 (.t 5)),
ao 36 (.callv (.t 35) []),
ao 37 (.fieldAddr 5 (.t 6)),
ao 38 (.fieldAddr 0 (.t 37)),
an (.store 1 (.t 38) (.t 36))])
(.seq (.reg [ao 39 (.load false 1 (.t 4)),
ao 40 (.load false 1 (.t 5)),
ao 41 (.call 59 [(.t 39), (.t 40)]),
ao 42 (.fieldAddr 5 (.t 6)),
ao 43 (.fieldAddr 1 (.t 42)),
an (.store 1 (.t 43) (.t 41))])
(.seq (.reg [ao 44 (.load false 1 (.t 5)),
ao 45 (.callv (.t 44) []),
ao 46 (.fieldAddr 7 (.t 6)),
ao 47 (.fieldAddr 0 (.t 46)),
an (.store 1 (.t 47) (.t 45))])
(.seq (.reg [ao 48 (.load false 1 (.t 4)),
ao 49 (.makeFunc (.func 63) [] [(.t 4), (.t 5)]),
ao 50 (.call 62 [(.t 48), (.t 49)]),
ao 51 (.fieldAddr 7 (.t 6)),
ao 52 (.fieldAddr 1 (.t 51)),
an (.store 1 (.t 52) (.t 50))])
(.seq (.reg [ao 53 (.load false 1 (.t 5)),
ao 54 (.callv (.t 53) []),
ao 55 (.fieldAddr 9 (.t 6)),
ao 56 (.fieldAddr 0 (.t 55)),
an (.store 1 (.t 56) (.t 54))])
(.seq (.reg [ao 57 (.load false 1 (.t 4)),
ao 58 (.makeFunc (.func 65) [] [(.t 5)]),
ao 59 (.call 64 [(.t 57), (.t 58)]),
ao 60 (.fieldAddr 9 (.t 6)),
ao 61 (.fieldAddr 1 (.t 60)),
an (.store 1 (.t 61) (.t 59))])
(.seq (.reg [ao 62 (.load false 1 (.t 5)),
ao 63 (.callv (.t 62) []),
ao 64 (.fieldAddr 11 (.t 6)),
an (.store 1 (.t 64) (.t 63))])
(.seq (.seq (.reg [ao 65 (.mov (.c (.int .i64 0)))])
(.block 0 (.loop (.seq (.reg [ao 66 (.bin .lss .no (.t 65) (.c (.int .i64 6)))])
(.seq (.cond (.t 66)
.skip
(.exit 0))
(.seq (.block 1 (.seq (.reg [mv 67 65,
mv 7 67])
(.reg [mv 68 7,
ao 69 (.load false 1 (.t 5)),
ao 70 (.callv (.t 69) []),
ao 71 (.fieldAddr 12 (.t 6)),
ao 72 (.indexPA 6 1 (.t 71) (.t 68)),
an (.store 1 (.t 72) (.t 70))])))
(.reg [ao 73 (.bin .add .no (.t 65) (.c (.int .i64 1))),
mv 65 73])))))))
(.seq (.reg [ao 74 (.load false 1 (.t 4)),
ao 75 (.call 52 [(.t 74), (.c (.int .i64 0)), (.c (.int .i64 3))]),
mv 8 75])
(.seq (.reg [mv 76 8,
ao 77 (.bin .rem .no (.t 76) (.c (.int .i64 2))),
ao 78 (.bin .eql .no (.t 77) (.c (.int .i64 1))),
mv 79 8,
ao 80 (.bin .geq .no (.t 79) (.c (.int .i64 2))),
ao 81 (.fieldAddr 18 (.t 6)),
an (.store 1 (.t 81) (.t 78)),
ao 82 (.fieldAddr 19 (.t 6)),
an (.store 1 (.t 82) (.t 80))])
(.seq (.seq (.reg [ao 83 (.load false 1 (.t 4)),
ao 84 (.call 25 [(.t 83)]),
mv 9 84])
(.seq (.reg [mv 85 9,
ao 86 (.bin .neq .no (.t 85) (.c (.int .i64 0)))])
(.cond (.t 86)
(.seq (.reg [ao 87 (.build [(.list [] true), (.int .i64 0), (.list [] true), (.int .i64 0), (.list [] true), (.int .i64 0), (.list [] true), (.int .i64 0), (.list [] true), (.int .i64 0), (.list [] true), (.int .i64 0), (.int .i64 0), (.int .i64 0), (.int .i64 0), (.int .i64 0), (.int .i64 0), (.int .i64 0), (.bool false), (.bool false)] []),
mv 88 9,
an (.store 20 (.t 2) (.t 87)),
mv 3 88])
.ret)
.skip)))
(.seq (.reg [ao 89 (.load true 20 (.t 6)),
an (.store 20 (.t 2) (.t 89)),
ao 3 (.mov (.c (.int .i64 0)))])
.ret))))))))))))))))))))) }
def w27 : WF := { nt := 28, results := [], code :=
(.seq (.reg [ao 1 (.box (.t 0))])
(.seq (.reg [ao 3 (.fieldAddr 0 (.t 1)),
ao 4 (.load false 1 (.t 3)),
ao 5 (.len (.t 4)),
ao 6 (.fieldAddr 11 (.t 1)),
ao 7 (.load false 1 (.t 6)),
ao 8 (.fieldAddr 1 (.t 1)),
ao 9 (.fieldAddr 0 (.t 8)),
ao 10 (.load false 1 (.t 9)),
ao 11 (.fieldAddr 3 (.t 1)),
ao 12 (.fieldAddr 0 (.t 11)),
ao 13 (.load false 1 (.t 12)),
ao 14 (.fieldAddr 5 (.t 1)),
ao 15 (.fieldAddr 0 (.t 14)),
ao 16 (.load false 1 (.t 15)),
ao 17 (.fieldAddr 7 (.t 1)),
ao 18 (.fieldAddr 0 (.t 17)),
ao 19 (.load false 1 (.t 18)),
ao 20 (.fieldAddr 9 (.t 1)),
ao 21 (.fieldAddr 0 (.t 20)),
ao 22 (.load false 1 (.t 21)),
ao 23 (.build [(.int .i64 0), (.int .i64 0), (.int .i64 0), (.int .i64 0), (.int .i64 0), (.int .i64 0), (.int .i64 0)] [(0, 1, (.t 5)), (1, 1, (.t 7)), (2, 1, (.t 10)), (3, 1, (.t 13)), (4, 1, (.t 16)), (5, 1, (.t 19)), (6, 1, (.t 22))]),
ao 2 (.alloc [(.int .i64 0), (.int .i64 0), (.int .i64 0), (.int .i64 0), (.int .i64 0), (.int .i64 0), (.int .i64 0)]),
an (.store 7 (.t 2) (.t 23))])
(.reg [ao 24 (.load true 7 (.t 2)),
ao 25 (.build [(.int .i64 0), (.int .i64 0), (.int .i64 0), (.int .i64 0), (.int .i64 0), (.int .i64 0), (.int .i64 0)] []),
ao 26 (.pur (.eqA true [(0, .int), (1, .int), (2, .int), (3, .int), (4, .int), (5, .int), (6, .int)]) [(.t 24), (.t 25)]),
ao 27 (.call 55 [(.t 26)])]))) }
def w28 : WF := { nt := 184, results := [(4, some (true, 15)), (5, none)], code :=
(.seq (.reg [ao 2 (.box (.t 0)),
ao 3 (.box (.t 1)),
ao 4 (.alloc [(.list [] true), (.list [] true), (.list [] true), (.list [] true), (.list [] true), (.list [] true), (.list [] true), (.int .i64 0), (.int .i64 0), (.int .i64 0), (.int .i64 0), (.int .i64 0), (.int .i64 0), (.bool false), (.bool false)]),
ao 5 (.mov (.c (.int .i64 0)))])
(.seq (.reg [ao 6 (.alloc [(.bool false), (.bool false), (.bool false), (.bool false), (.bool false), (.bool false)])])
(.seq (.reg [ao 11 (.load true 15 (.t 2)),
ao 7 (.alloc [(.list [] true), (.list [] true), (.list [] true), (.list [] true), (.list [] true), (.list [] true), (.list [] true), (.int .i64 0), (.int .i64 0), (.int .i64 0), (.int .i64 0), (.int .i64 0), (.int .i64 0), (.bool false), (.bool false)]),
an (.store 15 (.t 7) (.t 11))])
(.seq (.reg [ao 12 (.fieldAddr 0 (.t 2)),
ao 13 (.load false 1 (.t 12)),
ao 14 (.call 35 [(.t 13)]),
ao 15 (.fieldAddr 0 (.t 7)),
an (.store 1 (.t 15) (.t 14))])
(.seq (.reg [ao 17 (.fieldAddr 1 (.t 2)),
ao 18 (.load false 1 (.t 17)),
ao 19 (.fieldAddr 1 (.t 3)),
ao 20 (.fieldAddr 0 (.t 19)),
ao 21 (.load false 1 (.t 20)),
ao 22 (.fieldAddr 1 (.t 3)),
ao 23 (.fieldAddr 1 (.t 22)),
ao 24 (.load false 1 (.t 23)),
ao 25 (.call 66 [(.t 18), (.t 21), (.t 24)]),
mv 16 25,
ao 26 (.extract 0 (.t 16)),
ao 27 (.extract 1 (.t 16)),
ao 28 (.fieldAddr 1 (.t 7)),
an (.store 1 (.t 28) (.t 26)),
ao 29 (.indexPA 6 1 (.t 6) (.c (.int .i64 0))),
an (.store 1 (.t 29) (.t 27))])
(.seq (.reg [ao 31 (.fieldAddr 2 (.t 2)),
ao 32 (.load false 1 (.t 31)),
ao 33 (.fieldAddr 3 (.t 3)),
ao 34 (.fieldAddr 0 (.t 33)),
ao 35 (.load false 1 (.t 34)),
ao 36 (.fieldAddr 3 (.t 3)),
ao 37 (.fieldAddr 1 (.t 36)),
ao 38 (.load false 1 (.t 37)),
ao 39 (.call 67 [(.t 32), (.t 35), (.t 38)]),
mv 30 39,
ao 40 (.extract 0 (.t 30)),
ao 41 (.extract 1 (.t 30)),
ao 42 (.fieldAddr 2 (.t 7)),
an (.store 1 (.t 42) (.t 40)),
ao 43 (.indexPA 6 1 (.t 6) (.c (.int .i64 1))),
an (.store 1 (.t 43) (.t 41))])
(.seq (.reg [ao 45 (.fieldAddr 3 (.t 2)),
ao 46 (.load false 1 (.t 45)),
ao 47 (.fieldAddr 5 (.t 3)),
ao 48 (.fieldAddr 0 (.t 47)),
ao 49 (.load false 1 (.t 48)),
ao 50 (.fieldAddr 5 (.t 3)),
ao 51 (.fieldAddr 1 (.t 50)),
ao 52 (.load false 1 (.t 51)),
ao 53 (.call 66 [(.t 46), (.t 49), (.t 52)]),
mv 44 53,
ao 54 (.extract 0 (.t 44)),
ao 55 (.extract 1 (.t 44)),
ao 56 (.fieldAddr 3 (.t 7)),
an (.store 1 (.t 56) (.t 54)),
ao 57 (.indexPA 6 1 (.t 6) (.c (.int .i64 2))),
an (.store 1 (.t 57) (.t 55))])
(.seq (.reg [ao 59 (.fieldAddr 4 (.t 2)),
ao 60 (.load false 1 (.t 59)),
ao 61 (.fieldAddr 7 (.t 3)),
ao 62 (.fieldAddr 0 (.t 61)),
ao 63 (.load false 1 (.t 62)),
ao 64 (.fieldAddr 7 (.t 3)),
ao 65 (.fieldAddr 1 (.t 64)),
ao 66 (.load false 1 (.t 65)),
ao 67 (.call 68 [(.t 60), (.t 63), (.t 66)]),
mv 58 67,
ao 68 (.extract 0 (.t 58)),
ao 69 (.extract 1 (.t 58)),
ao 70 (.fieldAddr 4 (.t 7)),
an (.store 1 (.t 70) (.t 68)),
ao 71 (.indexPA 6 1 (.t 6) (.c (.int .i64 3))),
an (.store 1 (.t 71) (.t 69))])
(.seq (.reg [ao 73 (.fieldAddr 5 (.t 2)),
ao 74 (.load false 1 (.t 73)),
ao 75 (.fieldAddr 9 (.t 3)),
ao 76 (.fieldAddr 0 (.t 75)),
ao 77 (.load false 1 (.t 76)),
ao 78 (.fieldAddr 9 (.t 3)),
ao 79 (.fieldAddr 1 (.t 78)),
ao 80 (.load false 1 (.t 79)),
ao 81 (.call 69 [(.t 74), (.t 77), (.t 80)]),
mv 72 81,
ao 82 (.extract 0 (.t 72)),
ao 83 (.extract 1 (.t 72)),
ao 84 (.fieldAddr 5 (.t 7)),
an (.store 1 (.t 84) (.t 82)),
ao 85 (.indexPA 6 1 (.t 6) (.c (.int .i64 4))),
an (.store 1 (.t 85) (.t 83))])
(.seq (.reg [ao 86 (.fieldAddr 11 (.t 3)),
ao 87 (.load false 1 (.t 86)),
ao 88 (.bin .geq .no (.t 87) (.c (.int .i64 0))),
mv 89 88,
ag 90 (.fieldAddr 11 (.t 3)) 89 true,
ag 91 (.load false 1 (.t 90)) 89 true,
ag 92 (.fieldAddr 6 (.t 2)) 89 true,
ag 93 (.load false 1 (.t 92)) 89 true,
ag 94 (.len (.t 93)) 89 true,
ag 95 (.bin .leq .no (.t 91) (.t 94)) 89 true,
ao 96 (.pick (.t 89) (.t 95) (.c (.bool false))),
ao 97 (.indexPA 6 1 (.t 6) (.c (.int .i64 5))),
an (.store 1 (.t 97) (.t 96))])
(.seq (.seq (.reg [ao 98 (.slice (.arr 6 1) (.t 6) none none none),
ao 99 (.call 70 [(.t 98), (.c (.bool false))])])
(.cond (.t 99)
(.seq (.reg [ao 100 (.build [(.list [] true), (.list [] true), (.list [] true), (.list [] true), (.list [] true), (.list [] true), (.list [] true), (.int .i64 0), (.int .i64 0), (.int .i64 0), (.int .i64 0), (.int .i64 0), (.int .i64 0), (.bool false), (.bool false)] []),
an (.store 15 (.t 4) (.t 100)),
ao 5 (.mov (.c (.int .i64 1)))])
.ret)
.skip))
(.seq (.seq (.reg [ao 101 (.fieldAddr 0 (.t 3)),
ao 102 (.load false 1 (.t 101)),
ao 103 (.len (.t 102)),
ao 104 (.mov (.c (.int .i64 0)))])
(.block 0 (.loop (.seq (.reg [ao 105 (.bin .lss .no (.t 104) (.t 103))])
(.seq (.cond (.t 105)
.skip
(.exit 0))
(.seq (.block 1 (.seq (.reg [ao 106 (.indexSl 2 (.t 102) (.t 104)),
ao 107 (.load true 2 (.t 106)),
ao 9 (.alloc [(.int .i64 0), (.list [] true)]),
an (.store 2 (.t 9) (.t 107))])
(.seq (.seq (.reg [ao 108 (.fieldAddr 0 (.t 9)),
ao 109 (.load false 1 (.t 108)),
ao 110 (.bin .lss .no (.t 109) (.c (.int .i64 0))),
mv 111 110,
ag 112 (.fieldAddr 0 (.t 9)) 111 false,
ag 113 (.load false 1 (.t 112)) 111 false,
ag 114 (.fieldAddr 0 (.t 7)) 111 false,
ag 115 (.load false 1 (.t 114)) 111 false,
ag 116 (.len (.t 115)) 111 false,
ag 117 (.bin .gtr .no (.t 113) (.t 116)) 111 false,
ao 118 (.pick (.t 111) (.c (.bool true)) (.t 117)),
mv 119 118,
ag 120 (.fieldAddr 1 (.t 9)) 119 false,
ag 121 (.load false 1 (.t 120)) 119 false,
ag 122 (.len (.t 121)) 119 false,
ag 123 (.fieldAddr 0 (.t 7)) 119 false,
ag 124 (.load false 1 (.t 123)) 119 false,
ag 125 (.len (.t 124)) 119 false,
ag 126 (.fieldAddr 0 (.t 9)) 119 false,
ag 127 (.load false 1 (.t 126)) 119 false,
ag 128 (.bin .sub .no (.t 125) (.t 127)) 119 false,
ag 129 (.bin .gtr .no (.t 122) (.t 128)) 119 false,
ao 130 (.pick (.t 119) (.c (.bool true)) (.t 129))])
(.cond (.t 130)
(.seq (.reg [ao 131 (.build [(.list [] true), (.list [] true), (.list [] true), (.list [] true), (.list [] true), (.list [] true), (.list [] true), (.int .i64 0), (.int .i64 0), (.int .i64 0), (.int .i64 0), (.int .i64 0), (.int .i64 0), (.bool false), (.bool false)] []),
an (.store 15 (.t 4) (.t 131)),
ao 5 (.mov (.c (.int .i64 1)))])
.ret)
.skip))
(.calm [ao 132 (.fieldAddr 0 (.t 7)),
⟨(some 133), .load false 1 (.t 132), none, [0], false⟩,
ao 134 (.fieldAddr 0 (.t 9)),
⟨(some 135), .load false 1 (.t 134), none, [2], false⟩,
⟨(some 136), .slice (.sl 1) (.t 133) (some (.t 135)) none none, none, [1, 3], false⟩,
ao 137 (.fieldAddr 1 (.t 9)),
⟨(some 138), .load false 1 (.t 137), none, [5], false⟩,
⟨(some 139), .copy 1 (.t 136) (.t 138), none, [4, 6], true⟩]))))
(.reg [ao 140 (.bin .add .no (.t 104) (.c (.int .i64 1))),
mv 104 140])))))))
(.seq (.reg [ao 141 (.fieldAddr 6 (.t 2)),
ao 142 (.load false 1 (.t 141)),
ao 143 (.len (.t 142)),
ao 144 (.fieldAddr 11 (.t 3)),
ao 145 (.load false 1 (.t 144)),
ao 146 (.bin .sub .no (.t 143) (.t 145)),
mv 10 146])
(.seq (.reg [ao 147 (.fieldAddr 6 (.t 2)),
ao 148 (.load false 1 (.t 147)),
mv 149 10,
mv 150 10,
ao 151 (.slice (.sl 1) (.t 148) none (some (.t 149)) (some (.t 150))),
ao 152 (.fieldAddr 6 (.t 7)),
an (.store 1 (.t 152) (.t 151))])
(.seq (.draw [ao 153 (.fieldAddr 12 (.t 3)),
⟨(some 154), .indexPA 6 1 (.t 153) (.c (.int .i64 0)), none, [0], false⟩,
⟨(some 155), .load false 1 (.t 154), none, [1], false⟩,
ao 156 (.fieldAddr 12 (.t 3)),
⟨(some 157), .indexPA 6 1 (.t 156) (.c (.int .i64 1)), none, [3], false⟩,
⟨(some 158), .load false 1 (.t 157), none, [4], false⟩,
ao 159 (.fieldAddr 12 (.t 3)),
⟨(some 160), .indexPA 6 1 (.t 159) (.c (.int .i64 2)), none, [6], false⟩,
⟨(some 161), .load false 1 (.t 160), none, [7], false⟩,
ao 162 (.fieldAddr 12 (.t 3)),
⟨(some 163), .indexPA 6 1 (.t 162) (.c (.int .i64 3)), none, [9], false⟩,
⟨(some 164), .load false 1 (.t 163), none, [10], false⟩,
ao 165 (.fieldAddr 12 (.t 3)),
⟨(some 166), .indexPA 6 1 (.t 165) (.c (.int .i64 4)), none, [12], false⟩,
⟨(some 167), .load false 1 (.t 166), none, [13], false⟩,
ao 168 (.fieldAddr 12 (.t 3)),
⟨(some 169), .indexPA 6 1 (.t 168) (.c (.int .i64 5)), none, [15], false⟩,
⟨(some 170), .load false 1 (.t 169), none, [16], false⟩,
⟨(some 171), .fieldAddr 7 (.t 7), none, [0, 1, 2], false⟩,
⟨none, .store 1 (.t 171) (.t 155), none, [18, 2, 0, 1, 2], true⟩,
⟨(some 172), .fieldAddr 8 (.t 7), none, [0, 1, 2, 3, 4, 5, 18, 19], false⟩,
⟨none, .store 1 (.t 172) (.t 158), none, [20, 5, 19, 0, 1, 2, 3, 4, 5, 18, 19], true⟩,
⟨(some 173), .fieldAddr 9 (.t 7), none, [0, 1, 2, 3, 4, 5, 6, 7, 8, 18, 19, 20, 21], false⟩,
⟨none, .store 1 (.t 173) (.t 161), none, [22, 8, 21, 0, 1, 2, 3, 4, 5, 6, 7, 8, 18, 19, 20, 21], true⟩,
⟨(some 174), .fieldAddr 10 (.t 7), none, [0, 1, 2, 3, 4, 5, 6, 7, 8, 9, 10, 11, 18, 19, 20, 21, 22, 23], false⟩,
⟨none, .store 1 (.t 174) (.t 164), none, [24, 11, 23, 0, 1, 2, 3, 4, 5, 6, 7, 8, 9, 10, 11, 18, 19, 20, 21, 22, 23], true⟩,
⟨(some 175), .fieldAddr 11 (.t 7), none, [0, 1, 2, 3, 4, 5, 6, 7, 8, 9, 10, 11, 12, 13, 14, 18, 19, 20, 21, 22, 23, 24, 25], false⟩,
⟨none, .store 1 (.t 175) (.t 167), none, [26, 14, 25, 0, 1, 2, 3, 4, 5, 6, 7, 8, 9, 10, 11, 12, 13, 14, 18, 19, 20, 21, 22, 23, 24, 25], true⟩,
⟨(some 176), .fieldAddr 12 (.t 7), none, [0, 1, 2, 3, 4, 5, 6, 7, 8, 9, 10, 11, 12, 13, 14, 15, 16, 17, 18, 19, 20, 21, 22, 23, 24, 25, 26, 27], false⟩,
⟨none, .store 1 (.t 176) (.t 170), none, [28, 17, 27, 0, 1, 2, 3, 4, 5, 6, 7, 8, 9, 10, 11, 12, 13, 14, 15, 16, 17, 18, 19, 20, 21, 22, 23, 24, 25, 26, 27], true⟩])
(.seq (.draw [ao 177 (.fieldAddr 18 (.t 3)),
⟨(some 178), .load false 1 (.t 177), none, [0], false⟩,
ao 179 (.fieldAddr 19 (.t 3)),
⟨(some 180), .load false 1 (.t 179), none, [2], false⟩,
⟨(some 181), .fieldAddr 13 (.t 7), none, [0, 1], false⟩,
⟨none, .store 1 (.t 181) (.t 178), none, [4, 1, 0, 1], true⟩,
⟨(some 182), .fieldAddr 14 (.t 7), none, [0, 1, 2, 3, 4, 5], false⟩,
⟨none, .store 1 (.t 182) (.t 180), none, [6, 3, 5, 0, 1, 2, 3, 4, 5], true⟩])
(.seq (.reg [ao 183 (.load true 15 (.t 7)),
an (.store 15 (.t 4) (.t 183)),
ao 5 (.mov (.c (.int .i64 0)))])
.ret))))))))))))))))) }
def w29 : WF := { nt := 26, results := [(4, none)], code :=
(.seq (.reg [ao 4 (.mov (.c (.bool false)))])
(.seq (.seq (.reg [mv 6 0,
ao 7 (.len (.t 6)),
mv 8 1,
ao 9 (.len (.t 8)),
ao 10 (.bin .neq .no (.t 7) (.t 9))])
(.cond (.t 10)
(.seq (.reg [ao 4 (.mov (.c (.bool false)))])
.ret)
.skip))
(.seq (.seq (.reg [ao 5 (.mov (.c (.int .i64 0)))])
(.block 0 (.loop (.seq (.seq (.reg [mv 11 5,
mv 12 0,
ao 13 (.len (.t 12)),
ao 14 (.bin .lss .no (.t 11) (.t 13))])
(.cond (.t 14)
.skip
(.exit 0)))
(.seq (.block 1 (.seq (.calm [mv 17 0,
mv 18 5,
⟨(some 19), .indexSl 1 (.t 17) (.t 18), none, [0, 1], false⟩,
⟨(some 20), .load false 1 (.t 19), none, [2], false⟩,
mv 21 1,
mv 22 5,
⟨(some 23), .indexSl 1 (.t 21) (.t 22), none, [4, 5], false⟩,
⟨(some 24), .load false 1 (.t 23), none, [6], false⟩,
⟨(some 25), .bin .neq .no (.t 20) (.t 24), none, [3, 7], false⟩])
(.cond (.t 25)
(.seq (.reg [ao 4 (.mov (.c (.bool false)))])
.ret)
.skip)))
(.reg [mv 15 5,
ao 16 (.bin .add .no (.t 15) (.c (.int .i64 1))),
mv 5 16]))))))
(.seq (.reg [ao 4 (.mov (.c (.bool true)))])
.ret)))) }
def w30 : WF := { nt := 26, results := [(4, none)], code :=
(.seq (.reg [ao 4 (.mov (.c (.bool false)))])
(.seq (.seq (.reg [mv 6 0,
ao 7 (.len (.t 6)),
mv 8 1,
ao 9 (.len (.t 8)),
ao 10 (.bin .neq .no (.t 7) (.t 9))])
(.cond (.t 10)
(.seq (.reg [ao 4 (.mov (.c (.bool false)))])
.ret)
.skip))
(.seq (.seq (.reg [ao 5 (.mov (.c (.int .i64 0)))])
(.block 0 (.loop (.seq (.seq (.reg [mv 11 5,
mv 12 0,
ao 13 (.len (.t 12)),
ao 14 (.bin .lss .no (.t 11) (.t 13))])
(.cond (.t 14)
.skip
(.exit 0)))
(.seq (.block 1 (.seq (.calm [mv 17 0,
mv 18 5,
⟨(some 19), .indexSl 2 (.t 17) (.t 18), none, [0, 1], false⟩,
⟨(some 20), .load true 2 (.t 19), none, [2], false⟩,
mv 21 1,
mv 22 5,
⟨(some 23), .indexSl 2 (.t 21) (.t 22), none, [4, 5], false⟩,
⟨(some 24), .load true 2 (.t 23), none, [6], false⟩,
⟨(some 25), .pur (.eqA false [(0, .int), (1, .bool)]) [(.t 20), (.t 24)], none, [3, 7], false⟩])
(.cond (.t 25)
(.seq (.reg [ao 4 (.mov (.c (.bool false)))])
.ret)
.skip)))
(.reg [mv 15 5,
ao 16 (.bin .add .no (.t 15) (.c (.int .i64 1))),
mv 5 16]))))))
(.seq (.reg [ao 4 (.mov (.c (.bool true)))])
.ret)))) }
def w31 : WF := { nt := 26, results := [(4, none)], code :=
(.seq (.reg [ao 4 (.mov (.c (.bool false)))])
(.seq (.seq (.reg [mv 6 0,
ao 7 (.len (.t 6)),
mv 8 1,
ao 9 (.len (.t 8)),
ao 10 (.bin .neq .no (.t 7) (.t 9))])
(.cond (.t 10)
(.seq (.reg [ao 4 (.mov (.c (.bool false)))])
.ret)
.skip))
(.seq (.seq (.reg [ao 5 (.mov (.c (.int .i64 0)))])
(.block 0 (.loop (.seq (.seq (.reg [mv 11 5,
mv 12 0,
ao 13 (.len (.t 12)),
ao 14 (.bin .lss .no (.t 11) (.t 13))])
(.cond (.t 14)
.skip
(.exit 0)))
(.seq (.block 1 (.seq (.calm [mv 17 0,
mv 18 5,
⟨(some 19), .indexSl 4 (.t 17) (.t 18), none, [0, 1], false⟩,
⟨(some 20), .load true 4 (.t 19), none, [2], false⟩,
mv 21 1,
mv 22 5,
⟨(some 23), .indexSl 4 (.t 21) (.t 22), none, [4, 5], false⟩,
⟨(some 24), .load true 4 (.t 23), none, [6], false⟩,
⟨(some 25), .pur (.eqA false [(0, .str), (1, .int), (2, .bool), (3, .bool)]) [(.t 20), (.t 24)], none, [3, 7], false⟩])
(.cond (.t 25)
(.seq (.reg [ao 4 (.mov (.c (.bool false)))])
.ret)
.skip)))
(.reg [mv 15 5,
ao 16 (.bin .add .no (.t 15) (.c (.int .i64 1))),
mv 5 16]))))))
(.seq (.reg [ao 4 (.mov (.c (.bool true)))])
.ret)))) }
def w32 : WF := { nt := 26, results := [(4, none)], code :=
(.seq (.reg [ao 4 (.mov (.c (.bool false)))])
(.seq (.seq (.reg [mv 6 0,
ao 7 (.len (.t 6)),
mv 8 1,
ao 9 (.len (.t 8)),
ao 10 (.bin .neq .no (.t 7) (.t 9))])
(.cond (.t 10)
(.seq (.reg [ao 4 (.mov (.c (.bool false)))])
.ret)
.skip))
(.seq (.seq (.reg [ao 5 (.mov (.c (.int .i64 0)))])
(.block 0 (.loop (.seq (.seq (.reg [mv 11 5,
mv 12 0,
ao 13 (.len (.t 12)),
ao 14 (.bin .lss .no (.t 11) (.t 13))])
(.cond (.t 14)
.skip
(.exit 0)))
(.seq (.block 1 (.seq (.calm [mv 17 0,
mv 18 5,
⟨(some 19), .indexSl 2 (.t 17) (.t 18), none, [0, 1], false⟩,
⟨(some 20), .load true 2 (.t 19), none, [2], false⟩,
mv 21 1,
mv 22 5,
⟨(some 23), .indexSl 2 (.t 21) (.t 22), none, [4, 5], false⟩,
⟨(some 24), .load true 2 (.t 23), none, [6], false⟩,
⟨(some 25), .pur (.eqA false [(0, .int), (1, .int)]) [(.t 20), (.t 24)], none, [3, 7], false⟩])
(.cond (.t 25)
(.seq (.reg [ao 4 (.mov (.c (.bool false)))])
.ret)
.skip)))
(.reg [mv 15 5,
ao 16 (.bin .add .no (.t 15) (.c (.int .i64 1))),
mv 5 16]))))))
(.seq (.reg [ao 4 (.mov (.c (.bool true)))])
.ret)))) }
def w33 : WF := { nt := 29, results := [], code :=
(.seq (.reg [ao 3 (.mov (.c (.int .i64 0)))])
(.block 0 (.loop (.seq (.seq (.reg [mv 6 3,
ao 7 (.bin .mul .no (.t 6) (.c (.int .i64 64))),
ao 8 (.load false 1 (.t 1)),
ao 9 (.len (.t 8)),
ao 10 (.bin .lss .no (.t 7) (.t 9))])
(.cond (.t 10)
.skip
(.exit 0)))
(.seq (.block 1 (.seq (.reg [mv 13 3,
ao 14 (.bin .mul .no (.t 13) (.c (.int .i64 64))),
mv 4 14])
(.seq (.reg [mv 15 4,
ao 16 (.bin .add .no (.t 15) (.c (.int .i64 64))),
ao 17 (.load false 1 (.t 1)),
ao 18 (.len (.t 17)),
ao 19 (.min [(.t 16), (.t 18)]),
mv 5 19])
(.seq (.reg [mv 20 0,
mv 21 3,
ao 22 (.load false 1 (.t 1)),
mv 23 4,
mv 24 5,
mv 25 5,
ao 26 (.slice (.sl 1) (.t 22) (some (.t 23)) (some (.t 24)) (some (.t 25))),
ao 27 (.callv (.t 20) [(.t 21), (.t 26)]),
ao 28 (.un .not (.t 27))])
(.cond (.t 28)
.ret
.skip)))))
(.reg [mv 11 3,
ao 12 (.bin .add .no (.t 11) (.c (.int .i64 1))),
mv 3 12])))))) }
def w34 : WF := { nt := 27, results := [(4, none)], code :=
(.seq (.reg [ao 4 (.mov (.c (.list [] true)))])
(.seq (.seq (.reg [mv 5 1,
ao 6 (.bin .lss .no (.t 5) (.c (.int .i64 0)))])
(.cond (.t 6)
(.reg [ao 7 (.makeIface 9 (.c (.str ⟨#[99, 97, 110, 110, 111, 116, 32, 98, 101, 32, 110, 101, 103, 97, 116, 105, 118, 101]⟩))),
an (.panic (.t 7))])
.skip))
(.seq (.seq (.reg [mv 8 1,
mv 9 0,
ao 10 (.cap (.t 9)),
mv 11 0,
ao 12 (.len (.t 11)),
ao 13 (.bin .sub .no (.t 10) (.t 12)),
ao 14 (.bin .sub .no (.t 8) (.t 13)),
mv 1 14])
(.seq (.reg [mv 15 1,
ao 16 (.bin .gtr .no (.t 15) (.c (.int .i64 0)))])
(.cond (.t 16)
(.reg [mv 17 0,
mv 18 0,
ao 19 (.cap (.t 18)),
ao 20 (.slice (.sl 1) (.t 17) none (some (.t 19)) none),
mv 21 1,
ao 22 (.append 1 1 (some [(.int .u8 0)]) (.t 20) (.t 21)),
mv 23 0,
ao 24 (.len (.t 23)),
ao 25 (.slice (.sl 1) (.t 22) none (some (.t 24)) none),
mv 0 25])
.skip)))
(.seq (.reg [mv 26 0,
mv 4 26])
.ret)))) }
def w35 : WF := { nt := 8, results := [(2, none)], code :=
(.seq (.reg [ao 2 (.mov (.c (.list [] true)))])
(.seq (.seq (.reg [mv 3 0,
ao 4 (.pur (.isNil true) [(.t 3)])])
(.cond (.t 4)
(.seq (.reg [ao 2 (.mov (.c (.list [] true)))])
.ret)
.skip))
(.seq (.reg [ao 5 (.buildSlice 1 0 [(.int .u8 0)] []),
mv 6 0,
ao 7 (.append 1 1 none (.t 5) (.t 6)),
mv 2 7])
.ret))) }
def w36 : WF := { nt := 4, results := [(2, none)], code :=
(.seq (.reg [ao 1 (.box (.t 0)),
ao 2 (.mov (.c .nilfn))])
(.seq (.reg [ao 3 (.makeFunc (.func 71) [] [(.t 1)]),
mv 2 3])
.ret)) }
def w37 : WF := { nt := 5, results := [(2, none)], code :=
(.seq (.reg [ao 2 (.mov (.c (.list [] true)))])
(.seq (.reg [mv 3 0,
ao 4 (.call 14 [(.t 3)]),
mv 2 4])
.ret)) }
def w38 : WF := { nt := 30, results := [(6, none)], code :=
(.seq (.reg [ao 6 (.mov (.c (.list [] true)))])
(.seq (.reg [mv 10 0,
ao 11 (.call 14 [(.t 10)]),
mv 12 1,
ao 13 (.len (.t 12)),
ao 14 (.call 14 [(.t 13)]),
ao 15 (.buildSlice 1 2 [(.list [] true)] [(0, 1, (.t 11)), (1, 1, (.t 14))]),
ao 16 (.call 13 [(.t 15)]),
mv 7 16])
(.seq (.seq (.reg [mv 17 1,
ao 18 (.len (.t 17)),
ao 19 (.mov (.c (.int .i64 0)))])
(.block 0 (.loop (.seq (.reg [ao 20 (.bin .lss .no (.t 19) (.t 18))])
(.seq (.cond (.t 20)
.skip
(.exit 0))
(.seq (.block 1 (.seq (.reg [ao 21 (.indexSl 1 (.t 17) (.t 19)),
ao 22 (.load false 1 (.t 21)),
mv 9 22])
(.reg [mv 23 7,
mv 24 2,
mv 25 9,
ao 26 (.callv (.t 24) [(.t 25)]),
ao 27 (.append 1 1 none (.t 23) (.t 26)),
mv 7 27])))
(.reg [ao 28 (.bin .add .no (.t 19) (.c (.int .i64 1))),
mv 19 28])))))))
(.seq (.reg [mv 29 7,
mv 6 29])
.ret)))) }
def w39 : WF := { nt := 30, results := [(6, none)], code :=
(.seq (.reg [ao 6 (.mov (.c (.list [] true)))])
(.seq (.reg [mv 10 0,
ao 11 (.call 14 [(.t 10)]),
mv 12 1,
ao 13 (.len (.t 12)),
ao 14 (.call 14 [(.t 13)]),
ao 15 (.buildSlice 1 2 [(.list [] true)] [(0, 1, (.t 11)), (1, 1, (.t 14))]),
ao 16 (.call 13 [(.t 15)]),
mv 7 16])
(.seq (.seq (.reg [mv 17 1,
ao 18 (.len (.t 17)),
ao 19 (.mov (.c (.int .i64 0)))])
(.block 0 (.loop (.seq (.reg [ao 20 (.bin .lss .no (.t 19) (.t 18))])
(.seq (.cond (.t 20)
.skip
(.exit 0))
(.seq (.block 1 (.seq (.reg [ao 21 (.indexSl 2 (.t 17) (.t 19)),
ao 22 (.load true 2 (.t 21)),
ao 9 (.alloc [(.int .i64 0), (.bool false)]),
an (.store 2 (.t 9) (.t 22))])
(.reg [mv 23 7,
mv 24 2,
ao 25 (.load true 2 (.t 9)),
ao 26 (.callv (.t 24) [(.t 25)]),
ao 27 (.append 1 1 none (.t 23) (.t 26)),
mv 7 27])))
(.reg [ao 28 (.bin .add .no (.t 19) (.c (.int .i64 1))),
mv 19 28])))))))
(.seq (.reg [mv 29 7,
mv 6 29])
.ret)))) }
def w40 : WF := { nt := 10, results := [(2, none)], code :=
(.seq (.reg [ao 1 (.box (.t 0)),
ao 2 (.mov (.c (.list [] true)))])
(.seq (.calm [ao 3 (.fieldAddr 0 (.t 1)),
⟨(some 4), .load false 1 (.t 3), none, [0], false⟩,
ao 5 (.fieldAddr 1 (.t 1)),
⟨(some 6), .load false 1 (.t 5), none, [2], false⟩,
⟨(some 7), .call 42 [(.t 6), (.c (.int .i64 1))], none, [3], false⟩,
⟨(some 8), .pur (.lst 1 2 [(.int .i64 0)] [(0, 1), (1, 1)]) [(.t 4), (.t 7)], none, [1, 4], false⟩,
⟨(some 9), .call 41 [(.t 8)], none, [5, 4], false⟩,
⟨(some 2), .mov (.t 9), none, [6, 6, 0, 1, 2, 3, 4, 5, 6], false⟩])
.ret)) }
def w41 : WF := { nt := 18, results := [(2, none)], code :=
(.seq (.reg [ao 2 (.mov (.c (.list [] true)))])
(.seq (.reg [ao 3 (.mov (.c (.list [] true)))])
(.seq (.seq (.reg [mv 6 0,
ao 7 (.len (.t 6)),
ao 8 (.mov (.c (.int .i64 0)))])
(.block 0 (.loop (.seq (.reg [ao 9 (.bin .lss .no (.t 8) (.t 7))])
(.seq (.cond (.t 9)
.skip
(.exit 0))
(.seq (.block 1 (.seq (.reg [ao 10 (.indexSl 1 (.t 6) (.t 8)),
ao 11 (.load false 1 (.t 10)),
mv 5 11])
(.reg [mv 12 3,
mv 13 5,
ao 14 (.call 14 [(.t 13)]),
ao 15 (.append 1 1 none (.t 12) (.t 14)),
mv 3 15])))
(.reg [ao 16 (.bin .add .no (.t 8) (.c (.int .i64 1))),
mv 8 16])))))))
(.seq (.reg [mv 17 3,
mv 2 17])
.ret)))) }
def w42 : WF := { nt := 7, results := [(4, none)], code :=
(.seq (.reg [ao 4 (.mov (.c (.int .i64 0)))])
(.seq (.seq (.reg [mv 5 0])
(.cond (.t 5)
(.seq (.reg [mv 6 1,
mv 4 6])
.ret)
.skip))
(.seq (.reg [ao 4 (.mov (.c (.int .i64 0)))])
.ret))) }
def w43 : WF := { nt := 30, results := [(6, none)], code :=
(.seq (.reg [ao 6 (.mov (.c (.list [] true)))])
(.seq (.reg [mv 10 0,
ao 11 (.call 14 [(.t 10)]),
mv 12 1,
ao 13 (.len (.t 12)),
ao 14 (.call 14 [(.t 13)]),
ao 15 (.buildSlice 1 2 [(.list [] true)] [(0, 1, (.t 11)), (1, 1, (.t 14))]),
ao 16 (.call 13 [(.t 15)]),
mv 7 16])
(.seq (.seq (.reg [mv 17 1,
ao 18 (.len (.t 17)),
ao 19 (.mov (.c (.int .i64 0)))])
(.block 0 (.loop (.seq (.reg [ao 20 (.bin .lss .no (.t 19) (.t 18))])
(.seq (.cond (.t 20)
.skip
(.exit 0))
(.seq (.block 1 (.seq (.reg [ao 21 (.indexSl 4 (.t 17) (.t 19)),
ao 22 (.load true 4 (.t 21)),
ao 9 (.alloc [(.str ⟨#[]⟩), (.int .i64 0), (.bool false), (.bool false)]),
an (.store 4 (.t 9) (.t 22))])
(.reg [mv 23 7,
mv 24 2,
ao 25 (.load true 4 (.t 9)),
ao 26 (.callv (.t 24) [(.t 25)]),
ao 27 (.append 1 1 none (.t 23) (.t 26)),
mv 7 27])))
(.reg [ao 28 (.bin .add .no (.t 19) (.c (.int .i64 1))),
mv 19 28])))))))
(.seq (.reg [mv 29 7,
mv 6 29])
.ret)))) }
def w44 : WF := { nt := 20, results := [(2, none)], code :=
(.seq (.reg [ao 1 (.box (.t 0)),
ao 2 (.mov (.c (.list [] true)))])
(.seq (.calm [ao 3 (.fieldAddr 0 (.t 1)),
⟨(some 4), .load false 1 (.t 3), none, [0], false⟩,
⟨(some 5), .pur .s2b [(.t 4)], none, [1], false⟩,
⟨(some 6), .call 15 [(.t 5)], none, [2], false⟩,
ao 7 (.fieldAddr 1 (.t 1)),
⟨(some 8), .load false 1 (.t 7), none, [4], false⟩,
ao 9 (.fieldAddr 2 (.t 1)),
⟨(some 10), .load false 1 (.t 9), none, [6], false⟩,
⟨(some 11), .call 42 [(.t 10), (.c (.int .i64 1))], none, [7, 3], false⟩,
ao 12 (.fieldAddr 3 (.t 1)),
⟨(some 13), .load false 1 (.t 12), none, [9], false⟩,
⟨(some 14), .call 42 [(.t 13), (.c (.int .i64 2))], none, [10, 8], false⟩,
⟨(some 15), .bin .add .no (.t 11) (.t 14), none, [8, 11], false⟩,
⟨(some 16), .pur (.lst 1 2 [(.int .i64 0)] [(0, 1), (1, 1)]) [(.t 8), (.t 15)], none, [5, 12], false⟩,
⟨(some 17), .call 41 [(.t 16)], none, [13, 11], false⟩,
⟨(some 18), .pur (.lst 1 2 [(.list [] true)] [(0, 1), (1, 1)]) [(.t 6), (.t 17)], none, [3, 14], false⟩,
⟨(some 19), .call 13 [(.t 18)], none, [15, 14], true⟩,
⟨(some 2), .mov (.t 19), none, [16, 16, 0, 1, 2, 3, 4, 5, 6, 7, 8, 9, 10, 11, 12, 13, 14, 15, 16], false⟩])
.ret)) }
def w45 : WF := { nt := 30, results := [(6, none)], code :=
(.seq (.reg [ao 6 (.mov (.c (.list [] true)))])
(.seq (.reg [mv 10 0,
ao 11 (.call 14 [(.t 10)]),
mv 12 1,
ao 13 (.len (.t 12)),
ao 14 (.call 14 [(.t 13)]),
ao 15 (.buildSlice 1 2 [(.list [] true)] [(0, 1, (.t 11)), (1, 1, (.t 14))]),
ao 16 (.call 13 [(.t 15)]),
mv 7 16])
(.seq (.seq (.reg [mv 17 1,
ao 18 (.len (.t 17)),
ao 19 (.mov (.c (.int .i64 0)))])
(.block 0 (.loop (.seq (.reg [ao 20 (.bin .lss .no (.t 19) (.t 18))])
(.seq (.cond (.t 20)
.skip
(.exit 0))
(.seq (.block 1 (.seq (.reg [ao 21 (.indexSl 2 (.t 17) (.t 19)),
ao 22 (.load true 2 (.t 21)),
ao 9 (.alloc [(.int .i64 0), (.int .i64 0)]),
an (.store 2 (.t 9) (.t 22))])
(.reg [mv 23 7,
mv 24 2,
ao 25 (.load true 2 (.t 9)),
ao 26 (.callv (.t 24) [(.t 25)]),
ao 27 (.append 1 1 none (.t 23) (.t 26)),
mv 7 27])))
(.reg [ao 28 (.bin .add .no (.t 19) (.c (.int .i64 1))),
mv 19 28])))))))
(.seq (.reg [mv 29 7,
mv 6 29])
.ret)))) }
def w46 : WF := { nt := 9, results := [(2, none)], code :=
(.seq (.reg [ao 1 (.box (.t 0)),
ao 2 (.mov (.c (.list [] true)))])
(.seq (.reg [ao 3 (.fieldAddr 0 (.t 1)),
ao 4 (.load false 1 (.t 3)),
ao 5 (.fieldAddr 1 (.t 1)),
ao 6 (.load false 1 (.t 5)),
ao 7 (.buildSlice 1 2 [(.int .i64 0)] [(0, 1, (.t 4)), (1, 1, (.t 6))]),
ao 8 (.call 41 [(.t 7)]),
mv 2 8])
.ret)) }
def w47 : WF := { nt := 6, results := [(4, none)], code :=
(.seq (.reg [ao 2 (.box (.t 0)),
ao 3 (.box (.t 1)),
ao 4 (.mov (.c .nilfn))])
(.seq (.reg [ao 5 (.makeFunc (.func 73) [] [(.t 2), (.t 3)]),
mv 4 5])
.ret)) }
def w48 : WF := { nt := 30, results := [(4, none)], code :=
(.seq (.reg [ao 4 (.mov (.c (.int .i64 0)))])
(.seq (.reg [ao 5 (.mov (.c (.int .i64 0)))])
(.seq (.block 0 (.loop (.seq (.seq (.calm [mv 6 5,
mv 7 0,
⟨(some 8), .len (.t 7), none, [1], false⟩,
⟨(some 9), .bin .lss .no (.t 6) (.t 8), none, [0, 2], false⟩,
⟨(some 10), .mov (.t 9), none, [3], false⟩,
⟨(some 11), .mov (.t 5), some (10, true), [4], false⟩,
⟨(some 12), .mov (.t 1), some (10, true), [4], false⟩,
⟨(some 13), .len (.t 12), some (10, true), [6, 4], false⟩,
⟨(some 14), .bin .lss .no (.t 11) (.t 13), some (10, true), [5, 7, 4], false⟩,
⟨(some 15), .pick (.t 10) (.t 14) (.c (.bool false)), none, [4, 8], false⟩,
⟨(some 16), .mov (.t 15), none, [9, 4], false⟩,
⟨(some 17), .mov (.t 0), some (16, true), [10], false⟩,
⟨(some 18), .mov (.t 5), some (16, true), [10], false⟩,
⟨(some 19), .indexSl 1 (.t 17) (.t 18), some (16, true), [11, 12, 10], false⟩,
⟨(some 20), .load false 1 (.t 19), some (16, true), [13, 10], false⟩,
⟨(some 21), .mov (.t 1), some (16, true), [10], false⟩,
⟨(some 22), .mov (.t 5), some (16, true), [10], false⟩,
⟨(some 23), .indexSl 1 (.t 21) (.t 22), some (16, true), [15, 16, 10], false⟩,
⟨(some 24), .load false 1 (.t 23), some (16, true), [17, 10], false⟩,
⟨(some 25), .bin .eql .no (.t 20) (.t 24), some (16, true), [14, 18, 10], false⟩,
⟨(some 26), .pick (.t 16) (.t 25) (.c (.bool false)), none, [10, 19], false⟩])
(.cond (.t 26)
.skip
(.exit 0)))
(.block 1 (.reg [mv 27 5,
ao 28 (.bin .add .no (.t 27) (.c (.int .i64 1))),
mv 5 28])))))
(.seq (.reg [mv 29 5,
mv 4 29])
.ret)))) }
def w49 : WF := { nt := 30, results := [(4, none)], code :=
(.seq (.reg [ao 4 (.mov (.c (.int .i64 0)))])
(.seq (.reg [ao 5 (.mov (.c (.int .i64 0)))])
(.seq (.block 0 (.loop (.seq (.seq (.calm [mv 6 5,
mv 7 0,
⟨(some 8), .len (.t 7), none, [1], false⟩,
⟨(some 9), .bin .lss .no (.t 6) (.t 8), none, [0, 2], false⟩,
⟨(some 10), .mov (.t 9), none, [3], false⟩,
⟨(some 11), .mov (.t 5), some (10, true), [4], false⟩,
⟨(some 12), .mov (.t 1), some (10, true), [4], false⟩,
⟨(some 13), .len (.t 12), some (10, true), [6, 4], false⟩,
⟨(some 14), .bin .lss .no (.t 11) (.t 13), some (10, true), [5, 7, 4], false⟩,
⟨(some 15), .pick (.t 10) (.t 14) (.c (.bool false)), none, [4, 8], false⟩,
⟨(some 16), .mov (.t 15), none, [9, 4], false⟩,
⟨(some 17), .mov (.t 0), some (16, true), [10], false⟩,
⟨(some 18), .mov (.t 5), some (16, true), [10], false⟩,
⟨(some 19), .indexSl 2 (.t 17) (.t 18), some (16, true), [11, 12, 10], false⟩,
⟨(some 20), .load true 2 (.t 19), some (16, true), [13, 10], false⟩,
⟨(some 21), .mov (.t 1), some (16, true), [10], false⟩,
⟨(some 22), .mov (.t 5), some (16, true), [10], false⟩,
⟨(some 23), .indexSl 2 (.t 21) (.t 22), some (16, true), [15, 16, 10], false⟩,
⟨(some 24), .load true 2 (.t 23), some (16, true), [17, 10], false⟩,
⟨(some 25), .pur (.eqA true [(0, .int), (1, .bool)]) [(.t 20), (.t 24)], some (16, true), [14, 18, 10], false⟩,
⟨(some 26), .pick (.t 16) (.t 25) (.c (.bool false)), none, [10, 19], false⟩])
(.cond (.t 26)
.skip
(.exit 0)))
(.block 1 (.reg [mv 27 5,
ao 28 (.bin .add .no (.t 27) (.c (.int .i64 1))),
mv 5 28])))))
(.seq (.reg [mv 29 5,
mv 4 29])
.ret)))) }
def w50 : WF := { nt := 30, results := [(4, none)], code :=
(.seq (.reg [ao 4 (.mov (.c (.int .i64 0)))])
(.seq (.reg [ao 5 (.mov (.c (.int .i64 0)))])
(.seq (.block 0 (.loop (.seq (.seq (.calm [mv 6 5,
mv 7 0,
⟨(some 8), .len (.t 7), none, [1], false⟩,
⟨(some 9), .bin .lss .no (.t 6) (.t 8), none, [0, 2], false⟩,
⟨(some 10), .mov (.t 9), none, [3], false⟩,
⟨(some 11), .mov (.t 5), some (10, true), [4], false⟩,
⟨(some 12), .mov (.t 1), some (10, true), [4], false⟩,
⟨(some 13), .len (.t 12), some (10, true), [6, 4], false⟩,
⟨(some 14), .bin .lss .no (.t 11) (.t 13), some (10, true), [5, 7, 4], false⟩,
⟨(some 15), .pick (.t 10) (.t 14) (.c (.bool false)), none, [4, 8], false⟩,
⟨(some 16), .mov (.t 15), none, [9, 4], false⟩,
⟨(some 17), .mov (.t 0), some (16, true), [10], false⟩,
⟨(some 18), .mov (.t 5), some (16, true), [10], false⟩,
⟨(some 19), .indexSl 4 (.t 17) (.t 18), some (16, true), [11, 12, 10], false⟩,
⟨(some 20), .load true 4 (.t 19), some (16, true), [13, 10], false⟩,
⟨(some 21), .mov (.t 1), some (16, true), [10], false⟩,
⟨(some 22), .mov (.t 5), some (16, true), [10], false⟩,
⟨(some 23), .indexSl 4 (.t 21) (.t 22), some (16, true), [15, 16, 10], false⟩,
⟨(some 24), .load true 4 (.t 23), some (16, true), [17, 10], false⟩,
⟨(some 25), .pur (.eqA true [(0, .str), (1, .int), (2, .bool), (3, .bool)]) [(.t 20), (.t 24)], some (16, true), [14, 18, 10], false⟩,
⟨(some 26), .pick (.t 16) (.t 25) (.c (.bool false)), none, [10, 19], false⟩])
(.cond (.t 26)
.skip
(.exit 0)))
(.block 1 (.reg [mv 27 5,
ao 28 (.bin .add .no (.t 27) (.c (.int .i64 1))),
mv 5 28])))))
(.seq (.reg [mv 29 5,
mv 4 29])
.ret)))) }
def w51 : WF := { nt := 30, results := [(4, none)], code :=
(.seq (.reg [ao 4 (.mov (.c (.int .i64 0)))])
(.seq (.reg [ao 5 (.mov (.c (.int .i64 0)))])
(.seq (.block 0 (.loop (.seq (.seq (.calm [mv 6 5,
mv 7 0,
⟨(some 8), .len (.t 7), none, [1], false⟩,
⟨(some 9), .bin .lss .no (.t 6) (.t 8), none, [0, 2], false⟩,
⟨(some 10), .mov (.t 9), none, [3], false⟩,
⟨(some 11), .mov (.t 5), some (10, true), [4], false⟩,
⟨(some 12), .mov (.t 1), some (10, true), [4], false⟩,
⟨(some 13), .len (.t 12), some (10, true), [6, 4], false⟩,
⟨(some 14), .bin .lss .no (.t 11) (.t 13), some (10, true), [5, 7, 4], false⟩,
⟨(some 15), .pick (.t 10) (.t 14) (.c (.bool false)), none, [4, 8], false⟩,
⟨(some 16), .mov (.t 15), none, [9, 4], false⟩,
⟨(some 17), .mov (.t 0), some (16, true), [10], false⟩,
⟨(some 18), .mov (.t 5), some (16, true), [10], false⟩,
⟨(some 19), .indexSl 2 (.t 17) (.t 18), some (16, true), [11, 12, 10], false⟩,
⟨(some 20), .load true 2 (.t 19), some (16, true), [13, 10], false⟩,
⟨(some 21), .mov (.t 1), some (16, true), [10], false⟩,
⟨(some 22), .mov (.t 5), some (16, true), [10], false⟩,
⟨(some 23), .indexSl 2 (.t 21) (.t 22), some (16, true), [15, 16, 10], false⟩,
⟨(some 24), .load true 2 (.t 23), some (16, true), [17, 10], false⟩,
⟨(some 25), .pur (.eqA true [(0, .int), (1, .int)]) [(.t 20), (.t 24)], some (16, true), [14, 18, 10], false⟩,
⟨(some 26), .pick (.t 16) (.t 25) (.c (.bool false)), none, [10, 19], false⟩])
(.cond (.t 26)
.skip
(.exit 0)))
(.block 1 (.reg [mv 27 5,
ao 28 (.bin .add .no (.t 27) (.c (.int .i64 1))),
mv 5 28])))))
(.seq (.reg [mv 29 5,
mv 4 29])
.ret)))) }
def w52 : WF := { nt := 68, results := [(6, some (false, 1))], code := .skip, dfr := some ([(.reg [ao 3 (.box (.t 0)),
ao 6 (.alloc [(.int .i64 0)])]),
(.seq (.reg [ao 12 (.load false 1 (.t 3)),
ao 13 (.call 53 [(.t 12)]),
ao 14 (.bin .neq .no (.t 13) (.c (.int .i64 0)))])
(.cond (.t 14)
(.seq (.reg [an (.store 1 (.t 6) (.c (.int .i64 0)))])
.ret)
.skip)),
(.reg [ao 16 (.load false 1 (.t 3)),
ao 17 (.call 74 [(.t 16)]),
mv 15 17,
ao 18 (.extract 0 (.t 15)),
ao 19 (.extract 1 (.t 15)),
ao 8 (.alloc [(.int .i64 0)]),
mv 7 18,
an (.store 1 (.t 8) (.t 19))])],
[ao 20 (.makeFunc (.func 75) [] [(.t 8), (.t 3), (.t 6)])],
(.t 20),
(.seq (.reg [ao 9 (.mov (.c (.int .u64 0)))])
(.seq (.seq (.reg [ao 21 (.load false 1 (.t 3)),
ao 22 (.nilCheck (.t 21)),
ao 23 (.fieldAddr 0 (.t 22)),
ao 24 (.load false 1 (.t 23)),
mv 25 7,
ao 26 (.slice (.sl 1) (.t 24) none (some (.t 25)) none),
ao 27 (.len (.t 26)),
ao 28 (.mov (.c (.int .i64 0)))])
(.block 0 (.loop (.seq (.reg [ao 29 (.bin .lss .no (.t 28) (.t 27))])
(.seq (.cond (.t 29)
.skip
(.exit 0))
(.seq (.block 1 (.seq (.reg [ao 30 (.indexSl 1 (.t 26) (.t 28)),
ao 31 (.load false 1 (.t 30)),
mv 11 31])
(.reg [mv 32 9,
ao 33 (.bin .shl .no (.t 32) (.c (.int .u64 7))),
mv 34 11,
ao 35 (.bin .rem .no (.t 34) (.c (.int .u8 128))),
ao 36 (.conv (.int .u64) (.t 35)),
ao 37 (.bin .or .no (.t 33) (.t 36)),
mv 9 37])))
(.reg [ao 38 (.bin .add .no (.t 28) (.c (.int .i64 1))),
mv 28 38])))))))
(.seq (.reg [mv 39 9,
ao 40 (.bin .shr .no (.t 39) (.c (.int .u64 1))),
mv 41 9,
ao 42 (.bin .and .no (.t 41) (.c (.int .u64 1))),
ao 43 (.un .neg (.t 42)),
ao 44 (.bin .xor .no (.t 40) (.t 43)),
ao 45 (.conv (.int .i64) (.t 44)),
an (.store 1 (.t 6) (.t 45))])
(.seq (.seq (.reg [ao 46 (.load false 1 (.t 8)),
ao 47 (.bin .eql .no (.t 46) (.c (.int .i64 0))),
mv 48 47,
ag 49 (.load false 1 (.t 6)) 48 true,
ag 50 (.mov (.t 1)) 48 true,
ag 51 (.bin .lss .no (.t 49) (.t 50)) 48 true,
ag 52 (.mov (.t 51)) 48 true,
ag 53 (.load false 1 (.t 6)) 52 false,
ag 54 (.mov (.t 2)) 52 false,
ag 55 (.bin .gtr .no (.t 53) (.t 54)) 52 false,
ag 56 (.pick (.t 52) (.c (.bool true)) (.t 55)) 48 true,
ao 57 (.pick (.t 48) (.t 56) (.c (.bool false)))])
(.cond (.t 57)
(.reg [an (.store 1 (.t 8) (.c (.int .i64 2)))])
.skip))
(.seq (.calm [ao 58 (.load false 1 (.t 3)),
ao 59 (.load false 1 (.t 3)),
⟨(some 60), .nilCheck (.t 59), none, [1], false⟩,
⟨(some 61), .fieldAddr 0 (.t 60), none, [2], false⟩,
⟨(some 62), .load false 1 (.t 61), none, [3], false⟩,
mv 63 7,
⟨(some 64), .slice (.sl 1) (.t 62) (some (.t 63)) none none, none, [4, 5], false⟩,
⟨(some 65), .nilCheck (.t 58), none, [0, 0, 1, 2, 3, 4, 5, 6], false⟩,
⟨(some 66), .fieldAddr 0 (.t 65), none, [7, 0, 1, 2, 3, 4, 5, 6], false⟩,
⟨none, .store 1 (.t 66) (.t 64), none, [8, 6, 0, 1, 2, 3, 4, 5, 6], true⟩])
(.seq (.reg [ao 67 (.load false 1 (.t 6)),
an (.store 1 (.t 6) (.t 67))])
.ret))))))) }
def w53 : WF := { nt := 9, results := [(2, none)], code :=
(.seq (.reg [ao 2 (.mov (.c (.int .i64 0)))])
(.seq (.seq (.reg [mv 3 0,
ao 4 (.bin .eql .ptr (.t 3) (.c .nilp))])
(.cond (.t 4)
(.seq (.reg [ao 2 (.mov (.c (.int .i64 1)))])
.ret)
.skip))
(.seq (.reg [mv 5 0,
ao 6 (.nilCheck (.t 5)),
ao 7 (.fieldAddr 1 (.t 6)),
ao 8 (.load false 1 (.t 7)),
mv 2 8])
.ret))) }
def w54 : WF := { nt := 61, results := [(4, none), (5, none)], code :=
(.seq (.reg [ao 4 (.mov (.c (.list [] true))),
ao 5 (.mov (.c (.int .i64 0)))])
(.seq (.seq (.reg [mv 11 1,
ao 12 (.bin .lss .no (.t 11) (.c (.int .i64 0)))])
(.cond (.t 12)
(.seq (.reg [ao 4 (.mov (.c (.list [] true))),
ao 5 (.mov (.c (.int .i64 1)))])
.ret)
.skip))
(.seq (.reg [ao 6 (.alloc [(.list [] true)])])
(.seq (.reg [ao 13 (.makeFunc (.func 76) [] [(.t 6)]),
mv 7 13])
(.seq (.block 0 (.loop (.seq (.seq (.reg [ao 14 (.load false 1 (.t 6)),
ao 15 (.len (.t 14)),
mv 16 1,
ao 17 (.bin .lss .no (.t 15) (.t 16))])
(.cond (.t 17)
.skip
(.exit 0)))
(.block 1 (.seq (.reg [mv 19 0,
mv 20 1,
ao 21 (.load false 1 (.t 6)),
ao 22 (.len (.t 21)),
ao 23 (.bin .sub .no (.t 20) (.t 22)),
ao 24 (.call 77 [(.t 19), (.t 23)]),
mv 18 24,
ao 25 (.extract 0 (.t 18)),
ao 26 (.extract 1 (.t 18)),
ao 27 (.extract 2 (.t 18)),
mv 8 25,
mv 9 26,
mv 10 27])
(.seq (.block 2 (.seq (.reg [mv 29 10,
ao 30 (.bin .neq .no (.t 29) (.c (.int .i64 0))),
mv 28 30])
(.cond (.t 28)
(.seq (.reg [mv 31 10,
ao 4 (.mov (.c (.list [] true))),
mv 5 31])
.ret)
(.seq (.reg [mv 33 9,
mv 34 0,
ao 35 (.len (.t 34)),
ao 36 (.bin .eql .no (.t 33) (.t 35)),
mv 32 36])
(.cond (.t 32)
(.seq (.reg [ao 4 (.mov (.c (.list [] true))),
ao 5 (.mov (.c (.int .i64 3)))])
.ret)
(.seq (.reg [mv 38 7,
mv 39 0,
mv 40 9,
ao 41 (.indexSl 1 (.t 39) (.t 40)),
ao 42 (.load false 1 (.t 41)),
ao 43 (.callv (.t 38) [(.t 42)]),
mv 37 43])
(.cond (.t 37)
(.seq (.reg [ao 4 (.mov (.c (.list [] true))),
ao 5 (.mov (.c (.int .i64 2)))])
.ret)
.skip)))))))
(.seq (.calm [ao 44 (.load false 1 (.t 6)),
mv 45 0,
mv 46 9,
mv 47 9,
⟨(some 48), .bin .add .no (.t 47) (.c (.int .i64 1)), none, [3], false⟩,
⟨(some 49), .slice (.sl 1) (.t 45) (some (.t 46)) (some (.t 48)) none, none, [1, 2, 4], false⟩,
mv 50 8,
⟨(some 51), .call 78 [(.t 49), (.t 50)], none, [5, 6], false⟩,
⟨(some 52), .append 1 1 none (.t 44) (.t 51), none, [0, 7, 7], true⟩,
⟨none, .store 1 (.t 6) (.t 52), none, [8, 8, 0, 1, 2, 3, 4, 5, 6, 7, 8], true⟩])
(.reg [mv 53 0,
mv 54 9,
ao 55 (.bin .add .no (.t 54) (.c (.int .i64 1))),
ao 56 (.slice (.sl 1) (.t 53) (some (.t 55)) none none),
mv 0 56]))))))))
(.seq (.seq (.reg [mv 57 0,
ao 58 (.len (.t 57)),
ao 59 (.bin .gtr .no (.t 58) (.c (.int .i64 0)))])
(.cond (.t 59)
(.seq (.reg [ao 4 (.mov (.c (.list [] true))),
ao 5 (.mov (.c (.int .i64 2)))])
.ret)
.skip))
(.seq (.reg [ao 60 (.load false 1 (.t 6)),
mv 4 60,
ao 5 (.mov (.c (.int .i64 0)))])
.ret))))))) }
def w55 : WF := { nt := 5, results := [], code :=
(.seq (.reg [mv 2 0,
ao 3 (.un .not (.t 2))])
(.cond (.t 3)
(.reg [ao 4 (.call 24 [(.c (.int .i64 2))])])
.skip)) }
def w56 : WF := { nt := 4, results := [(1, none)], code :=
(.seq (.reg [ao 1 (.mov (.c (.int .i64 0)))])
(.seq (.reg [ao 2 (.load false 1 (.t 0)),
ao 3 (.call 52 [(.t 2), (.c (.int .i64 (-9223372036854775808))), (.c (.int .i64 9223372036854775807))]),
mv 1 3])
.ret)) }
def w57 : WF := { nt := 20, results := [(4, none)], code :=
(.seq (.reg [ao 4 (.mov (.c (.list [] true)))])
(.seq (.reg [ao 5 (.mov (.c (.list [] true)))])
(.seq (.seq (.reg [mv 6 0,
ao 7 (.call 52 [(.t 6), (.c (.int .i64 0)), (.c (.int .i64 65536))]),
ao 8 (.mov (.c (.int .i64 0)))])
(.block 0 (.loop (.seq (.reg [ao 9 (.bin .lss .no (.t 8) (.t 7))])
(.seq (.cond (.t 9)
.skip
(.exit 0))
(.seq (.block 1 (.seq (.seq (.reg [mv 10 0,
ao 11 (.call 53 [(.t 10)]),
ao 12 (.bin .neq .no (.t 11) (.c (.int .i64 0)))])
(.cond (.t 12)
(.seq (.reg [ao 4 (.mov (.c (.list [] true)))])
.ret)
.skip))
(.reg [mv 13 5,
mv 14 1,
ao 15 (.callv (.t 14) []),
ao 16 (.buildSlice 2 1 [(.int .i64 0), (.list [] true)] [(0, 2, (.t 15))]),
ao 17 (.append 2 32 none (.t 13) (.t 16)),
mv 5 17])))
(.reg [ao 18 (.bin .add .no (.t 8) (.c (.int .i64 1))),
mv 8 18])))))))
(.seq (.reg [mv 19 5,
mv 4 19])
.ret)))) }
def w58 : WF := { nt := 10, results := [(2, some (true, 2))], code :=
(.seq (.reg [ao 2 (.alloc [(.int .i64 0), (.list [] true)])])
(.seq (.reg [ao 4 (.load false 1 (.t 0)),
ao 5 (.callv (.t 4) []),
mv 3 5])
(.seq (.reg [mv 6 3,
ao 7 (.load false 1 (.t 1)),
ao 8 (.call 23 [(.t 7), (.c (.int .i64 65536))]),
ao 9 (.build [(.int .i64 0), (.list [] true)] [(0, 1, (.t 6)), (1, 1, (.t 8))]),
an (.store 2 (.t 2) (.t 9))])
.ret))) }
def w59 : WF := { nt := 20, results := [(4, none)], code :=
(.seq (.reg [ao 4 (.mov (.c (.list [] true)))])
(.seq (.reg [ao 5 (.mov (.c (.list [] true)))])
(.seq (.seq (.reg [mv 6 0,
ao 7 (.call 52 [(.t 6), (.c (.int .i64 0)), (.c (.int .i64 65536))]),
ao 8 (.mov (.c (.int .i64 0)))])
(.block 0 (.loop (.seq (.reg [ao 9 (.bin .lss .no (.t 8) (.t 7))])
(.seq (.cond (.t 9)
.skip
(.exit 0))
(.seq (.block 1 (.seq (.seq (.reg [mv 10 0,
ao 11 (.call 53 [(.t 10)]),
ao 12 (.bin .neq .no (.t 11) (.c (.int .i64 0)))])
(.cond (.t 12)
(.seq (.reg [ao 4 (.mov (.c (.list [] true)))])
.ret)
.skip))
(.reg [mv 13 5,
mv 14 1,
ao 15 (.callv (.t 14) []),
ao 16 (.buildSlice 1 1 [(.int .i64 0)] [(0, 1, (.t 15))]),
ao 17 (.append 1 8 none (.t 13) (.t 16)),
mv 5 17])))
(.reg [ao 18 (.bin .add .no (.t 8) (.c (.int .i64 1))),
mv 8 18])))))))
(.seq (.reg [mv 19 5,
mv 4 19])
.ret)))) }
def w60 : WF := { nt := 20, results := [(4, none)], code :=
(.seq (.reg [ao 4 (.mov (.c (.list [] true)))])
(.seq (.reg [ao 5 (.mov (.c (.list [] true)))])
(.seq (.seq (.reg [mv 6 0,
ao 7 (.call 52 [(.t 6), (.c (.int .i64 0)), (.c (.int .i64 65536))]),
ao 8 (.mov (.c (.int .i64 0)))])
(.block 0 (.loop (.seq (.reg [ao 9 (.bin .lss .no (.t 8) (.t 7))])
(.seq (.cond (.t 9)
.skip
(.exit 0))
(.seq (.block 1 (.seq (.seq (.reg [mv 10 0,
ao 11 (.call 53 [(.t 10)]),
ao 12 (.bin .neq .no (.t 11) (.c (.int .i64 0)))])
(.cond (.t 12)
(.seq (.reg [ao 4 (.mov (.c (.list [] true)))])
.ret)
.skip))
(.reg [mv 13 5,
mv 14 1,
ao 15 (.callv (.t 14) []),
ao 16 (.buildSlice 2 1 [(.int .i64 0), (.bool false)] [(0, 2, (.t 15))]),
ao 17 (.append 2 16 none (.t 13) (.t 16)),
mv 5 17])))
(.reg [ao 18 (.bin .add .no (.t 8) (.c (.int .i64 1))),
mv 8 18])))))))
(.seq (.reg [mv 19 5,
mv 4 19])
.ret)))) }
def w61 : WF := { nt := 11, results := [(2, some (true, 2))], code :=
(.seq (.reg [ao 2 (.alloc [(.int .i64 0), (.bool false)])])
(.seq (.reg [ao 4 (.load false 1 (.t 0)),
ao 5 (.callv (.t 4) []),
mv 3 5])
(.seq (.reg [mv 6 3,
ao 7 (.load false 1 (.t 1)),
ao 8 (.call 52 [(.t 7), (.c (.int .i64 0)), (.c (.int .i64 1))]),
ao 9 (.bin .eql .no (.t 8) (.c (.int .i64 1))),
ao 10 (.build [(.int .i64 0), (.bool false)] [(0, 1, (.t 6)), (1, 1, (.t 9))]),
an (.store 2 (.t 2) (.t 10))])
.ret))) }
def w62 : WF := { nt := 20, results := [(4, none)], code :=
(.seq (.reg [ao 4 (.mov (.c (.list [] true)))])
(.seq (.reg [ao 5 (.mov (.c (.list [] true)))])
(.seq (.seq (.reg [mv 6 0,
ao 7 (.call 52 [(.t 6), (.c (.int .i64 0)), (.c (.int .i64 65536))]),
ao 8 (.mov (.c (.int .i64 0)))])
(.block 0 (.loop (.seq (.reg [ao 9 (.bin .lss .no (.t 8) (.t 7))])
(.seq (.cond (.t 9)
.skip
(.exit 0))
(.seq (.block 1 (.seq (.seq (.reg [mv 10 0,
ao 11 (.call 53 [(.t 10)]),
ao 12 (.bin .neq .no (.t 11) (.c (.int .i64 0)))])
(.cond (.t 12)
(.seq (.reg [ao 4 (.mov (.c (.list [] true)))])
.ret)
.skip))
(.reg [mv 13 5,
mv 14 1,
ao 15 (.callv (.t 14) []),
ao 16 (.buildSlice 4 1 [(.str ⟨#[]⟩), (.int .i64 0), (.bool false), (.bool false)] [(0, 4, (.t 15))]),
ao 17 (.append 4 32 none (.t 13) (.t 16)),
mv 5 17])))
(.reg [ao 18 (.bin .add .no (.t 8) (.c (.int .i64 1))),
mv 8 18])))))))
(.seq (.reg [mv 19 5,
mv 4 19])
.ret)))) }
def w63 : WF := { nt := 21, results := [(2, some (true, 4))], code :=
(.seq (.reg [ao 2 (.alloc [(.str ⟨#[]⟩), (.int .i64 0), (.bool false), (.bool false)])])
(.seq (.reg [ao 6 (.load false 1 (.t 0)),
ao 7 (.call 23 [(.t 6), (.c (.int .i64 65536))]),
ao 8 (.conv .b2s (.t 7)),
mv 3 8])
(.seq (.draw [ao 9 (.load false 1 (.t 1)),
⟨(some 10), .callv (.t 9) [], none, [0], true⟩,
ao 11 (.load false 1 (.t 0)),
⟨(some 12), .call 52 [(.t 11), (.c (.int .i64 0)), (.c (.int .i64 3))], none, [2, 1], true⟩,
⟨(some 4), .mov (.t 10), none, [1, 3, 0, 1], false⟩,
⟨(some 5), .mov (.t 12), none, [3, 4, 0, 1, 2, 3, 4], false⟩])
(.seq (.reg [mv 13 3,
mv 14 4,
mv 15 5,
ao 16 (.bin .rem .no (.t 15) (.c (.int .i64 2))),
ao 17 (.bin .eql .no (.t 16) (.c (.int .i64 1))),
mv 18 5,
ao 19 (.bin .geq .no (.t 18) (.c (.int .i64 2))),
ao 20 (.build [(.str ⟨#[]⟩), (.int .i64 0), (.bool false), (.bool false)] [(0, 1, (.t 13)), (1, 1, (.t 14)), (2, 1, (.t 17)), (3, 1, (.t 19))]),
an (.store 4 (.t 2) (.t 20))])
.ret)))) }
def w64 : WF := { nt := 20, results := [(4, none)], code :=
(.seq (.reg [ao 4 (.mov (.c (.list [] true)))])
(.seq (.reg [ao 5 (.mov (.c (.list [] true)))])
(.seq (.seq (.reg [mv 6 0,
ao 7 (.call 52 [(.t 6), (.c (.int .i64 0)), (.c (.int .i64 65536))]),
ao 8 (.mov (.c (.int .i64 0)))])
(.block 0 (.loop (.seq (.reg [ao 9 (.bin .lss .no (.t 8) (.t 7))])
(.seq (.cond (.t 9)
.skip
(.exit 0))
(.seq (.block 1 (.seq (.seq (.reg [mv 10 0,
ao 11 (.call 53 [(.t 10)]),
ao 12 (.bin .neq .no (.t 11) (.c (.int .i64 0)))])
(.cond (.t 12)
(.seq (.reg [ao 4 (.mov (.c (.list [] true)))])
.ret)
.skip))
(.reg [mv 13 5,
mv 14 1,
ao 15 (.callv (.t 14) []),
ao 16 (.buildSlice 2 1 [(.int .i64 0), (.int .i64 0)] [(0, 2, (.t 15))]),
ao 17 (.append 2 16 none (.t 13) (.t 16)),
mv 5 17])))
(.reg [ao 18 (.bin .add .no (.t 8) (.c (.int .i64 1))),
mv 8 18])))))))
(.seq (.reg [mv 19 5,
mv 4 19])
.ret)))) }
def w65 : WF := { nt := 9, results := [(1, some (true, 2))], code :=
(.seq (.reg [ao 1 (.alloc [(.int .i64 0), (.int .i64 0)])])
(.seq (.reg [ao 3 (.load false 1 (.t 0)),
ao 4 (.callv (.t 3) []),
mv 2 4])
(.seq (.reg [mv 5 2,
ao 6 (.load false 1 (.t 0)),
ao 7 (.callv (.t 6) []),
ao 8 (.build [(.int .i64 0), (.int .i64 0)] [(0, 1, (.t 5)), (1, 1, (.t 7))]),
an (.store 2 (.t 1) (.t 8))])
.ret))) }
def w66 : WF := { nt := 22, results := [(6, none), (7, none)], code :=
(.seq (.reg [ao 6 (.mov (.c (.list [] true))),
ao 7 (.mov (.c (.bool false)))])
(.seq (.seq (.reg [mv 8 1,
ao 9 (.bin .lss .no (.t 8) (.c (.int .i64 0))),
mv 10 9,
ag 11 (.mov (.t 1)) 10 false,
ag 12 (.mov (.t 0)) 10 false,
ag 13 (.len (.t 12)) 10 false,
ag 14 (.bin .gtr .no (.t 11) (.t 13)) 10 false,
ao 15 (.pick (.t 10) (.c (.bool true)) (.t 14))])
(.cond (.t 15)
(.seq (.reg [ao 6 (.mov (.c (.list [] true))),
ao 7 (.mov (.c (.bool false)))])
.ret)
.skip))
(.seq (.reg [mv 16 0,
mv 17 1,
ao 18 (.slice (.sl 1) (.t 16) none (some (.t 17)) none),
mv 19 2,
ao 20 (.buildSlice 1 2 [(.list [] true)] [(0, 1, (.t 18)), (1, 1, (.t 19))]),
ao 21 (.call 79 [(.t 20)]),
mv 6 21,
ao 7 (.mov (.c (.bool true)))])
.ret))) }
def w67 : WF := { nt := 22, results := [(6, none), (7, none)], code :=
(.seq (.reg [ao 6 (.mov (.c (.list [] true))),
ao 7 (.mov (.c (.bool false)))])
(.seq (.seq (.reg [mv 8 1,
ao 9 (.bin .lss .no (.t 8) (.c (.int .i64 0))),
mv 10 9,
ag 11 (.mov (.t 1)) 10 false,
ag 12 (.mov (.t 0)) 10 false,
ag 13 (.len (.t 12)) 10 false,
ag 14 (.bin .gtr .no (.t 11) (.t 13)) 10 false,
ao 15 (.pick (.t 10) (.c (.bool true)) (.t 14))])
(.cond (.t 15)
(.seq (.reg [ao 6 (.mov (.c (.list [] true))),
ao 7 (.mov (.c (.bool false)))])
.ret)
.skip))
(.seq (.reg [mv 16 0,
mv 17 1,
ao 18 (.slice (.sl 2) (.t 16) none (some (.t 17)) none),
mv 19 2,
ao 20 (.buildSlice 1 2 [(.list [] true)] [(0, 1, (.t 18)), (1, 1, (.t 19))]),
ao 21 (.call 80 [(.t 20)]),
mv 6 21,
ao 7 (.mov (.c (.bool true)))])
.ret))) }
def w68 : WF := { nt := 22, results := [(6, none), (7, none)], code :=
(.seq (.reg [ao 6 (.mov (.c (.list [] true))),
ao 7 (.mov (.c (.bool false)))])
(.seq (.seq (.reg [mv 8 1,
ao 9 (.bin .lss .no (.t 8) (.c (.int .i64 0))),
mv 10 9,
ag 11 (.mov (.t 1)) 10 false,
ag 12 (.mov (.t 0)) 10 false,
ag 13 (.len (.t 12)) 10 false,
ag 14 (.bin .gtr .no (.t 11) (.t 13)) 10 false,
ao 15 (.pick (.t 10) (.c (.bool true)) (.t 14))])
(.cond (.t 15)
(.seq (.reg [ao 6 (.mov (.c (.list [] true))),
ao 7 (.mov (.c (.bool false)))])
.ret)
.skip))
(.seq (.reg [mv 16 0,
mv 17 1,
ao 18 (.slice (.sl 4) (.t 16) none (some (.t 17)) none),
mv 19 2,
ao 20 (.buildSlice 1 2 [(.list [] true)] [(0, 1, (.t 18)), (1, 1, (.t 19))]),
ao 21 (.call 81 [(.t 20)]),
mv 6 21,
ao 7 (.mov (.c (.bool true)))])
.ret))) }
def w69 : WF := { nt := 22, results := [(6, none), (7, none)], code :=
(.seq (.reg [ao 6 (.mov (.c (.list [] true))),
ao 7 (.mov (.c (.bool false)))])
(.seq (.seq (.reg [mv 8 1,
ao 9 (.bin .lss .no (.t 8) (.c (.int .i64 0))),
mv 10 9,
ag 11 (.mov (.t 1)) 10 false,
ag 12 (.mov (.t 0)) 10 false,
ag 13 (.len (.t 12)) 10 false,
ag 14 (.bin .gtr .no (.t 11) (.t 13)) 10 false,
ao 15 (.pick (.t 10) (.c (.bool true)) (.t 14))])
(.cond (.t 15)
(.seq (.reg [ao 6 (.mov (.c (.list [] true))),
ao 7 (.mov (.c (.bool false)))])
.ret)
.skip))
(.seq (.reg [mv 16 0,
mv 17 1,
ao 18 (.slice (.sl 2) (.t 16) none (some (.t 17)) none),
mv 19 2,
ao 20 (.buildSlice 1 2 [(.list [] true)] [(0, 1, (.t 18)), (1, 1, (.t 19))]),
ao 21 (.call 82 [(.t 20)]),
mv 6 21,
ao 7 (.mov (.c (.bool true)))])
.ret))) }
def w70 : WF := { nt := 9, results := [(4, none)], code :=
(.seq (.reg [ao 4 (.mov (.c (.bool false)))])
(.seq (.reg [mv 5 0,
mv 6 1,
ao 7 (.call 83 [(.t 5), (.t 6)]),
ao 8 (.bin .geq .no (.t 7) (.c (.int .i64 0))),
mv 4 8])
.ret)) }
def w71 : WF := { nt := 43, results := [], code :=
(.block 0 (.loop (.seq (.seq (.reg [ao 4 (.load false 1 (.t 1)),
ao 5 (.len (.t 4)),
ao 6 (.bin .gtr .no (.t 5) (.c (.int .i64 0)))])
(.cond (.t 6)
.skip
(.exit 0)))
(.block 1 (.seq (.calm [ao 7 (.load false 1 (.t 1)),
⟨(some 8), .len (.t 7), none, [0], false⟩,
ao 9 (.load false 1 (.t 1)),
⟨(some 10), .call 72 [(.t 9), (.c (.str ⟨#[0]⟩))], none, [2], false⟩,
⟨(some 11), .len (.t 10), none, [3], false⟩,
⟨(some 12), .bin .sub .no (.t 8) (.t 11), none, [1, 4], false⟩,
⟨(some 3), .mov (.t 12), none, [5, 3, 0, 1, 2, 3, 4, 5], false⟩])
(.seq (.seq (.reg [ao 13 (.load false 1 (.t 1)),
ao 14 (.indexSl 1 (.t 13) (.c (.int .i64 0))),
ao 15 (.load false 1 (.t 14)),
ao 16 (.bin .neq .no (.t 15) (.c (.int .u8 0)))])
(.cond (.t 16)
(.seq (.reg [ao 3 (.mov (.c (.int .i64 1)))])
(.block 2 (.loop (.seq (.seq (.calm [mv 17 3,
ao 18 (.load false 1 (.t 1)),
⟨(some 19), .len (.t 18), none, [1], false⟩,
⟨(some 20), .bin .lss .no (.t 17) (.t 19), none, [0, 2], false⟩,
⟨(some 21), .mov (.t 20), none, [3], false⟩,
⟨(some 22), .load false 1 (.t 1), some (21, true), [4], false⟩,
⟨(some 23), .mov (.t 3), some (21, true), [4], false⟩,
⟨(some 24), .indexSl 1 (.t 22) (.t 23), some (21, true), [5, 6, 4], false⟩,
⟨(some 25), .load false 1 (.t 24), some (21, true), [7, 4], false⟩,
⟨(some 26), .load false 1 (.t 1), some (21, true), [4], false⟩,
⟨(some 27), .indexSl 1 (.t 26) (.c (.int .i64 0)), some (21, true), [9, 4], false⟩,
⟨(some 28), .load false 1 (.t 27), some (21, true), [10, 4], false⟩,
⟨(some 29), .bin .eql .no (.t 25) (.t 28), some (21, true), [8, 11, 4], false⟩,
⟨(some 30), .pick (.t 21) (.t 29) (.c (.bool false)), none, [4, 12], false⟩])
(.cond (.t 30)
.skip
(.exit 2)))
(.block 3 (.reg [mv 31 3,
ao 32 (.bin .add .no (.t 31) (.c (.int .i64 1))),
mv 3 32]))))))
.skip))
(.seq (.seq (.reg [mv 33 0,
mv 34 3,
ao 35 (.load false 1 (.t 1)),
ao 36 (.indexSl 1 (.t 35) (.c (.int .i64 0))),
ao 37 (.load false 1 (.t 36)),
ao 38 (.callv (.t 33) [(.t 34), (.t 37)]),
ao 39 (.un .not (.t 38))])
(.cond (.t 39)
.ret
.skip))
(.reg [ao 40 (.load false 1 (.t 1)),
mv 41 3,
ao 42 (.slice (.sl 1) (.t 40) (some (.t 41)) none none),
an (.store 1 (.t 1) (.t 42))])))))))) }
def w72 : WF := { nt := 36, results := [(4, none)], code :=
(.seq (.reg [ao 4 (.mov (.c (.list [] true)))])
(.seq (.seq (.reg [mv 7 0,
ao 8 (.len (.t 7)),
ao 9 (.bin .eql .no (.t 8) (.c (.int .i64 0)))])
(.cond (.t 9)
(.seq (.reg [ao 4 (.mov (.c (.list [] true)))])
.ret)
.skip))
(.seq (.seq (.reg [mv 10 1,
ao 11 (.bin .eql .no (.t 10) (.c (.str ⟨#[]⟩)))])
(.cond (.t 11)
(.seq (.reg [mv 12 0,
mv 4 12])
.ret)
.skip))
(.seq (.seq (.reg [mv 13 1,
ao 14 (.lenS (.t 13)),
ao 15 (.bin .eql .no (.t 14) (.c (.int .i64 1))),
mv 16 15,
ag 17 (.mov (.t 1)) 16 true,
ag 18 (.indexStr (.t 17) (.c (.int .i64 0))) 16 true,
ag 19 (.bin .lss .no (.t 18) (.c (.int .u8 128))) 16 true,
ao 20 (.pick (.t 16) (.t 19) (.c (.bool false)))])
(.cond (.t 20)
(.seq (.reg [mv 21 0,
mv 22 1,
ao 23 (.indexStr (.t 22) (.c (.int .i64 0))),
ao 24 (.call 84 [(.t 21), (.t 23)]),
mv 4 24])
.ret)
.skip))
(.seq (.seq (.reg [mv 26 1,
ao 27 (.call 85 [(.t 26)]),
mv 25 27,
ao 28 (.extract 0 (.t 25)),
ao 29 (.extract 1 (.t 25)),
ao 5 (.alloc [(.bool false), (.bool false), (.bool false), (.bool false), (.bool false), (.bool false), (.bool false), (.bool false), (.bool false), (.bool false), (.bool false), (.bool false), (.bool false), (.bool false), (.bool false), (.bool false), (.bool false), (.bool false), (.bool false), (.bool false), (.bool false), (.bool false), (.bool false), (.bool false), (.bool false), (.bool false), (.bool false), (.bool false), (.bool false), (.bool false), (.bool false), (.bool false), (.bool false), (.bool false), (.bool false), (.bool false), (.bool false), (.bool false), (.bool false), (.bool false), (.bool false), (.bool false), (.bool false), (.bool false), (.bool false), (.bool false), (.bool false), (.bool false), (.bool false), (.bool false), (.bool false), (.bool false), (.bool false), (.bool false), (.bool false), (.bool false), (.bool false), (.bool false), (.bool false), (.bool false), (.bool false), (.bool false), (.bool false), (.bool false), (.bool false), (.bool false), (.bool false), (.bool false), (.bool false), (.bool false), (.bool false), (.bool false), (.bool false), (.bool false), (.bool false), (.bool false), (.bool false), (.bool false), (.bool false), (.bool false), (.bool false), (.bool false), (.bool false), (.bool false), (.bool false), (.bool false), (.bool false), (.bool false), (.bool false), (.bool false), (.bool false), (.bool false), (.bool false), (.bool false), (.bool false), (.bool false), (.bool false), (.bool false), (.bool false), (.bool false), (.bool false), (.bool false), (.bool false), (.bool false), (.bool false), (.bool false), (.bool false), (.bool false), (.bool false), (.bool false), (.bool false), (.bool false), (.bool false), (.bool false), (.bool false), (.bool false), (.bool false), (.bool false), (.bool false), (.bool false), (.bool false), (.bool false), (.bool false), (.bool false), (.bool false), (.bool false), (.bool false), (.bool false), (.bool false), (.bool false), (.bool false), (.bool false), (.bool false), (.bool false), (.bool false), (.bool false), (.bool false), (.bool false), (.bool false), (.bool false), (.bool false), (.bool false), (.bool false), (.bool false), (.bool false), (.bool false), (.bool false), (.bool false), (.bool false), (.bool false), (.bool false), (.bool false), (.bool false), (.bool false), (.bool false), (.bool false), (.bool false), (.bool false), (.bool false), (.bool false), (.bool false), (.bool false), (.bool false), (.bool false), (.bool false), (.bool false), (.bool false), (.bool false), (.bool false), (.bool false), (.bool false), (.bool false), (.bool false), (.bool false), (.bool false), (.bool false), (.bool false), (.bool false), (.bool false), (.bool false), (.bool false), (.bool false), (.bool false), (.bool false), (.bool false), (.bool false), (.bool false), (.bool false), (.bool false), (.bool false), (.bool false), (.bool false), (.bool false), (.bool false), (.bool false), (.bool false), (.bool false), (.bool false), (.bool false), (.bool false), (.bool false), (.bool false), (.bool false), (.bool false), (.bool false), (.bool false), (.bool false), (.bool false), (.bool false), (.bool false), (.bool false), (.bool false), (.bool false), (.bool false), (.bool false), (.bool false), (.bool false), (.bool false), (.bool false), (.bool false), (.bool false), (.bool false), (.bool false), (.bool false), (.bool false), (.bool false), (.bool false), (.bool false), (.bool false), (.bool false), (.bool false), (.bool false), (.bool false), (.bool false), (.bool false), (.bool false), (.bool false), (.bool false), (.bool false), (.bool false), (.bool false), (.bool false), (.bool false), (.bool false), (.bool false), (.bool false), (.bool false), (.bool false), (.bool false), (.bool false), (.bool false), (.bool false), (.bool false), (.bool false), (.bool false), (.bool false)]),
an (.store 256 (.t 5) (.t 28)),
mv 6 29])
(.seq (.reg [mv 30 6])
(.cond (.t 30)
(.seq (.reg [mv 31 0,
ao 32 (.call 86 [(.t 31), (.t 5)]),
mv 4 32])
.ret)
.skip)))
(.seq (.reg [mv 33 0,
mv 34 1,
ao 35 (.call 87 [(.t 33), (.t 34)]),
mv 4 35])
.ret)))))) }
def w73 : WF := { nt := 45, results := [], code :=
(.seq (.reg [ao 4 (.mov (.c (.int .i64 0)))])
(.block 0 (.loop (.seq (.seq (.reg [mv 6 4,
ao 7 (.load false 1 (.t 1)),
ao 8 (.len (.t 7)),
ao 9 (.bin .lss .no (.t 6) (.t 8))])
(.cond (.t 9)
.skip
(.exit 0)))
(.seq (.block 1 (.seq (.reg [mv 12 4,
mv 5 12])
(.seq (.block 2 (.loop (.seq (.seq (.calm [mv 13 4,
ao 14 (.load false 1 (.t 1)),
⟨(some 15), .len (.t 14), none, [1], false⟩,
⟨(some 16), .bin .lss .no (.t 13) (.t 15), none, [0, 2], false⟩,
⟨(some 17), .mov (.t 16), none, [3], false⟩,
⟨(some 18), .load false 1 (.t 1), some (17, true), [4], false⟩,
⟨(some 19), .mov (.t 4), some (17, true), [4], false⟩,
⟨(some 20), .indexSl 1 (.t 18) (.t 19), some (17, true), [5, 6, 4], false⟩,
⟨(some 21), .load false 1 (.t 20), some (17, true), [7, 4], false⟩,
⟨(some 22), .load false 1 (.t 2), some (17, true), [4], false⟩,
⟨(some 23), .mov (.t 4), some (17, true), [4], false⟩,
⟨(some 24), .indexSl 1 (.t 22) (.t 23), some (17, true), [9, 10, 4], false⟩,
⟨(some 25), .load false 1 (.t 24), some (17, true), [11, 4], false⟩,
⟨(some 26), .bin .neq .no (.t 21) (.t 25), some (17, true), [8, 12, 4], false⟩,
⟨(some 27), .pick (.t 17) (.t 26) (.c (.bool false)), none, [4, 13], false⟩])
(.cond (.t 27)
.skip
(.exit 2)))
(.block 3 (.reg [mv 28 4,
ao 29 (.bin .add .no (.t 28) (.c (.int .i64 1))),
mv 4 29])))))
(.seq (.reg [mv 30 4,
mv 31 5,
ao 32 (.bin .gtr .no (.t 30) (.t 31)),
mv 33 32,
ag 34 (.mov (.t 0)) 33 true,
ag 35 (.mov (.t 5)) 33 true,
ag 36 (.load false 1 (.t 1)) 33 true,
ag 37 (.mov (.t 5)) 33 true,
ag 38 (.mov (.t 4)) 33 true,
ag 39 (.mov (.t 4)) 33 true,
ag 40 (.slice (.sl 1) (.t 36) (some (.t 37)) (some (.t 38)) (some (.t 39))) 33 true,
ag 41 (.build [(.int .i64 0), (.list [] true)] [(0, 1, (.t 35)), (1, 1, (.t 40))]) 33 true,
ag 42 (.callv (.t 34) [(.t 41)]) 33 true,
ag 43 (.un .not (.t 42)) 33 true,
ao 44 (.pick (.t 33) (.t 43) (.c (.bool false)))])
(.cond (.t 44)
.ret
.skip)))))
(.reg [mv 10 4,
ao 11 (.bin .add .no (.t 10) (.c (.int .i64 1))),
mv 4 11])))))) }
def w74 : WF := { nt := 53, results := [(2, none), (3, none)], code :=
(.seq (.reg [ao 2 (.mov (.c (.int .i64 0))),
ao 3 (.mov (.c (.int .i64 0)))])
(.seq (.seq (.reg [mv 6 0,
ao 7 (.nilCheck (.t 6)),
ao 8 (.fieldAddr 0 (.t 7)),
ao 9 (.load false 1 (.t 8)),
ao 10 (.len (.t 9)),
ao 11 (.mov (.c (.int .i64 0)))])
(.block 0 (.loop (.seq (.reg [ao 12 (.bin .lss .no (.t 11) (.t 10))])
(.seq (.cond (.t 12)
.skip
(.exit 0))
(.seq (.block 1 (.seq (.reg [mv 13 11,
ao 14 (.indexSl 1 (.t 9) (.t 11)),
ao 15 (.load false 1 (.t 14)),
mv 4 13,
mv 5 15])
(.block 2 (.seq (.reg [mv 17 4,
ao 18 (.bin .eql .no (.t 17) (.c (.int .i64 0))),
mv 19 18,
ag 20 (.mov (.t 5)) 19 true,
ag 21 (.bin .eql .no (.t 20) (.c (.int .u8 128))) 19 true,
ao 22 (.pick (.t 19) (.t 21) (.c (.bool false))),
mv 23 22,
ag 24 (.mov (.t 4)) 23 false,
ag 25 (.bin .eql .no (.t 24) (.c (.int .i64 9))) 23 false,
ag 26 (.mov (.t 25)) 23 false,
ag 27 (.mov (.t 5)) 26 true,
ag 28 (.bin .geq .no (.t 27) (.c (.int .u8 128))) 26 true,
ag 29 (.pick (.t 26) (.t 28) (.c (.bool false))) 23 false,
ao 30 (.pick (.t 23) (.c (.bool true)) (.t 29)),
mv 16 30])
(.cond (.t 16)
(.seq (.reg [ao 2 (.mov (.c (.int .i64 0))),
ao 3 (.mov (.c (.int .i64 2)))])
.ret)
(.seq (.reg [mv 32 5,
ao 33 (.bin .lss .no (.t 32) (.c (.int .u8 128))),
mv 34 33,
ag 35 (.mov (.t 4)) 34 true,
ag 36 (.bin .eql .no (.t 35) (.c (.int .i64 9))) 34 true,
ao 37 (.pick (.t 34) (.t 36) (.c (.bool false))),
mv 38 37,
ag 39 (.mov (.t 0)) 38 true,
ag 40 (.nilCheck (.t 39)) 38 true,
ag 41 (.fieldAddr 0 (.t 40)) 38 true,
ag 42 (.load false 1 (.t 41)) 38 true,
ag 43 (.indexSl 1 (.t 42) (.c (.int .i64 0))) 38 true,
ag 44 (.load false 1 (.t 43)) 38 true,
ag 45 (.bin .gtr .no (.t 44) (.c (.int .u8 129))) 38 true,
ao 46 (.pick (.t 38) (.t 45) (.c (.bool false))),
mv 31 46])
(.cond (.t 31)
(.seq (.reg [ao 2 (.mov (.c (.int .i64 0))),
ao 3 (.mov (.c (.int .i64 2)))])
.ret)
(.seq (.reg [mv 48 5,
ao 49 (.bin .lss .no (.t 48) (.c (.int .u8 128))),
mv 47 49])
(.cond (.t 47)
(.seq (.reg [mv 50 4,
ao 51 (.bin .add .no (.t 50) (.c (.int .i64 1))),
mv 2 51,
ao 3 (.mov (.c (.int .i64 0)))])
.ret)
.skip)))))))))
(.reg [ao 52 (.bin .add .no (.t 11) (.c (.int .i64 1))),
mv 11 52])))))))
(.seq (.reg [ao 2 (.mov (.c (.int .i64 0))),
ao 3 (.mov (.c (.int .i64 3)))])
.ret))) }
def w75 : WF := { nt := 9, results := [], code :=
(.seq (.reg [ao 3 (.load false 1 (.t 1)),
ao 4 (.load false 1 (.t 0)),
ao 5 (.nilCheck (.t 3)),
ao 6 (.fieldAddr 1 (.t 5)),
an (.store 1 (.t 6) (.t 4))])
(.seq (.reg [ao 7 (.load false 1 (.t 0)),
ao 8 (.bin .neq .no (.t 7) (.c (.int .i64 0)))])
(.cond (.t 8)
(.reg [an (.store 1 (.t 2) (.c (.int .i64 0)))])
.skip))) }
def w76 : WF := { nt := 17, results := [(3, none)], code :=
(.seq (.reg [ao 3 (.mov (.c (.bool false)))])
(.seq (.reg [ao 4 (.load false 1 (.t 1)),
ao 5 (.len (.t 4)),
ao 6 (.bin .gtr .no (.t 5) (.c (.int .i64 0))),
mv 7 6,
ag 8 (.load false 1 (.t 1)) 7 true,
ag 9 (.load false 1 (.t 1)) 7 true,
ag 10 (.len (.t 9)) 7 true,
ag 11 (.bin .sub .no (.t 10) (.c (.int .i64 1))) 7 true,
ag 12 (.indexSl 1 (.t 8) (.t 11)) 7 true,
ag 13 (.load false 1 (.t 12)) 7 true,
ag 14 (.mov (.t 0)) 7 true,
ag 15 (.bin .eql .no (.t 13) (.t 14)) 7 true,
ao 16 (.pick (.t 7) (.t 15) (.c (.bool false))),
mv 3 16])
.ret)) }
def w77 : WF := { nt := 20, results := [(4, none), (5, none), (6, none)], code :=
(.seq (.reg [ao 4 (.mov (.c (.int .i64 0))),
ao 5 (.mov (.c (.int .i64 0))),
ao 6 (.mov (.c (.int .i64 0)))])
(.seq (.reg [mv 9 0,
ao 10 (.call 21 [(.t 9)]),
mv 7 10])
(.seq (.reg [mv 11 7,
mv 12 1,
ao 13 (.call 52 [(.t 11), (.c (.int .i64 1)), (.t 12)]),
mv 8 13])
(.seq (.reg [mv 14 8,
mv 15 8,
ao 16 (.call 14 [(.t 15)]),
ao 17 (.len (.t 16)),
mv 18 7,
ao 19 (.call 53 [(.t 18)]),
mv 4 14,
mv 5 17,
mv 6 19])
.ret)))) }
def w78 : WF := { nt := 77, results := [(4, none)], code :=
(.seq (.reg [ao 4 (.mov (.c (.list [] true)))])
(.seq (.seq (.reg [mv 12 1,
ao 13 (.bin .eql .no (.t 12) (.c (.int .i64 0)))])
(.cond (.t 13)
(.seq (.reg [ao 14 (.buildSlice 1 0 [(.int .u8 0)] []),
mv 4 14])
.ret)
.skip))
(.seq (.seq (.reg [mv 15 1,
ao 16 (.bin .lss .no (.t 15) (.c (.int .i64 0)))])
(.cond (.t 16)
(.reg [ao 17 (.makeIface 9 (.c (.str ⟨#[98, 121, 116, 101, 115, 58, 32, 110, 101, 103, 97, 116, 105, 118, 101, 32, 82, 101, 112, 101, 97, 116, 32, 99, 111, 117, 110, 116]⟩))),
an (.panic (.t 17))])
.skip))
(.seq (.reg [mv 19 0,
ao 20 (.len (.t 19)),
ao 21 (.conv (.int .u64) (.t 20)),
mv 22 1,
ao 23 (.conv (.int .u64) (.t 22)),
ao 24 (.call 88 [(.t 21), (.t 23)]),
mv 18 24,
ao 25 (.extract 0 (.t 18)),
ao 26 (.extract 1 (.t 18)),
mv 5 25,
mv 6 26])
(.seq (.seq (.reg [mv 27 5,
ao 28 (.bin .gtr .no (.t 27) (.c (.int .u64 0))),
mv 29 28,
ag 30 (.mov (.t 6)) 29 false,
ag 31 (.bin .gtr .no (.t 30) (.c (.int .u64 9223372036854775807))) 29 false,
ao 32 (.pick (.t 29) (.c (.bool true)) (.t 31))])
(.cond (.t 32)
(.reg [ao 33 (.makeIface 9 (.c (.str ⟨#[98, 121, 116, 101, 115, 58, 32, 82, 101, 112, 101, 97, 116, 32, 111, 117, 116, 112, 117, 116, 32, 108, 101, 110, 103, 116, 104, 32, 111, 118, 101, 114, 102, 108, 111, 119]⟩))),
an (.panic (.t 33))])
.skip))
(.seq (.reg [mv 34 6,
ao 35 (.conv (.int .i64) (.t 34)),
mv 7 35])
(.seq (.seq (.reg [mv 36 0,
ao 37 (.len (.t 36)),
ao 38 (.bin .eql .no (.t 37) (.c (.int .i64 0)))])
(.cond (.t 38)
(.seq (.reg [ao 39 (.buildSlice 1 0 [(.int .u8 0)] []),
mv 4 39])
.ret)
.skip))
(.seq (.reg [mv 40 7,
mv 8 40])
(.seq (.seq (.reg [mv 41 8,
ao 42 (.bin .gtr .no (.t 41) (.c (.int .i64 8192)))])
(.cond (.t 42)
(.seq (.reg [mv 43 0,
ao 44 (.len (.t 43)),
ao 45 (.bin .quo .no (.c (.int .i64 8192)) (.t 44)),
mv 46 0,
ao 47 (.len (.t 46)),
ao 48 (.bin .mul .no (.t 45) (.t 47)),
mv 8 48])
(.seq (.reg [mv 49 8,
ao 50 (.bin .eql .no (.t 49) (.c (.int .i64 0)))])
(.cond (.t 50)
(.reg [mv 51 0,
ao 52 (.len (.t 51)),
mv 8 52])
.skip)))
.skip))
(.seq (.reg [mv 53 7,
ao 54 (.call 89 [(.t 53)]),
mv 55 7,
mv 56 7,
ao 57 (.slice (.sl 1) (.t 54) none (some (.t 55)) (some (.t 56))),
mv 9 57])
(.seq (.reg [mv 58 9,
mv 59 0,
ao 60 (.copy 1 (.t 58) (.t 59)),
mv 10 60])
(.seq (.block 0 (.loop (.seq (.seq (.reg [mv 61 10,
mv 62 7,
ao 63 (.bin .lss .no (.t 61) (.t 62))])
(.cond (.t 63)
.skip
(.exit 0)))
(.block 1 (.seq (.reg [mv 64 10,
mv 65 8,
ao 66 (.min [(.t 64), (.t 65)]),
mv 11 66])
(.calm [mv 67 10,
mv 68 9,
mv 69 10,
⟨(some 70), .slice (.sl 1) (.t 68) (some (.t 69)) none none, none, [1, 2], false⟩,
mv 71 9,
mv 72 11,
⟨(some 73), .slice (.sl 1) (.t 71) none (some (.t 72)) none, none, [4, 5], false⟩,
⟨(some 74), .copy 1 (.t 70) (.t 73), none, [3, 6], true⟩,
⟨(some 75), .bin .add .no (.t 67) (.t 74), none, [0, 7], false⟩,
⟨(some 10), .mov (.t 75), none, [8, 7, 0, 1, 2, 3, 4, 5, 6, 7, 8], false⟩]))))))
(.seq (.reg [mv 76 9,
mv 4 76])
.ret))))))))))))) }
def w79 : WF := { nt := 36, results := [(2, none)], code :=
(.seq (.reg [ao 2 (.mov (.c (.list [] true)))])
(.seq (.reg [ao 3 (.mov (.c (.int .i64 0)))])
(.seq (.seq (.reg [mv 9 0,
ao 10 (.len (.t 9)),
ao 11 (.mov (.c (.int .i64 0)))])
(.block 0 (.loop (.seq (.reg [ao 12 (.bin .lss .no (.t 11) (.t 10))])
(.seq (.cond (.t 12)
.skip
(.exit 0))
(.seq (.block 1 (.seq (.reg [ao 13 (.indexSl 1 (.t 9) (.t 11)),
ao 14 (.load false 1 (.t 13)),
mv 5 14])
(.seq (.reg [mv 15 3,
mv 16 5,
ao 17 (.len (.t 16)),
ao 18 (.bin .add .no (.t 15) (.t 17)),
mv 3 18])
(.seq (.reg [mv 19 3,
ao 20 (.bin .lss .no (.t 19) (.c (.int .i64 0)))])
(.cond (.t 20)
(.reg [ao 21 (.makeIface 9 (.c (.str ⟨#[108, 101, 110, 32, 111, 117, 116, 32, 111, 102, 32, 114, 97, 110, 103, 101]⟩))),
an (.panic (.t 21))])
.skip)))))
(.reg [ao 22 (.bin .add .no (.t 11) (.c (.int .i64 1))),
mv 11 22])))))))
(.seq (.reg [mv 23 3,
ao 24 (.call 90 [(.c (.list [] true)), (.t 23)]),
mv 6 24])
(.seq (.seq (.reg [mv 25 0,
ao 26 (.len (.t 25)),
ao 27 (.mov (.c (.int .i64 0)))])
(.block 2 (.loop (.seq (.reg [ao 28 (.bin .lss .no (.t 27) (.t 26))])
(.seq (.cond (.t 28)
.skip
(.exit 2))
(.seq (.block 3 (.seq (.reg [ao 29 (.indexSl 1 (.t 25) (.t 27)),
ao 30 (.load false 1 (.t 29)),
mv 8 30])
(.reg [mv 31 6,
mv 32 8,
ao 33 (.append 1 8 none (.t 31) (.t 32)),
mv 6 33])))
(.reg [ao 34 (.bin .add .no (.t 27) (.c (.int .i64 1))),
mv 27 34])))))))
(.seq (.reg [mv 35 6,
mv 2 35])
.ret)))))) }
def w80 : WF := { nt := 36, results := [(2, none)], code :=
(.seq (.reg [ao 2 (.mov (.c (.list [] true)))])
(.seq (.reg [ao 3 (.mov (.c (.int .i64 0)))])
(.seq (.seq (.reg [mv 9 0,
ao 10 (.len (.t 9)),
ao 11 (.mov (.c (.int .i64 0)))])
(.block 0 (.loop (.seq (.reg [ao 12 (.bin .lss .no (.t 11) (.t 10))])
(.seq (.cond (.t 12)
.skip
(.exit 0))
(.seq (.block 1 (.seq (.reg [ao 13 (.indexSl 1 (.t 9) (.t 11)),
ao 14 (.load false 1 (.t 13)),
mv 5 14])
(.seq (.reg [mv 15 3,
mv 16 5,
ao 17 (.len (.t 16)),
ao 18 (.bin .add .no (.t 15) (.t 17)),
mv 3 18])
(.seq (.reg [mv 19 3,
ao 20 (.bin .lss .no (.t 19) (.c (.int .i64 0)))])
(.cond (.t 20)
(.reg [ao 21 (.makeIface 9 (.c (.str ⟨#[108, 101, 110, 32, 111, 117, 116, 32, 111, 102, 32, 114, 97, 110, 103, 101]⟩))),
an (.panic (.t 21))])
.skip)))))
(.reg [ao 22 (.bin .add .no (.t 11) (.c (.int .i64 1))),
mv 11 22])))))))
(.seq (.reg [mv 23 3,
ao 24 (.call 91 [(.c (.list [] true)), (.t 23)]),
mv 6 24])
(.seq (.seq (.reg [mv 25 0,
ao 26 (.len (.t 25)),
ao 27 (.mov (.c (.int .i64 0)))])
(.block 2 (.loop (.seq (.reg [ao 28 (.bin .lss .no (.t 27) (.t 26))])
(.seq (.cond (.t 28)
.skip
(.exit 2))
(.seq (.block 3 (.seq (.reg [ao 29 (.indexSl 1 (.t 25) (.t 27)),
ao 30 (.load false 1 (.t 29)),
mv 8 30])
(.reg [mv 31 6,
mv 32 8,
ao 33 (.append 2 16 none (.t 31) (.t 32)),
mv 6 33])))
(.reg [ao 34 (.bin .add .no (.t 27) (.c (.int .i64 1))),
mv 27 34])))))))
(.seq (.reg [mv 35 6,
mv 2 35])
.ret)))))) }
def w81 : WF := { nt := 36, results := [(2, none)], code :=
(.seq (.reg [ao 2 (.mov (.c (.list [] true)))])
(.seq (.reg [ao 3 (.mov (.c (.int .i64 0)))])
(.seq (.seq (.reg [mv 9 0,
ao 10 (.len (.t 9)),
ao 11 (.mov (.c (.int .i64 0)))])
(.block 0 (.loop (.seq (.reg [ao 12 (.bin .lss .no (.t 11) (.t 10))])
(.seq (.cond (.t 12)
.skip
(.exit 0))
(.seq (.block 1 (.seq (.reg [ao 13 (.indexSl 1 (.t 9) (.t 11)),
ao 14 (.load false 1 (.t 13)),
mv 5 14])
(.seq (.reg [mv 15 3,
mv 16 5,
ao 17 (.len (.t 16)),
ao 18 (.bin .add .no (.t 15) (.t 17)),
mv 3 18])
(.seq (.reg [mv 19 3,
ao 20 (.bin .lss .no (.t 19) (.c (.int .i64 0)))])
(.cond (.t 20)
(.reg [ao 21 (.makeIface 9 (.c (.str ⟨#[108, 101, 110, 32, 111, 117, 116, 32, 111, 102, 32, 114, 97, 110, 103, 101]⟩))),
an (.panic (.t 21))])
.skip)))))
(.reg [ao 22 (.bin .add .no (.t 11) (.c (.int .i64 1))),
mv 11 22])))))))
(.seq (.reg [mv 23 3,
ao 24 (.call 92 [(.c (.list [] true)), (.t 23)]),
mv 6 24])
(.seq (.seq (.reg [mv 25 0,
ao 26 (.len (.t 25)),
ao 27 (.mov (.c (.int .i64 0)))])
(.block 2 (.loop (.seq (.reg [ao 28 (.bin .lss .no (.t 27) (.t 26))])
(.seq (.cond (.t 28)
.skip
(.exit 2))
(.seq (.block 3 (.seq (.reg [ao 29 (.indexSl 1 (.t 25) (.t 27)),
ao 30 (.load false 1 (.t 29)),
mv 8 30])
(.reg [mv 31 6,
mv 32 8,
ao 33 (.append 4 32 none (.t 31) (.t 32)),
mv 6 33])))
(.reg [ao 34 (.bin .add .no (.t 27) (.c (.int .i64 1))),
mv 27 34])))))))
(.seq (.reg [mv 35 6,
mv 2 35])
.ret)))))) }
def w82 : WF := { nt := 36, results := [(2, none)], code :=
(.seq (.reg [ao 2 (.mov (.c (.list [] true)))])
(.seq (.reg [ao 3 (.mov (.c (.int .i64 0)))])
(.seq (.seq (.reg [mv 9 0,
ao 10 (.len (.t 9)),
ao 11 (.mov (.c (.int .i64 0)))])
(.block 0 (.loop (.seq (.reg [ao 12 (.bin .lss .no (.t 11) (.t 10))])
(.seq (.cond (.t 12)
.skip
(.exit 0))
(.seq (.block 1 (.seq (.reg [ao 13 (.indexSl 1 (.t 9) (.t 11)),
ao 14 (.load false 1 (.t 13)),
mv 5 14])
(.seq (.reg [mv 15 3,
mv 16 5,
ao 17 (.len (.t 16)),
ao 18 (.bin .add .no (.t 15) (.t 17)),
mv 3 18])
(.seq (.reg [mv 19 3,
ao 20 (.bin .lss .no (.t 19) (.c (.int .i64 0)))])
(.cond (.t 20)
(.reg [ao 21 (.makeIface 9 (.c (.str ⟨#[108, 101, 110, 32, 111, 117, 116, 32, 111, 102, 32, 114, 97, 110, 103, 101]⟩))),
an (.panic (.t 21))])
.skip)))))
(.reg [ao 22 (.bin .add .no (.t 11) (.c (.int .i64 1))),
mv 11 22])))))))
(.seq (.reg [mv 23 3,
ao 24 (.call 93 [(.c (.list [] true)), (.t 23)]),
mv 6 24])
(.seq (.seq (.reg [mv 25 0,
ao 26 (.len (.t 25)),
ao 27 (.mov (.c (.int .i64 0)))])
(.block 2 (.loop (.seq (.reg [ao 28 (.bin .lss .no (.t 27) (.t 26))])
(.seq (.cond (.t 28)
.skip
(.exit 2))
(.seq (.block 3 (.seq (.reg [ao 29 (.indexSl 1 (.t 25) (.t 27)),
ao 30 (.load false 1 (.t 29)),
mv 8 30])
(.reg [mv 31 6,
mv 32 8,
ao 33 (.append 2 16 none (.t 31) (.t 32)),
mv 6 33])))
(.reg [ao 34 (.bin .add .no (.t 27) (.c (.int .i64 1))),
mv 27 34])))))))
(.seq (.reg [mv 35 6,
mv 2 35])
.ret)))))) }
def w83 : WF := { nt := 19, results := [(4, none)], code :=
(.seq (.reg [ao 4 (.mov (.c (.int .i64 0)))])
(.seq (.seq (.reg [mv 6 0,
ao 7 (.len (.t 6)),
ao 8 (.mov (.c (.int .i64 0)))])
(.block 0 (.loop (.seq (.reg [ao 9 (.bin .lss .no (.t 8) (.t 7))])
(.seq (.cond (.t 9)
.skip
(.exit 0))
(.seq (.block 1 (.seq (.reg [mv 10 8,
mv 5 10])
(.seq (.reg [mv 11 1,
mv 12 0,
mv 13 5,
ao 14 (.indexSl 1 (.t 12) (.t 13)),
ao 15 (.load false 1 (.t 14)),
ao 16 (.bin .eql .bool (.t 11) (.t 15))])
(.cond (.t 16)
(.seq (.reg [mv 17 5,
mv 4 17])
.ret)
.skip))))
(.reg [ao 18 (.bin .add .no (.t 8) (.c (.int .i64 1))),
mv 8 18])))))))
(.seq (.reg [ao 4 (.mov (.c (.int .i64 (-1))))])
.ret))) }
def w84 : WF := { nt := 21, results := [(4, none)], code :=
(.seq (.reg [ao 4 (.mov (.c (.list [] true)))])
(.seq (.block 0 (.loop (.seq (.seq (.reg [mv 5 0,
ao 6 (.len (.t 5)),
ao 7 (.bin .gtr .no (.t 6) (.c (.int .i64 0))),
mv 8 7,
ag 9 (.mov (.t 0)) 8 true,
ag 10 (.indexSl 1 (.t 9) (.c (.int .i64 0))) 8 true,
ag 11 (.load false 1 (.t 10)) 8 true,
ag 12 (.mov (.t 1)) 8 true,
ag 13 (.bin .eql .no (.t 11) (.t 12)) 8 true,
ao 14 (.pick (.t 8) (.t 13) (.c (.bool false)))])
(.cond (.t 14)
.skip
(.exit 0)))
(.block 1 (.reg [mv 15 0,
ao 16 (.slice (.sl 1) (.t 15) (some (.c (.int .i64 1))) none none),
mv 0 16])))))
(.seq (.seq (.reg [mv 17 0,
ao 18 (.len (.t 17)),
ao 19 (.bin .eql .no (.t 18) (.c (.int .i64 0)))])
(.cond (.t 19)
(.seq (.reg [ao 4 (.mov (.c (.list [] true)))])
.ret)
.skip))
(.seq (.reg [mv 20 0,
mv 4 20])
.ret)))) }
def w88 : WF := { nt := 30, results := [(4, none), (5, none)], code :=
(.seq (.reg [ao 4 (.mov (.c (.int .u64 0))),
ao 5 (.mov (.c (.int .u64 0)))])
(.seq (.cond (.c (.bool false))
(.seq (.reg [mv 11 0,
ao 12 (.conv (.int .u32) (.t 11)),
mv 13 1,
ao 14 (.conv (.int .u32) (.t 13)),
ao 15 (.call 97 [(.t 12), (.t 14)]),
mv 10 15,
ao 16 (.extract 0 (.t 10)),
ao 17 (.extract 1 (.t 10)),
mv 6 16,
mv 7 17])
(.seq (.reg [mv 18 6,
ao 19 (.conv (.int .u64) (.t 18)),
mv 20 7,
ao 21 (.conv (.int .u64) (.t 20)),
mv 4 19,
mv 5 21])
.ret))
.skip)
(.seq (.reg [mv 23 0,
mv 24 1,
ao 25 (.call 98 [(.t 23), (.t 24)]),
mv 22 25,
ao 26 (.extract 0 (.t 22)),
ao 27 (.extract 1 (.t 22)),
mv 8 26,
mv 9 27])
(.seq (.reg [mv 28 8,
mv 29 9,
mv 4 28,
mv 5 29])
.ret)))) }
def w90 : WF := { nt := 27, results := [(4, none)], code :=
(.seq (.reg [ao 4 (.mov (.c (.list [] true)))])
(.seq (.seq (.reg [mv 5 1,
ao 6 (.bin .lss .no (.t 5) (.c (.int .i64 0)))])
(.cond (.t 6)
(.reg [ao 7 (.makeIface 9 (.c (.str ⟨#[99, 97, 110, 110, 111, 116, 32, 98, 101, 32, 110, 101, 103, 97, 116, 105, 118, 101]⟩))),
an (.panic (.t 7))])
.skip))
(.seq (.seq (.reg [mv 8 1,
mv 9 0,
ao 10 (.cap (.t 9)),
mv 11 0,
ao 12 (.len (.t 11)),
ao 13 (.bin .sub .no (.t 10) (.t 12)),
ao 14 (.bin .sub .no (.t 8) (.t 13)),
mv 1 14])
(.seq (.reg [mv 15 1,
ao 16 (.bin .gtr .no (.t 15) (.c (.int .i64 0)))])
(.cond (.t 16)
(.reg [mv 17 0,
mv 18 0,
ao 19 (.cap (.t 18)),
ao 20 (.slice (.sl 1) (.t 17) none (some (.t 19)) none),
mv 21 1,
ao 22 (.append 1 8 (some [(.int .i64 0)]) (.t 20) (.t 21)),
mv 23 0,
ao 24 (.len (.t 23)),
ao 25 (.slice (.sl 1) (.t 22) none (some (.t 24)) none),
mv 0 25])
.skip)))
(.seq (.reg [mv 26 0,
mv 4 26])
.ret)))) }
def w91 : WF := { nt := 27, results := [(4, none)], code :=
(.seq (.reg [ao 4 (.mov (.c (.list [] true)))])
(.seq (.seq (.reg [mv 5 1,
ao 6 (.bin .lss .no (.t 5) (.c (.int .i64 0)))])
(.cond (.t 6)
(.reg [ao 7 (.makeIface 9 (.c (.str ⟨#[99, 97, 110, 110, 111, 116, 32, 98, 101, 32, 110, 101, 103, 97, 116, 105, 118, 101]⟩))),
an (.panic (.t 7))])
.skip))
(.seq (.seq (.reg [mv 8 1,
mv 9 0,
ao 10 (.cap (.t 9)),
mv 11 0,
ao 12 (.len (.t 11)),
ao 13 (.bin .sub .no (.t 10) (.t 12)),
ao 14 (.bin .sub .no (.t 8) (.t 13)),
mv 1 14])
(.seq (.reg [mv 15 1,
ao 16 (.bin .gtr .no (.t 15) (.c (.int .i64 0)))])
(.cond (.t 16)
(.reg [mv 17 0,
mv 18 0,
ao 19 (.cap (.t 18)),
ao 20 (.slice (.sl 2) (.t 17) none (some (.t 19)) none),
mv 21 1,
ao 22 (.append 2 16 (some [(.int .i64 0), (.bool false)]) (.t 20) (.t 21)),
mv 23 0,
ao 24 (.len (.t 23)),
ao 25 (.slice (.sl 2) (.t 22) none (some (.t 24)) none),
mv 0 25])
.skip)))
(.seq (.reg [mv 26 0,
mv 4 26])
.ret)))) }
def w92 : WF := { nt := 27, results := [(4, none)], code :=
(.seq (.reg [ao 4 (.mov (.c (.list [] true)))])
(.seq (.seq (.reg [mv 5 1,
ao 6 (.bin .lss .no (.t 5) (.c (.int .i64 0)))])
(.cond (.t 6)
(.reg [ao 7 (.makeIface 9 (.c (.str ⟨#[99, 97, 110, 110, 111, 116, 32, 98, 101, 32, 110, 101, 103, 97, 116, 105, 118, 101]⟩))),
an (.panic (.t 7))])
.skip))
(.seq (.seq (.reg [mv 8 1,
mv 9 0,
ao 10 (.cap (.t 9)),
mv 11 0,
ao 12 (.len (.t 11)),
ao 13 (.bin .sub .no (.t 10) (.t 12)),
ao 14 (.bin .sub .no (.t 8) (.t 13)),
mv 1 14])
(.seq (.reg [mv 15 1,
ao 16 (.bin .gtr .no (.t 15) (.c (.int .i64 0)))])
(.cond (.t 16)
(.reg [mv 17 0,
mv 18 0,
ao 19 (.cap (.t 18)),
ao 20 (.slice (.sl 4) (.t 17) none (some (.t 19)) none),
mv 21 1,
ao 22 (.append 4 32 (some [(.str ⟨#[]⟩), (.int .i64 0), (.bool false), (.bool false)]) (.t 20) (.t 21)),
mv 23 0,
ao 24 (.len (.t 23)),
ao 25 (.slice (.sl 4) (.t 22) none (some (.t 24)) none),
mv 0 25])
.skip)))
(.seq (.reg [mv 26 0,
mv 4 26])
.ret)))) }
def w93 : WF := { nt := 27, results := [(4, none)], code :=
(.seq (.reg [ao 4 (.mov (.c (.list [] true)))])
(.seq (.seq (.reg [mv 5 1,
ao 6 (.bin .lss .no (.t 5) (.c (.int .i64 0)))])
(.cond (.t 6)
(.reg [ao 7 (.makeIface 9 (.c (.str ⟨#[99, 97, 110, 110, 111, 116, 32, 98, 101, 32, 110, 101, 103, 97, 116, 105, 118, 101]⟩))),
an (.panic (.t 7))])
.skip))
(.seq (.seq (.reg [mv 8 1,
mv 9 0,
ao 10 (.cap (.t 9)),
mv 11 0,
ao 12 (.len (.t 11)),
ao 13 (.bin .sub .no (.t 10) (.t 12)),
ao 14 (.bin .sub .no (.t 8) (.t 13)),
mv 1 14])
(.seq (.reg [mv 15 1,
ao 16 (.bin .gtr .no (.t 15) (.c (.int .i64 0)))])
(.cond (.t 16)
(.reg [mv 17 0,
mv 18 0,
ao 19 (.cap (.t 18)),
ao 20 (.slice (.sl 2) (.t 17) none (some (.t 19)) none),
mv 21 1,
ao 22 (.append 2 16 (some [(.int .i64 0), (.int .i64 0)]) (.t 20) (.t 21)),
mv 23 0,
ao 24 (.len (.t 23)),
ao 25 (.slice (.sl 2) (.t 22) none (some (.t 24)) none),
mv 0 25])
.skip)))
(.seq (.reg [mv 26 0,
mv 4 26])
.ret)))) }
def w97 : WF := { nt := 17, results := [(4, none), (5, none)], code :=
(.seq (.reg [ao 4 (.mov (.c (.int .u32 0))),
ao 5 (.mov (.c (.int .u32 0)))])
(.seq (.reg [mv 7 0,
ao 8 (.conv (.int .u64) (.t 7)),
mv 9 1,
ao 10 (.conv (.int .u64) (.t 9)),
ao 11 (.bin .mul .no (.t 8) (.t 10)),
mv 6 11])
(.seq (.reg [mv 12 6,
ao 13 (.bin .shr .no (.t 12) (.c (.int .u64 32))),
ao 14 (.conv (.int .u32) (.t 13)),
mv 15 6,
ao 16 (.conv (.int .u32) (.t 15)),
mv 4 14,
mv 5 16])
.ret))) }
def w98 : WF := { nt := 51, results := [(4, none), (5, none)], code :=
(.seq (.reg [ao 4 (.mov (.c (.int .u64 0))),
ao 5 (.mov (.c (.int .u64 0)))])
(.seq (.reg [mv 14 0,
ao 15 (.bin .and .no (.t 14) (.c (.int .u64 4294967295))),
mv 6 15])
(.seq (.reg [mv 16 0,
ao 17 (.bin .shr .no (.t 16) (.c (.int .u64 32))),
mv 7 17])
(.seq (.reg [mv 18 1,
ao 19 (.bin .and .no (.t 18) (.c (.int .u64 4294967295))),
mv 8 19])
(.seq (.reg [mv 20 1,
ao 21 (.bin .shr .no (.t 20) (.c (.int .u64 32))),
mv 9 21])
(.seq (.reg [mv 22 6,
mv 23 8,
ao 24 (.bin .mul .no (.t 22) (.t 23)),
mv 10 24])
(.seq (.reg [mv 25 7,
mv 26 8,
ao 27 (.bin .mul .no (.t 25) (.t 26)),
mv 28 10,
ao 29 (.bin .shr .no (.t 28) (.c (.int .u64 32))),
ao 30 (.bin .add .no (.t 27) (.t 29)),
mv 11 30])
(.seq (.reg [mv 31 11,
ao 32 (.bin .and .no (.t 31) (.c (.int .u64 4294967295))),
mv 12 32])
(.seq (.reg [mv 33 11,
ao 34 (.bin .shr .no (.t 33) (.c (.int .u64 32))),
mv 13 34])
(.seq (.reg [mv 35 12,
mv 36 6,
mv 37 9,
ao 38 (.bin .mul .no (.t 36) (.t 37)),
ao 39 (.bin .add .no (.t 35) (.t 38)),
mv 12 39])
(.seq (.reg [mv 40 7,
mv 41 9,
ao 42 (.bin .mul .no (.t 40) (.t 41)),
mv 43 13,
ao 44 (.bin .add .no (.t 42) (.t 43)),
mv 45 12,
ao 46 (.bin .shr .no (.t 45) (.c (.int .u64 32))),
ao 47 (.bin .add .no (.t 44) (.t 46)),
mv 4 47])
(.seq (.reg [mv 48 0,
mv 49 1,
ao 50 (.bin .mul .no (.t 48) (.t 49)),
mv 5 50])
.ret)))))))))))) }
def tab : List (Nat × AFun) := [(3, w3.toA), (4, w4.toA), (5, w5.toA), (6, w6.toA), (7, w7.toA), (8, w8.toA), (9, w9.toA), (10, w10.toA), (11, w11.toA), (12, w12.toA), (13, w13.toA), (14, w14.toA), (15, w15.toA), (16, w16.toA), (17, w17.toA), (18, w18.toA), (19, w19.toA), (20, w20.toA), (21, w21.toA), (22, w22.toA), (23, w23.toA), (24, w24.toA), (25, w25.toA), (26, w26.toA), (27, w27.toA), (28, w28.toA), (29, w29.toA), (30, w30.toA), (31, w31.toA), (32, w32.toA), (33, w33.toA), (34, w34.toA), (35, w35.toA), (36, w36.toA), (37, w37.toA), (38, w38.toA), (39, w39.toA), (40, w40.toA), (41, w41.toA), (42, w42.toA), (43, w43.toA), (44, w44.toA), (45, w45.toA), (46, w46.toA), (47, w47.toA), (48, w48.toA), (49, w49.toA), (50, w50.toA), (51, w51.toA), (52, w52.toA), (53, w53.toA), (54, w54.toA), (55, w55.toA), (56, w56.toA), (57, w57.toA), (58, w58.toA), (59, w59.toA), (60, w60.toA), (61, w61.toA), (62, w62.toA), (63, w63.toA), (64, w64.toA), (65, w65.toA), (66, w66.toA), (67, w67.toA), (68, w68.toA), (69, w69.toA), (70, w70.toA), (71, w71.toA), (72, w72.toA), (73, w73.toA), (74, w74.toA), (75, w75.toA), (76, w76.toA), (77, w77.toA), (78, w78.toA), (79, w79.toA), (80, w80.toA), (81, w81.toA), (82, w82.toA), (83, w83.toA), (84, w84.toA), (88, w88.toA), (90, w90.toA), (91, w91.toA), (92, w92.toA), (93, w93.toA), (97, w97.toA), (98, w98.toA)]
def okT (x : Nat × AFun) : Prop := cFun Tryd.prog x.1 = some x.2.erase
theorem okT_c {a : Nat × AFun} {l : List (Nat × AFun)} (h : okT a) (hl : ∀ x ∈ l, okT x) : ∀ x ∈ a :: l, okT x := List.forall_mem_cons.2 ⟨h, hl⟩
theorem okT_n : ∀ x ∈ ([] : List (Nat × AFun)), okT x := fun _ h => by cases h
theorem kc3 : okT (3, w3.toA) := by
  show cFun Tryd.prog 3 = some w3.toA.erase
  kernel_rfl
theorem kc4 : okT (4, w4.toA) := by
  show cFun Tryd.prog 4 = some w4.toA.erase
  kernel_rfl
theorem kc5 : okT (5, w5.toA) := by
  show cFun Tryd.prog 5 = some w5.toA.erase
  kernel_rfl
theorem kc6 : okT (6, w6.toA) := by
  show cFun Tryd.prog 6 = some w6.toA.erase
  kernel_rfl
theorem kc7 : okT (7, w7.toA) := by
  show cFun Tryd.prog 7 = some w7.toA.erase
  kernel_rfl
theorem kc8 : okT (8, w8.toA) := by
  show cFun Tryd.prog 8 = some w8.toA.erase
  kernel_rfl
theorem kc9 : okT (9, w9.toA) := by
  show cFun Tryd.prog 9 = some w9.toA.erase
  kernel_rfl
theorem kc10 : okT (10, w10.toA) := by
  show cFun Tryd.prog 10 = some w10.toA.erase
  kernel_rfl
theorem kc11 : okT (11, w11.toA) := by
  show cFun Tryd.prog 11 = some w11.toA.erase
  kernel_rfl
theorem kc12 : okT (12, w12.toA) := by
  show cFun Tryd.prog 12 = some w12.toA.erase
  kernel_rfl
theorem kc13 : okT (13, w13.toA) := by
  show cFun Tryd.prog 13 = some w13.toA.erase
  kernel_rfl
theorem kc14 : okT (14, w14.toA) := by
  show cFun Tryd.prog 14 = some w14.toA.erase
  kernel_rfl
theorem kc15 : okT (15, w15.toA) := by
  show cFun Tryd.prog 15 = some w15.toA.erase
  kernel_rfl
theorem kc16 : okT (16, w16.toA) := by
  show cFun Tryd.prog 16 = some w16.toA.erase
  kernel_rfl
theorem kc17 : okT (17, w17.toA) := by
  show cFun Tryd.prog 17 = some w17.toA.erase
  kernel_rfl
theorem kc18 : okT (18, w18.toA) := by
  show cFun Tryd.prog 18 = some w18.toA.erase
  kernel_rfl
theorem kc19 : okT (19, w19.toA) := by
  show cFun Tryd.prog 19 = some w19.toA.erase
  kernel_rfl
theorem kc20 : okT (20, w20.toA) := by
  show cFun Tryd.prog 20 = some w20.toA.erase
  kernel_rfl
theorem kc21 : okT (21, w21.toA) := by
  show cFun Tryd.prog 21 = some w21.toA.erase
  kernel_rfl
theorem kc22 : okT (22, w22.toA) := by
  show cFun Tryd.prog 22 = some w22.toA.erase
  kernel_rfl
theorem kc23 : okT (23, w23.toA) := by
  show cFun Tryd.prog 23 = some w23.toA.erase
  kernel_rfl
theorem kc24 : okT (24, w24.toA) := by
  show cFun Tryd.prog 24 = some w24.toA.erase
  kernel_rfl
theorem kc25 : okT (25, w25.toA) := by
  show cFun Tryd.prog 25 = some w25.toA.erase
  kernel_rfl
theorem kc26 : okT (26, w26.toA) := by
  show cFun Tryd.prog 26 = some w26.toA.erase
  kernel_rfl
theorem kc27 : okT (27, w27.toA) := by
  show cFun Tryd.prog 27 = some w27.toA.erase
  kernel_rfl
theorem kc28 : okT (28, w28.toA) := by
  show cFun Tryd.prog 28 = some w28.toA.erase
  kernel_rfl
theorem kc29 : okT (29, w29.toA) := by
  show cFun Tryd.prog 29 = some w29.toA.erase
  kernel_rfl
theorem kc30 : okT (30, w30.toA) := by
  show cFun Tryd.prog 30 = some w30.toA.erase
  kernel_rfl
theorem kc31 : okT (31, w31.toA) := by
  show cFun Tryd.prog 31 = some w31.toA.erase
  kernel_rfl
theorem kc32 : okT (32, w32.toA) := by
  show cFun Tryd.prog 32 = some w32.toA.erase
  kernel_rfl
theorem kc33 : okT (33, w33.toA) := by
  show cFun Tryd.prog 33 = some w33.toA.erase
  kernel_rfl
theorem kc34 : okT (34, w34.toA) := by
  show cFun Tryd.prog 34 = some w34.toA.erase
  kernel_rfl
theorem kc35 : okT (35, w35.toA) := by
  show cFun Tryd.prog 35 = some w35.toA.erase
  kernel_rfl
theorem kc36 : okT (36, w36.toA) := by
  show cFun Tryd.prog 36 = some w36.toA.erase
  kernel_rfl
theorem kc37 : okT (37, w37.toA) := by
  show cFun Tryd.prog 37 = some w37.toA.erase
  kernel_rfl
theorem kc38 : okT (38, w38.toA) := by
  show cFun Tryd.prog 38 = some w38.toA.erase
  kernel_rfl
theorem kc39 : okT (39, w39.toA) := by
  show cFun Tryd.prog 39 = some w39.toA.erase
  kernel_rfl
theorem kc40 : okT (40, w40.toA) := by
  show cFun Tryd.prog 40 = some w40.toA.erase
  kernel_rfl
theorem kc41 : okT (41, w41.toA) := by
  show cFun Tryd.prog 41 = some w41.toA.erase
  kernel_rfl
theorem kc42 : okT (42, w42.toA) := by
  show cFun Tryd.prog 42 = some w42.toA.erase
  kernel_rfl
theorem kc43 : okT (43, w43.toA) := by
  show cFun Tryd.prog 43 = some w43.toA.erase
  kernel_rfl
theorem kc44 : okT (44, w44.toA) := by
  show cFun Tryd.prog 44 = some w44.toA.erase
  kernel_rfl
theorem kc45 : okT (45, w45.toA) := by
  show cFun Tryd.prog 45 = some w45.toA.erase
  kernel_rfl
theorem kc46 : okT (46, w46.toA) := by
  show cFun Tryd.prog 46 = some w46.toA.erase
  kernel_rfl
theorem kc47 : okT (47, w47.toA) := by
  show cFun Tryd.prog 47 = some w47.toA.erase
  kernel_rfl
theorem kc48 : okT (48, w48.toA) := by
  show cFun Tryd.prog 48 = some w48.toA.erase
  kernel_rfl
theorem kc49 : okT (49, w49.toA) := by
  show cFun Tryd.prog 49 = some w49.toA.erase
  kernel_rfl
theorem kc50 : okT (50, w50.toA) := by
  show cFun Tryd.prog 50 = some w50.toA.erase
  kernel_rfl
theorem kc51 : okT (51, w51.toA) := by
  show cFun Tryd.prog 51 = some w51.toA.erase
  kernel_rfl
theorem kc52 : okT (52, w52.toA) := by
  show cFun Tryd.prog 52 = some w52.toA.erase
  kernel_rfl
theorem kc53 : okT (53, w53.toA) := by
  show cFun Tryd.prog 53 = some w53.toA.erase
  kernel_rfl
theorem kc54 : okT (54, w54.toA) := by
  show cFun Tryd.prog 54 = some w54.toA.erase
  kernel_rfl
theorem kc55 : okT (55, w55.toA) := by
  show cFun Tryd.prog 55 = some w55.toA.erase
  kernel_rfl
theorem kc56 : okT (56, w56.toA) := by
  show cFun Tryd.prog 56 = some w56.toA.erase
  kernel_rfl
theorem kc57 : okT (57, w57.toA) := by
  show cFun Tryd.prog 57 = some w57.toA.erase
  kernel_rfl
theorem kc58 : okT (58, w58.toA) := by
  show cFun Tryd.prog 58 = some w58.toA.erase
  kernel_rfl
theorem kc59 : okT (59, w59.toA) := by
  show cFun Tryd.prog 59 = some w59.toA.erase
  kernel_rfl
theorem kc60 : okT (60, w60.toA) := by
  show cFun Tryd.prog 60 = some w60.toA.erase
  kernel_rfl
theorem kc61 : okT (61, w61.toA) := by
  show cFun Tryd.prog 61 = some w61.toA.erase
  kernel_rfl
theorem kc62 : okT (62, w62.toA) := by
  show cFun Tryd.prog 62 = some w62.toA.erase
  kernel_rfl
theorem kc63 : okT (63, w63.toA) := by
  show cFun Tryd.prog 63 = some w63.toA.erase
  kernel_rfl
theorem kc64 : okT (64, w64.toA) := by
  show cFun Tryd.prog 64 = some w64.toA.erase
  kernel_rfl
theorem kc65 : okT (65, w65.toA) := by
  show cFun Tryd.prog 65 = some w65.toA.erase
  kernel_rfl
theorem kc66 : okT (66, w66.toA) := by
  show cFun Tryd.prog 66 = some w66.toA.erase
  kernel_rfl
theorem kc67 : okT (67, w67.toA) := by
  show cFun Tryd.prog 67 = some w67.toA.erase
  kernel_rfl
theorem kc68 : okT (68, w68.toA) := by
  show cFun Tryd.prog 68 = some w68.toA.erase
  kernel_rfl
theorem kc69 : okT (69, w69.toA) := by
  show cFun Tryd.prog 69 = some w69.toA.erase
  kernel_rfl
theorem kc70 : okT (70, w70.toA) := by
  show cFun Tryd.prog 70 = some w70.toA.erase
  kernel_rfl
theorem kc71 : okT (71, w71.toA) := by
  show cFun Tryd.prog 71 = some w71.toA.erase
  kernel_rfl
theorem kc72 : okT (72, w72.toA) := by
  show cFun Tryd.prog 72 = some w72.toA.erase
  kernel_rfl
theorem kc73 : okT (73, w73.toA) := by
  show cFun Tryd.prog 73 = some w73.toA.erase
  kernel_rfl
theorem kc74 : okT (74, w74.toA) := by
  show cFun Tryd.prog 74 = some w74.toA.erase
  kernel_rfl
theorem kc75 : okT (75, w75.toA) := by
  show cFun Tryd.prog 75 = some w75.toA.erase
  kernel_rfl
theorem kc76 : okT (76, w76.toA) := by
  show cFun Tryd.prog 76 = some w76.toA.erase
  kernel_rfl
theorem kc77 : okT (77, w77.toA) := by
  show cFun Tryd.prog 77 = some w77.toA.erase
  kernel_rfl
theorem kc78 : okT (78, w78.toA) := by
  show cFun Tryd.prog 78 = some w78.toA.erase
  kernel_rfl
theorem kc79 : okT (79, w79.toA) := by
  show cFun Tryd.prog 79 = some w79.toA.erase
  kernel_rfl
theorem kc80 : okT (80, w80.toA) := by
  show cFun Tryd.prog 80 = some w80.toA.erase
  kernel_rfl
theorem kc81 : okT (81, w81.toA) := by
  show cFun Tryd.prog 81 = some w81.toA.erase
  kernel_rfl
theorem kc82 : okT (82, w82.toA) := by
  show cFun Tryd.prog 82 = some w82.toA.erase
  kernel_rfl
theorem kc83 : okT (83, w83.toA) := by
  show cFun Tryd.prog 83 = some w83.toA.erase
  kernel_rfl
theorem kc84 : okT (84, w84.toA) := by
  show cFun Tryd.prog 84 = some w84.toA.erase
  kernel_rfl
theorem kc88 : okT (88, w88.toA) := by
  show cFun Tryd.prog 88 = some w88.toA.erase
  kernel_rfl
theorem kc90 : okT (90, w90.toA) := by
  show cFun Tryd.prog 90 = some w90.toA.erase
  kernel_rfl
theorem kc91 : okT (91, w91.toA) := by
  show cFun Tryd.prog 91 = some w91.toA.erase
  kernel_rfl
theorem kc92 : okT (92, w92.toA) := by
  show cFun Tryd.prog 92 = some w92.toA.erase
  kernel_rfl
theorem kc93 : okT (93, w93.toA) := by
  show cFun Tryd.prog 93 = some w93.toA.erase
  kernel_rfl
theorem kc97 : okT (97, w97.toA) := by
  show cFun Tryd.prog 97 = some w97.toA.erase
  kernel_rfl
theorem kc98 : okT (98, w98.toA) := by
  show cFun Tryd.prog 98 = some w98.toA.erase
  kernel_rfl
theorem tab_ok : ∀ x ∈ tab, cFun Tryd.prog x.1 = some x.2.erase :=
  okT_c kc3 <| okT_c kc4 <| okT_c kc5 <| okT_c kc6 <| okT_c kc7 <| okT_c kc8 <| okT_c kc9 <| okT_c kc10 <| okT_c kc11 <| okT_c kc12 <| okT_c kc13 <| okT_c kc14 <| okT_c kc15 <| okT_c kc16 <| okT_c kc17 <| okT_c kc18 <| okT_c kc19 <| okT_c kc20 <| okT_c kc21 <| okT_c kc22 <| okT_c kc23 <| okT_c kc24 <| okT_c kc25 <| okT_c kc26 <| okT_c kc27 <| okT_c kc28 <| okT_c kc29 <| okT_c kc30 <| okT_c kc31 <| okT_c kc32 <| okT_c kc33 <| okT_c kc34 <| okT_c kc35 <| okT_c kc36 <| okT_c kc37 <| okT_c kc38 <| okT_c kc39 <| okT_c kc40 <| okT_c kc41 <| okT_c kc42 <| okT_c kc43 <| okT_c kc44 <| okT_c kc45 <| okT_c kc46 <| okT_c kc47 <| okT_c kc48 <| okT_c kc49 <| okT_c kc50 <| okT_c kc51 <| okT_c kc52 <| okT_c kc53 <| okT_c kc54 <| okT_c kc55 <| okT_c kc56 <| okT_c kc57 <| okT_c kc58 <| okT_c kc59 <| okT_c kc60 <| okT_c kc61 <| okT_c kc62 <| okT_c kc63 <| okT_c kc64 <| okT_c kc65 <| okT_c kc66 <| okT_c kc67 <| okT_c kc68 <| okT_c kc69 <| okT_c kc70 <| okT_c kc71 <| okT_c kc72 <| okT_c kc73 <| okT_c kc74 <| okT_c kc75 <| okT_c kc76 <| okT_c kc77 <| okT_c kc78 <| okT_c kc79 <| okT_c kc80 <| okT_c kc81 <| okT_c kc82 <| okT_c kc83 <| okT_c kc84 <| okT_c kc88 <| okT_c kc90 <| okT_c kc91 <| okT_c kc92 <| okT_c kc93 <| okT_c kc97 <| okT_c kc98 <| okT_n
theorem k3 : okW w3.code = true := by kernel_rfl
theorem k4 : okW w4.code = true := by kernel_rfl
theorem k5 : okW w5.code = true := by kernel_rfl
theorem k6 : okW w6.code = true := by kernel_rfl
theorem k7 : okW w7.code = true := by kernel_rfl
theorem k9 : okW w9.code = true := by kernel_rfl
theorem k10 : okW w10.code = true := by kernel_rfl
theorem k11 : okW w11.code = true := by kernel_rfl
theorem k12 : okW w12.code = true := by kernel_rfl
theorem k13 : okW w13.code = true := by kernel_rfl
theorem k14 : okW w14.code = true := by kernel_rfl
theorem k15 : okW w15.code = true := by kernel_rfl
theorem k16 : okW w16.code = true := by kernel_rfl
theorem k17 : okW w17.code = true := by kernel_rfl
theorem k18 : okW w18.code = true := by kernel_rfl
theorem k19 : okW w19.code = true := by kernel_rfl
theorem k20 : okW w20.code = true := by kernel_rfl
theorem k21 : okW w21.code = true := by kernel_rfl
theorem k22 : okW w22.code = true := by kernel_rfl
theorem k23 : okW w23.code = true := by kernel_rfl
theorem k24 : okW w24.code = true := by kernel_rfl
theorem k25 : okW w25.code = true := by kernel_rfl
theorem k26 : okW w26.code = true := by kernel_rfl
theorem k27 : okW w27.code = true := by kernel_rfl
theorem k28 : okW w28.code = true := by kernel_rfl
theorem k29 : okW w29.code = true := by kernel_rfl
theorem k30 : okW w30.code = true := by kernel_rfl
theorem k31 : okW w31.code = true := by kernel_rfl
theorem k32 : okW w32.code = true := by kernel_rfl
theorem k33 : okW w33.code = true := by kernel_rfl
theorem k34 : okW w34.code = true := by kernel_rfl
theorem k35 : okW w35.code = true := by kernel_rfl
theorem k36 : okW w36.code = true := by kernel_rfl
theorem k37 : okW w37.code = true := by kernel_rfl
theorem k38 : okW w38.code = true := by kernel_rfl
theorem k39 : okW w39.code = true := by kernel_rfl
theorem k40 : okW w40.code = true := by kernel_rfl
theorem k41 : okW w41.code = true := by kernel_rfl
theorem k42 : okW w42.code = true := by kernel_rfl
theorem k43 : okW w43.code = true := by kernel_rfl
theorem k44 : okW w44.code = true := by kernel_rfl
theorem k45 : okW w45.code = true := by kernel_rfl
theorem k46 : okW w46.code = true := by kernel_rfl
theorem k47 : okW w47.code = true := by kernel_rfl
theorem k48 : okW w48.code = true := by kernel_rfl
theorem k49 : okW w49.code = true := by kernel_rfl
theorem k50 : okW w50.code = true := by kernel_rfl
theorem k51 : okW w51.code = true := by kernel_rfl
theorem k53 : okW w53.code = true := by kernel_rfl
theorem k54 : okW w54.code = true := by kernel_rfl
theorem k55 : okW w55.code = true := by kernel_rfl
theorem k56 : okW w56.code = true := by kernel_rfl
theorem k57 : okW w57.code = true := by kernel_rfl
theorem k58 : okW w58.code = true := by kernel_rfl
theorem k59 : okW w59.code = true := by kernel_rfl
theorem k60 : okW w60.code = true := by kernel_rfl
theorem k61 : okW w61.code = true := by kernel_rfl
theorem k62 : okW w62.code = true := by kernel_rfl
theorem k63 : okW w63.code = true := by kernel_rfl
theorem k64 : okW w64.code = true := by kernel_rfl
theorem k65 : okW w65.code = true := by kernel_rfl
theorem k66 : okW w66.code = true := by kernel_rfl
theorem k67 : okW w67.code = true := by kernel_rfl
theorem k68 : okW w68.code = true := by kernel_rfl
theorem k69 : okW w69.code = true := by kernel_rfl
theorem k70 : okW w70.code = true := by kernel_rfl
theorem k71 : okW w71.code = true := by kernel_rfl
theorem k72 : okW w72.code = true := by kernel_rfl
theorem k73 : okW w73.code = true := by kernel_rfl
theorem k74 : okW w74.code = true := by kernel_rfl
theorem k75 : okW w75.code = true := by kernel_rfl
theorem k76 : okW w76.code = true := by kernel_rfl
theorem k77 : okW w77.code = true := by kernel_rfl
theorem k78 : okW w78.code = true := by kernel_rfl
theorem k79 : okW w79.code = true := by kernel_rfl
theorem k80 : okW w80.code = true := by kernel_rfl
theorem k81 : okW w81.code = true := by kernel_rfl
theorem k82 : okW w82.code = true := by kernel_rfl
theorem k83 : okW w83.code = true := by kernel_rfl
theorem k84 : okW w84.code = true := by kernel_rfl
theorem k88 : okW w88.code = true := by kernel_rfl
theorem k90 : okW w90.code = true := by kernel_rfl
theorem k91 : okW w91.code = true := by kernel_rfl
theorem k92 : okW w92.code = true := by kernel_rfl
theorem k93 : okW w93.code = true := by kernel_rfl
theorem k98 : okW w98.code = true := by kernel_rfl
theorem kd8 : okD w8 = true := by kernel_rfl
theorem kd52 : okD w52 = true := by kernel_rfl
theorem ka70 : okW ca70 = true := by kernel_rfl
theorem kb70 : okW cb70 = true := by kernel_rfl
theorem ka160 : okW ca160 = true := by kernel_rfl
theorem kb160 : okW cb160 = true := by kernel_rfl
theorem ka180 : okW ca180 = true := by kernel_rfl
theorem kb180 : okW cb180 = true := by kernel_rfl
theorem ka220 : okW ca220 = true := by kernel_rfl
theorem kb220 : okW cb220 = true := by kernel_rfl
def bods (k : Nat) : Option ABody := if k = 70 then some bd70 else if k = 160 then some bd160 else if k = 180 then some bd180 else if k = 220 then some bd220 else none
theorem bods_ok (k : Nat) (ab : ABody) (h : bods k = some ab) : hasR ab.assign = false ∧ hasR ab.body = false := by
  unfold bods at h
  split at h
  · cases h; exact ⟨by kernel_rfl, by kernel_rfl⟩
  split at h
  · cases h; exact ⟨by kernel_rfl, by kernel_rfl⟩
  split at h
  · cases h; exact ⟨by kernel_rfl, by kernel_rfl⟩
  split at h
  · cases h; exact ⟨by kernel_rfl, by kernel_rfl⟩
  cases h
def lk : List (Nat × AFun) → FuncId → Option AFun
  | [], _ => none
  | (i, a) :: r, f => if f = i then some a else lk r f
theorem lk_mem : ∀ (t : List (Nat × AFun)) (f : FuncId) (a : AFun), lk t f = some a → (f, a) ∈ t
  | [], _, _, h => by cases h
  | (i, b) :: r, f, a, h => by
    unfold lk at h
    split at h
    · rename_i e; cases h; subst e; exact List.mem_cons_self ..
    · exact List.mem_cons_of_mem _ (lk_mem r f a h)
end Fz.D
set_option maxRecDepth 100000
namespace Fz.D
open Go Go.Proofs
def isInl (f : FuncId) : Bool := f == 64 || f == 62 || f == 60 || f == 57 || f == 59 || f == 74 || f == 53 || f == 25 || f == 23 || f == 52 || f == 65 || f == 63 || f == 61 || f == 58 || f == 56 || f == 21 || f == 47 || f == 13 || f == 35 || f == 70 || f == 34 || f == 79 || f == 80 || f == 81 || f == 82 || f == 83 || f == 90 || f == 91 || f == 92 || f == 93 || f == 89 || f == 22 || f == 11 || f == 33 || f == 36 || f == 71 || f == 76 || f == 24 || f == 55 || f == 27
def wrongT : TypeId := 60
def p : AP := { fn := lk tab, prim := fun f => if f = 89 then some rowP else none, inl := isInl, body := bods }
@[simp] theorem inl_eq (f : FuncId) : p.inlY f = (f == 4000000000 || isInl f) := (rfl)
def isTrue : Option (CR × List Ob) → Bool
  | some (.ret (.bool b), _) => b
  | _ => false
theorem isTrue_ok {r : Option (CR × List Ob)} (h : isTrue r = true) : ∃ H, r = some (.ret (.bool true), H) := by
  unfold isTrue at h
  split at h
  · subst h; exact ⟨_, rfl⟩
  · cases h
theorem awake_run : isTrue (acall p 400 5 [] []) = true := by kernel_rfl
end Fz.D
set_option maxRecDepth 100000
namespace Fz.D
open Go
def byV (b : List Int) : V := .list (b.map (V.int .u8)) false
@[simp] theorem byV.gd (b : List Int) : ground (byV b) = true := by simp [byV]
@[simp] theorem byV.gk (b : List Int) (k : Nat) : gk (k + 1) (byV b) = true := by simp [byV]
@[simp] theorem byV.nr (b : List Int) : nrm (byV b) = byV b := by simp [byV]
@[simp] theorem byV.nrc : nrm ∘ byV = byV := funext fun x => byV.nr x
@[simp] theorem byV.nm (b : List Int) : nm (byV b) = true := by simp [byV]
@[simp] theorem byV.any (b : List Int) : isAny (byV b) = false := rfl
@[simp] theorem byV.cells (b : List Int) : cellsOf (byV b) = [byV b] := rfl
@[simp] theorem byV.st (b : List Int) : storable (byV b) = true := rfl
@[simp] theorem byV.lf (b : List Int) : leafy (byV b) = true := rfl
@[simp] theorem byV.uni (l : List (List Int)) : uni 1 (l.map byV) = true := uni_map fun _ => rfl
@[simp] theorem byV.flat (l : List (List Int)) : flat (l.map byV) = l.map byV := flat_one fun _ => rfl
@[simp] theorem byV.sl (b : List Int) (L : List V → Bool → Prop) (O : Nat → Nat → Nat → Nat → Prop) : wSl (byV b) L O = L (b.map (V.int .u8)) false := (rfl)
@[simp] theorem byV.el (b : List Int) (H : List Ob) (n : Nat) (K : List V → Nat → Prop) : xElems H n (byV b) K = xElems H n (.list (b.map (V.int .u8)) false) K := (rfl)
@[simp] theorem byV.xs (b : List Int) (H : List Ob) (n : Nat) (lo hi mx : Option V) (K : V → Prop) : xSlice H (.sl n) (byV b) lo hi mx K = xSlice H (.sl n) (.list (b.map (V.int .u8)) false) lo hi mx K := (rfl)
def inV (b : List Int) : V := .list (b.map (V.int .i64)) false
@[simp] theorem inV.gd (b : List Int) : ground (inV b) = true := by simp [inV]
@[simp] theorem inV.gk (b : List Int) (k : Nat) : gk (k + 1) (inV b) = true := by simp [inV]
@[simp] theorem inV.nr (b : List Int) : nrm (inV b) = inV b := by simp [inV]
@[simp] theorem inV.nrc : nrm ∘ inV = inV := funext fun x => inV.nr x
@[simp] theorem inV.nm (b : List Int) : nm (inV b) = true := by simp [inV]
@[simp] theorem inV.any (b : List Int) : isAny (inV b) = false := rfl
@[simp] theorem inV.cells (b : List Int) : cellsOf (inV b) = [inV b] := rfl
@[simp] theorem inV.st (b : List Int) : storable (inV b) = true := rfl
@[simp] theorem inV.lf (b : List Int) : leafy (inV b) = true := rfl
@[simp] theorem inV.uni (l : List (List Int)) : uni 1 (l.map inV) = true := uni_map fun _ => rfl
@[simp] theorem inV.flat (l : List (List Int)) : flat (l.map inV) = l.map inV := flat_one fun _ => rfl
@[simp] theorem inV.sl (b : List Int) (L : List V → Bool → Prop) (O : Nat → Nat → Nat → Nat → Prop) : wSl (inV b) L O = L (b.map (V.int .i64)) false := (rfl)
@[simp] theorem inV.el (b : List Int) (H : List Ob) (n : Nat) (K : List V → Nat → Prop) : xElems H n (inV b) K = xElems H n (.list (b.map (V.int .i64)) false) K := (rfl)
@[simp] theorem inV.xs (b : List Int) (H : List Ob) (n : Nat) (lo hi mx : Option V) (K : V → Prop) : xSlice H (.sl n) (inV b) lo hi mx K = xSlice H (.sl n) (.list (b.map (V.int .i64)) false) lo hi mx K := (rfl)
structure Slo where
  v : Int
  call : Bool
deriving Inhabited, DecidableEq
structure Wor where
  name : ByteArray
  code : Int
  now : Bool
  hid : Bool
deriving Inhabited
structure Spo where
  addr : Int
  at_ : Int
deriving Inhabited, DecidableEq
structure Rn where
  at_ : Int
  b : List Int
deriving Inhabited, DecidableEq
def sloV (s : Slo) : V := .agg [.int .i64 s.v, .bool s.call]
@[simp] theorem sloV.gd (s : Slo) : ground (sloV s) = true := by simp [sloV]
@[simp] theorem sloV.gk (s : Slo) (k : Nat) : gk (k + 2) (sloV s) = true := by simp [sloV]
@[simp] theorem sloV.nr (s : Slo) : nrm (sloV s) = sloV s := by simp [sloV]
@[simp] theorem sloV.nrc : nrm ∘ sloV = sloV := funext fun x => sloV.nr x
@[simp] theorem sloV.nm (s : Slo) : nm (sloV s) = true := by simp [sloV]
@[simp] theorem sloV.any (s : Slo) : isAny (sloV s) = false := rfl
@[simp] theorem sloV.cells (s : Slo) : cellsOf (sloV s) = [.int .i64 s.v, .bool s.call] := rfl
@[simp] theorem sloV.uni (l : List (Slo)) : uni 2 (l.map sloV) = true := uni_map fun _ => rfl
@[simp] theorem sloV.flat (l : List (Slo)) : flat (l.map sloV) = l.flatMap fun s => [.int .i64 s.v, .bool s.call] := by rw [flat_map]; rfl
def worV (s : Wor) : V := .agg [.str s.name, .int .i64 s.code, .bool s.now, .bool s.hid]
@[simp] theorem worV.gd (s : Wor) : ground (worV s) = true := by simp [worV]
@[simp] theorem worV.gk (s : Wor) (k : Nat) : gk (k + 2) (worV s) = true := by simp [worV]
@[simp] theorem worV.nr (s : Wor) : nrm (worV s) = worV s := by simp [worV]
@[simp] theorem worV.nrc : nrm ∘ worV = worV := funext fun x => worV.nr x
@[simp] theorem worV.nm (s : Wor) : nm (worV s) = true := by simp [worV]
@[simp] theorem worV.any (s : Wor) : isAny (worV s) = false := rfl
@[simp] theorem worV.cells (s : Wor) : cellsOf (worV s) = [.str s.name, .int .i64 s.code, .bool s.now, .bool s.hid] := rfl
@[simp] theorem worV.uni (l : List (Wor)) : uni 4 (l.map worV) = true := uni_map fun _ => rfl
@[simp] theorem worV.flat (l : List (Wor)) : flat (l.map worV) = l.flatMap fun s => [.str s.name, .int .i64 s.code, .bool s.now, .bool s.hid] := by rw [flat_map]; rfl
def spoV (s : Spo) : V := .agg [.int .i64 s.addr, .int .i64 s.at_]
@[simp] theorem spoV.gd (s : Spo) : ground (spoV s) = true := by simp [spoV]
@[simp] theorem spoV.gk (s : Spo) (k : Nat) : gk (k + 2) (spoV s) = true := by simp [spoV]
@[simp] theorem spoV.nr (s : Spo) : nrm (spoV s) = spoV s := by simp [spoV]
@[simp] theorem spoV.nrc : nrm ∘ spoV = spoV := funext fun x => spoV.nr x
@[simp] theorem spoV.nm (s : Spo) : nm (spoV s) = true := by simp [spoV]
@[simp] theorem spoV.any (s : Spo) : isAny (spoV s) = false := rfl
@[simp] theorem spoV.cells (s : Spo) : cellsOf (spoV s) = [.int .i64 s.addr, .int .i64 s.at_] := rfl
@[simp] theorem spoV.uni (l : List (Spo)) : uni 2 (l.map spoV) = true := uni_map fun _ => rfl
@[simp] theorem spoV.flat (l : List (Spo)) : flat (l.map spoV) = l.flatMap fun s => [.int .i64 s.addr, .int .i64 s.at_] := by rw [flat_map]; rfl
def runV (s : Rn) : V := .agg [.int .i64 s.at_, byV s.b]
@[simp] theorem runV.gd (s : Rn) : ground (runV s) = true := by simp [runV]
@[simp] theorem runV.gk (s : Rn) (k : Nat) : gk (k + 2) (runV s) = true := by simp [runV]
@[simp] theorem runV.nr (s : Rn) : nrm (runV s) = runV s := by simp [runV]
@[simp] theorem runV.nrc : nrm ∘ runV = runV := funext fun x => runV.nr x
@[simp] theorem runV.nm (s : Rn) : nm (runV s) = true := by simp [runV]
@[simp] theorem runV.any (s : Rn) : isAny (runV s) = false := rfl
@[simp] theorem runV.cells (s : Rn) : cellsOf (runV s) = [.int .i64 s.at_, byV s.b] := rfl
@[simp] theorem runV.uni (l : List (Rn)) : uni 2 (l.map runV) = true := uni_map fun _ => rfl
@[simp] theorem runV.flat (l : List (Rn)) : flat (l.map runV) = l.flatMap fun s => [.int .i64 s.at_, byV s.b] := by rw [flat_map]; rfl
def slosV (l : List Slo) : V := .list (l.map sloV) false
@[simp] theorem slosV.gd (l : List Slo) : ground (slosV l) = true := by simp [slosV]
@[simp] theorem slosV.gk (l : List Slo) (k : Nat) : gk (k + 1) (slosV l) = true := by simp [slosV]
@[simp] theorem slosV.nr (l : List Slo) : nrm (slosV l) = slosV l := by simp [slosV]
@[simp] theorem slosV.nrc : nrm ∘ slosV = slosV := funext fun x => slosV.nr x
@[simp] theorem slosV.nm (l : List Slo) : nm (slosV l) = true := by simp [slosV]
@[simp] theorem slosV.any (l : List Slo) : isAny (slosV l) = false := rfl
@[simp] theorem slosV.cells (l : List Slo) : cellsOf (slosV l) = [slosV l] := rfl
@[simp] theorem slosV.st (l : List Slo) : storable (slosV l) = true := rfl
@[simp] theorem slosV.lf (l : List Slo) : leafy (slosV l) = true := rfl
@[simp] theorem slosV.uni (l : List (List Slo)) : uni 1 (l.map slosV) = true := uni_map fun _ => rfl
@[simp] theorem slosV.flat (l : List (List Slo)) : flat (l.map slosV) = l.map slosV := flat_one fun _ => rfl
@[simp] theorem slosV.sl (l : List Slo) (L : List V → Bool → Prop) (O : Nat → Nat → Nat → Nat → Prop) : wSl (slosV l) L O = L (l.map sloV) false := (rfl)
@[simp] theorem slosV.el (l : List Slo) (H : List Ob) (n : Nat) (K : List V → Nat → Prop) : xElems H n (slosV l) K = xElems H n (.list (l.map sloV) false) K := (rfl)
@[simp] theorem slosV.xs (l : List Slo) (H : List Ob) (n : Nat) (lo hi mx : Option V) (K : V → Prop) : xSlice H (.sl n) (slosV l) lo hi mx K = xSlice H (.sl n) (.list (l.map sloV) false) lo hi mx K := (rfl)
def worsV (l : List Wor) : V := .list (l.map worV) false
@[simp] theorem worsV.gd (l : List Wor) : ground (worsV l) = true := by simp [worsV]
@[simp] theorem worsV.gk (l : List Wor) (k : Nat) : gk (k + 1) (worsV l) = true := by simp [worsV]
@[simp] theorem worsV.nr (l : List Wor) : nrm (worsV l) = worsV l := by simp [worsV]
@[simp] theorem worsV.nrc : nrm ∘ worsV = worsV := funext fun x => worsV.nr x
@[simp] theorem worsV.nm (l : List Wor) : nm (worsV l) = true := by simp [worsV]
@[simp] theorem worsV.any (l : List Wor) : isAny (worsV l) = false := rfl
@[simp] theorem worsV.cells (l : List Wor) : cellsOf (worsV l) = [worsV l] := rfl
@[simp] theorem worsV.st (l : List Wor) : storable (worsV l) = true := rfl
@[simp] theorem worsV.lf (l : List Wor) : leafy (worsV l) = true := rfl
@[simp] theorem worsV.uni (l : List (List Wor)) : uni 1 (l.map worsV) = true := uni_map fun _ => rfl
@[simp] theorem worsV.flat (l : List (List Wor)) : flat (l.map worsV) = l.map worsV := flat_one fun _ => rfl
@[simp] theorem worsV.sl (l : List Wor) (L : List V → Bool → Prop) (O : Nat → Nat → Nat → Nat → Prop) : wSl (worsV l) L O = L (l.map worV) false := (rfl)
@[simp] theorem worsV.el (l : List Wor) (H : List Ob) (n : Nat) (K : List V → Nat → Prop) : xElems H n (worsV l) K = xElems H n (.list (l.map worV) false) K := (rfl)
@[simp] theorem worsV.xs (l : List Wor) (H : List Ob) (n : Nat) (lo hi mx : Option V) (K : V → Prop) : xSlice H (.sl n) (worsV l) lo hi mx K = xSlice H (.sl n) (.list (l.map worV) false) lo hi mx K := (rfl)
def sposV (l : List Spo) : V := .list (l.map spoV) false
@[simp] theorem sposV.gd (l : List Spo) : ground (sposV l) = true := by simp [sposV]
@[simp] theorem sposV.gk (l : List Spo) (k : Nat) : gk (k + 1) (sposV l) = true := by simp [sposV]
@[simp] theorem sposV.nr (l : List Spo) : nrm (sposV l) = sposV l := by simp [sposV]
@[simp] theorem sposV.nrc : nrm ∘ sposV = sposV := funext fun x => sposV.nr x
@[simp] theorem sposV.nm (l : List Spo) : nm (sposV l) = true := by simp [sposV]
@[simp] theorem sposV.any (l : List Spo) : isAny (sposV l) = false := rfl
@[simp] theorem sposV.cells (l : List Spo) : cellsOf (sposV l) = [sposV l] := rfl
@[simp] theorem sposV.st (l : List Spo) : storable (sposV l) = true := rfl
@[simp] theorem sposV.lf (l : List Spo) : leafy (sposV l) = true := rfl
@[simp] theorem sposV.uni (l : List (List Spo)) : uni 1 (l.map sposV) = true := uni_map fun _ => rfl
@[simp] theorem sposV.flat (l : List (List Spo)) : flat (l.map sposV) = l.map sposV := flat_one fun _ => rfl
@[simp] theorem sposV.sl (l : List Spo) (L : List V → Bool → Prop) (O : Nat → Nat → Nat → Nat → Prop) : wSl (sposV l) L O = L (l.map spoV) false := (rfl)
@[simp] theorem sposV.el (l : List Spo) (H : List Ob) (n : Nat) (K : List V → Nat → Prop) : xElems H n (sposV l) K = xElems H n (.list (l.map spoV) false) K := (rfl)
@[simp] theorem sposV.xs (l : List Spo) (H : List Ob) (n : Nat) (lo hi mx : Option V) (K : V → Prop) : xSlice H (.sl n) (sposV l) lo hi mx K = xSlice H (.sl n) (.list (l.map spoV) false) lo hi mx K := (rfl)
def runsV (l : List Rn) : V := .list (l.map runV) false
@[simp] theorem runsV.gd (l : List Rn) : ground (runsV l) = true := by simp [runsV]
@[simp] theorem runsV.gk (l : List Rn) (k : Nat) : gk (k + 1) (runsV l) = true := by simp [runsV]
@[simp] theorem runsV.nr (l : List Rn) : nrm (runsV l) = runsV l := by simp [runsV]
@[simp] theorem runsV.nrc : nrm ∘ runsV = runsV := funext fun x => runsV.nr x
@[simp] theorem runsV.nm (l : List Rn) : nm (runsV l) = true := by simp [runsV]
@[simp] theorem runsV.any (l : List Rn) : isAny (runsV l) = false := rfl
@[simp] theorem runsV.cells (l : List Rn) : cellsOf (runsV l) = [runsV l] := rfl
@[simp] theorem runsV.st (l : List Rn) : storable (runsV l) = true := rfl
@[simp] theorem runsV.lf (l : List Rn) : leafy (runsV l) = true := rfl
@[simp] theorem runsV.uni (l : List (List Rn)) : uni 1 (l.map runsV) = true := uni_map fun _ => rfl
@[simp] theorem runsV.flat (l : List (List Rn)) : flat (l.map runsV) = l.map runsV := flat_one fun _ => rfl
@[simp] theorem runsV.sl (l : List Rn) (L : List V → Bool → Prop) (O : Nat → Nat → Nat → Nat → Prop) : wSl (runsV l) L O = L (l.map runV) false := (rfl)
@[simp] theorem runsV.el (l : List Rn) (H : List Ob) (n : Nat) (K : List V → Nat → Prop) : xElems H n (runsV l) K = xElems H n (.list (l.map runV) false) K := (rfl)
@[simp] theorem runsV.xs (l : List Rn) (H : List Ob) (n : Nat) (lo hi mx : Option V) (K : V → Prop) : xSlice H (.sl n) (runsV l) lo hi mx K = xSlice H (.sl n) (.list (l.map runV) false) lo hi mx K := (rfl)
structure St where
  mem : List Int
  data : List Int
  ret : List Slo
  ctl : List Int
  words : List Wor
  spots : List Spo
  out : List Int
  ip : Int
  here : Int
  at_ : Int
  tok : Int
  in_ : Int
  err : Int
  comp : Bool
  halt : Bool
deriving Inhabited
structure De where
  mem : List Rn
  dk : Int
  dt : List Int
  rk : Int
  rt : List Slo
  ck : Int
  ct : List Int
  wk : Int
  wt : List Wor
  sk : Int
  st : List Spo
  out : Int
  r0 : Int
  r1 : Int
  r2 : Int
  r3 : Int
  r4 : Int
  r5 : Int
  comp : Bool
  halt : Bool
deriving Inhabited
def stV (s : St) : V := .agg [byV s.mem, inV s.data, slosV s.ret, inV s.ctl, worsV s.words, sposV s.spots, byV s.out, .int .i64 s.ip, .int .i64 s.here, .int .i64 s.at_, .int .i64 s.tok, .int .i64 s.in_, .int .i64 s.err, .bool s.comp, .bool s.halt]
@[simp] theorem stV.gd (s : St) : ground (stV s) = true := by simp [stV]
@[simp] theorem stV.gk (s : St) (k : Nat) : gk (k + 2) (stV s) = true := by simp [stV]
@[simp] theorem stV.nr (s : St) : nrm (stV s) = stV s := by simp [stV]
@[simp] theorem stV.nrc : nrm ∘ stV = stV := funext fun x => stV.nr x
@[simp] theorem stV.nm (s : St) : nm (stV s) = true := by simp [stV]
@[simp] theorem stV.any (s : St) : isAny (stV s) = false := rfl
@[simp] theorem stV.cells (s : St) : cellsOf (stV s) = [byV s.mem, inV s.data, slosV s.ret, inV s.ctl, worsV s.words, sposV s.spots, byV s.out, .int .i64 s.ip, .int .i64 s.here, .int .i64 s.at_, .int .i64 s.tok, .int .i64 s.in_, .int .i64 s.err, .bool s.comp, .bool s.halt] := rfl
@[simp] theorem stV.uni (l : List (St)) : uni 15 (l.map stV) = true := uni_map fun _ => rfl
@[simp] theorem stV.flat (l : List (St)) : flat (l.map stV) = l.flatMap fun s => [byV s.mem, inV s.data, slosV s.ret, inV s.ctl, worsV s.words, sposV s.spots, byV s.out, .int .i64 s.ip, .int .i64 s.here, .int .i64 s.at_, .int .i64 s.tok, .int .i64 s.in_, .int .i64 s.err, .bool s.comp, .bool s.halt] := by rw [flat_map]; rfl
def deV (d : De) : V := .agg [runsV d.mem, .int .i64 d.dk, inV d.dt, .int .i64 d.rk, slosV d.rt, .int .i64 d.ck, inV d.ct, .int .i64 d.wk, worsV d.wt, .int .i64 d.sk, sposV d.st, .int .i64 d.out, .int .i64 d.r0, .int .i64 d.r1, .int .i64 d.r2, .int .i64 d.r3, .int .i64 d.r4, .int .i64 d.r5, .bool d.comp, .bool d.halt]
@[simp] theorem deV.gd (d : De) : ground (deV d) = true := by simp [deV]
@[simp] theorem deV.gk (d : De) (k : Nat) : gk (k + 2) (deV d) = true := by simp [deV]
@[simp] theorem deV.nr (d : De) : nrm (deV d) = deV d := by simp [deV]
@[simp] theorem deV.nrc : nrm ∘ deV = deV := funext fun x => deV.nr x
@[simp] theorem deV.nm (d : De) : nm (deV d) = true := by simp [deV]
@[simp] theorem deV.any (d : De) : isAny (deV d) = false := rfl
@[simp] theorem deV.cells (d : De) : cellsOf (deV d) = [runsV d.mem, .int .i64 d.dk, inV d.dt, .int .i64 d.rk, slosV d.rt, .int .i64 d.ck, inV d.ct, .int .i64 d.wk, worsV d.wt, .int .i64 d.sk, sposV d.st, .int .i64 d.out, .int .i64 d.r0, .int .i64 d.r1, .int .i64 d.r2, .int .i64 d.r3, .int .i64 d.r4, .int .i64 d.r5, .bool d.comp, .bool d.halt] := rfl
@[simp] theorem deV.uni (l : List (De)) : uni 20 (l.map deV) = true := uni_map fun _ => rfl
@[simp] theorem deV.flat (l : List (De)) : flat (l.map deV) = l.flatMap fun d => [runsV d.mem, .int .i64 d.dk, inV d.dt, .int .i64 d.rk, slosV d.rt, .int .i64 d.ck, inV d.ct, .int .i64 d.wk, worsV d.wt, .int .i64 d.sk, sposV d.st, .int .i64 d.out, .int .i64 d.r0, .int .i64 d.r1, .int .i64 d.r2, .int .i64 d.r3, .int .i64 d.r4, .int .i64 d.r5, .bool d.comp, .bool d.halt] := by rw [flat_map]; rfl
end Fz.D
set_option maxRecDepth 100000
namespace Fz.D
open Go
def i64 (a : Int) : Prop := -9223372036854775808 ≤ a ∧ a ≤ 9223372036854775807
def zz (n : Int) : Int := if 0 ≤ n then 2 * n else -2 * n - 1
theorem zz_le {n : Int} (h : i64 n) : 0 ≤ zz n ∧ zz n < 18446744073709551616 := by
  unfold i64 at h; unfold zz; split <;> omega
theorem u64 {a : Int} (h0 : 0 ≤ a) (h1 : a < 18446744073709551616) : IntKind.u64.wrap a = a := by
  show a % 18446744073709551616 = a
  omega
def numC (x : Nat) : List Int := if h : x = 0 then [] else numC (x / 128) ++ [((x % 128 : Nat) : Int) + 128]
termination_by x
decreasing_by omega
def numB (x : Nat) : List Int := numC (x / 128) ++ [((x % 128 : Nat) : Int)]
theorem numC_zero : numC 0 = [] := by rw [numC]; simp
theorem numC_pos {x : Nat} (h : x ≠ 0) : numC x = numC (x / 128) ++ [((x % 128 : Nat) : Int) + 128] := by rw [numC]; simp [h]
end Fz.D
set_option maxRecDepth 100000
namespace Fz.D
open Go
theorem reach_one {H : List Ob} {i : Nat} {l : List V} (hi : H[i]? = some (.live l)) (hl : refsL l = []) : reach H 1000 [i] [] = some [i] := by
  show reach H (998 + 1 + 1) [i] [] = _
  rw [reach]
  rw [if_neg (by simp), hi]
  dsimp only
  rw [show refsOb (.live l) = [] from hl]
  rfl
@[simp] theorem refs_ints {k : IntKind} (l : List Int) : refsL (l.map (V.int k)) = [] := by
  induction l with
  | nil => rfl
  | cons a l ih => rw [List.map_cons, refsL, ih]; rfl
@[simp] theorem ren_ints {g : Nat → Nat} {k : IntKind} (l : List Int) : renL g (l.map (V.int k)) = l.map (V.int k) := by
  induction l with
  | nil => rfl
  | cons a l ih => rw [List.map_cons, renL, ih]; rfl
theorem set_same {α : Type} {H : List α} {i : Nat} {x : α} (h : H[i]? = some x) : H.set i x = H := by
  apply List.ext_getElem?
  intro j
  rw [List.getElem?_set]
  split
  · rename_i e; subst e; rw [h]; simp [(List.getElem?_eq_some_iff.1 h).1]
  · rfl
@[simp] theorem back_z {id n : Nat} : backK [id] n 0 = id := by simp [backK]
@[simp] theorem back_s {id n j : Nat} : backK [id] n (j + 1) = n + j := by simp [backK]
theorem clone_own {H : List Ob} {id off len : Nat} {l : List Int} {Q : CR → List Ob → Prop} (hl : H[id]? = some (.live (l.map (V.int .u8)))) (hb : off + len ≤ l.length) (h0 : len ≠ 0) (hc : len ≤ 1000000)
    (hq : Q (.ret (.own H.length 0 len 1)) (H ++ [.live (((l.drop off).take len).map (V.int .u8))])) : WCall p 35 [.own id off len 1] H Q := by
  have hr : reach H 1000 (refsL [.own id off len 1]) [] = some [id] := reach_one hl (refs_ints l)
  refine WCall_inl (by kernel_rfl) hr ?_
  refine WFun_of w35 rfl rfl k35 ?_
  have e1 : ([id] : List Nat).idxOf id = 0 := by simp
  simp -dsimp [w35, hl, renL, ren, e1, renOb]
  refine ⟨hb, ?_⟩
  rw [if_neg h0]
  refine ⟨⟨by omega, by simp [capOk]; omega⟩, ?_⟩
  have e2 : backK [id] H.length 1 = H.length := by simp [backK]
  have e3 : backH [id] (CR.ret (V.own 1 0 len 1)) [Ob.live (List.map (V.int IntKind.u8) l), Ob.live (List.take len (List.drop off (List.map (V.int IntKind.u8) l)))] H = H ++ [.live (((l.drop off).take len).map (V.int .u8))] := by
    unfold backH
    rw [if_pos (by simp [crV, refs])]
    simp only [List.length_singleton, List.take_succ_cons, List.take_zero, List.drop_succ_cons, List.drop_zero, List.map_cons, List.map_nil, setAll, renOb, ren_ints, set_same hl]
    rw [← List.map_drop, ← List.map_take, ren_ints]
  rw [e3]
  simpa [renR, ren, e2] using hq
end Fz.D
namespace Fz.D
open Go
theorem xor_ones {a : Nat} (h : a < 18446744073709551616) : a ^^^ 18446744073709551615 = 18446744073709551615 - a := by
  have h1 : (BitVec.ofNat 64 a ^^^ BitVec.allOnes 64).toNat = (~~~(BitVec.ofNat 64 a)).toNat := by rw [BitVec.xor_allOnes]
  rw [BitVec.toNat_xor, BitVec.toNat_not, BitVec.toNat_allOnes, BitVec.toNat_ofNat, Nat.mod_eq_of_lt (by omega)] at h1
  have e : (2 : Nat) ^ 64 - 1 = 18446744073709551615 := by decide
  rw [e] at h1
  exact h1
theorem zz_bits {n : Int} (h : i64 n) : IntKind.u64.wrap ((((IntKind.u64.wrap (IntKind.u64.wrap n * 2 ^ min 1 IntKind.u64.bits) % 2 ^ IntKind.u64.bits).toNat ^^^ (IntKind.u64.wrap (n.fdiv (2 ^ min 63 IntKind.i64.bits)) % 2 ^ IntKind.u64.bits).toNat : Nat)) : Int) = zz n := by
  unfold i64 at h
  unfold zz
  have b1 : (2 : Int) ^ min 1 IntKind.u64.bits = 2 := by decide
  have b2 : (2 : Int) ^ IntKind.u64.bits = 18446744073709551616 := by decide
  have b3 : (2 : Int) ^ min 63 IntKind.i64.bits = 9223372036854775808 := by decide
  rw [b1, b2, b3]
  have w : ∀ a : Int, IntKind.u64.wrap a = a % 18446744073709551616 := fun a => rfl
  have f : n.fdiv 9223372036854775808 = n / 9223372036854775808 := Int.fdiv_eq_ediv_of_nonneg _ (by omega)
  simp only [w, f]
  by_cases h0 : 0 ≤ n
  · have e1 : (n % 18446744073709551616 * 2 % 18446744073709551616 % 18446744073709551616).toNat = (2 * n).toNat := by omega
    have e2 : (n / 9223372036854775808 % 18446744073709551616 % 18446744073709551616).toNat = 0 := by omega
    rw [e1, e2, Nat.xor_zero, if_pos h0]; omega
  · have e1 : (n % 18446744073709551616 * 2 % 18446744073709551616 % 18446744073709551616).toNat = (18446744073709551616 + 2 * n).toNat := by omega
    have e2 : (n / 9223372036854775808 % 18446744073709551616 % 18446744073709551616).toNat = 18446744073709551615 := by omega
    rw [e1, e2, xor_ones (by omega), if_neg h0]; omega
theorem or_128 (k : Nat) : IntKind.u8.wrap (((((k : Int) % 128 % 2 ^ IntKind.u8.bits).toNat ||| 128 % 2 ^ IntKind.u8.bits : Nat)) : Int) = (k : Int) % 128 + 128 := by
  have b : (2 : Int) ^ IntKind.u8.bits = 256 := by decide
  have c : 128 % 2 ^ IntKind.u8.bits = 128 := by decide
  rw [b, c]
  have e1 : ((k : Int) % 128 % 256).toNat = k % 128 := by omega
  have e2 : k % 128 ||| 128 = k % 128 + 128 := by
    have := Nat.two_pow_add_eq_or_of_lt (i := 7) (b := k % 128) (by omega) 1
    rw [Nat.or_comm]
    simp at this
    omega
  rw [e1, e2, Fz.w8 (by omega) (by omega)]; omega
theorem num_s {n : Int} (h : i64 n) : Comes p 14 [.int .i64 n] (byV (numB (zz n).toNat)) := by
  obtain ⟨z0, z1⟩ := zz_le h
  refine Comes_of w14 rfl rfl k14 ?_ ?_ ?_ ?_
  · simp
  · simp
  · simp
  · obtain ⟨x, hx⟩ : ∃ x : Nat, zz n = x := ⟨(zz n).toNat, by omega⟩
    have hb := zz_bits h
    rw [hx] at hb z1
    simp -dsimp [w14, wFix_by, isInl, hx, hb]
    have t0 : ((x : Int).tmod 128) = (x : Int) % 128 := Int.tmod_eq_emod_of_nonneg (by omega)
    have t1 : IntKind.u64.wrap ((x : Int) / 128) = (x : Int) / 128 := u64 (by omega) (by omega)
    have t2 : IntKind.u8.wrap ((x : Int) % 128) = (x : Int) % 128 := Fz.w8 (by omega) (by omega)
    refine xL_by (by kernel_rfl) (fun k e H => ∃ (i : Nat) (cs : List Int), e 3 = .int .u64 (k : Nat) ∧ e 4 = .ptr 0 0 ∧ e 5 = .int .i64 (i : Nat) ∧ H = [.live (cs.map (V.int .u8))] ∧ cs.length = 10 ∧ i ≤ 9 ∧ numC k ++ cs.drop i = numB x ∧ k < 128 ^ i ∧ k < 18446744073709551616) (x / 128) ?_ ?_
    · refine ⟨9, [0, 0, 0, 0, 0, 0, 0, 0, 0, ((x % 128 : Nat) : Int)], ?_⟩
      simp -dsimp [t0, t1, t2, numB]
      omega
    · rintro k e H ⟨i, cs, h3, h4, h5, rfl, hcs, hi, hR, hk, hk2⟩
      have u0 : ((k : Int).tmod 128) = (k : Int) % 128 := Int.tmod_eq_emod_of_nonneg (by omega)
      have u1 : IntKind.u64.wrap ((k : Int) / 128) = (k : Int) / 128 := u64 (by omega) (by omega)
      have u3 : IntKind.u8.wrap ((k : Int) % 128) = (k : Int) % 128 := Fz.w8 (by omega) (by omega)
      simp -dsimp [h3, h4, h5, wFix_by, isInl, u0, u1, u3]
      split
      · rename_i hk0
        have hi0 : i ≠ 0 := by
          rintro rfl
          simp at hk; omega
        have e1 : IntKind.i64.wrap ((i : Int) - 1) = ((i - 1 : Nat) : Int) := by rw [Fz.w64 (by omega) (by omega)]; omega
        have u5 := or_128 k
        simp only [e1, u5]
        refine ⟨by omega, by omega, by simp; omega, k / 128, by omega, i - 1, cs.take (i - 1) ++ (((k % 128 : Nat) : Int) + 128) :: cs.drop i, ?_⟩
        have hp : k / 128 < 128 ^ (i - 1) := by
          rw [Nat.div_lt_iff_lt_mul (by omega), ← Nat.pow_succ, show (i - 1).succ = i from by omega]; exact hk
        have hi1 : i - 1 + 1 = i := by omega
        rw [numC_pos (by omega)] at hR
        simp -dsimp [h4, hi1] at hR ⊢
        refine ⟨e1, ?_, by omega, by omega, ?_, hp, by omega⟩
        · rw [e1, u5, Int.toNat_natCast, hi1]
        · rw [List.drop_append_of_le_length (by simp; omega)]
          simp [hR]
      · rename_i hk0
        have hk1 : k = 0 := by omega
        subst hk1
        rw [numC_zero, List.nil_append] at hR
        refine ⟨by omega, by omega, ?_⟩
        rw [if_neg (by omega)]
        refine clone_own (l := cs) (by simp) (by omega) (by omega) (by omega) ?_
        have e5 : (cs.drop i).take (10 - i) = cs.drop i := List.take_of_length_le (by simp; omega)
        have hlen : 10 - i = (numB x).length := by rw [← hR, List.length_drop, hcs]
        rw [e5, hR, hlen]
        simp -dsimp [wFix_by, isInl, byV]
end Fz.D
set_option maxRecDepth 100000
namespace Fz.D
open Go
theorem zeros_one (n : Nat) (z : V) : zeros [z] n = List.replicate n z := by
  induction n with
  | zero => rfl
  | succ n ih => rw [zeros, ih]; rfl
theorem grow_b {n : Int} {H : List Ob} {Q : CR → List Ob → Prop} (h0 : 0 ≤ n) (h1 : n ≤ 100000000) (hq : ∀ v J, Ac 1 H.length J v [] → Q (.ret v) (H ++ J)) : WCall p 34 [.list [] true, .int .i64 n] H Q := by
  have hr : reach H 1000 (refsL [.list [] true, .int .i64 n]) [] = some [] := rfl
  refine WCall_inl (by kernel_rfl) hr ?_
  refine WFun_of w34 rfl rfl k34 ?_
  have e0 : IntKind.i64.wrap n = n := Fz.w64 (by omega) (by omega)
  have z0 : IntKind.i64.wrap 0 = 0 := Fz.w64 (by omega) (by omega)
  have none : Q (renR (backK [] H.length) (CR.ret (V.list [] true))) (backH [] (CR.ret (V.list [] true)) [] H) := by
    have := hq (.list [] true) [] (ac_nil (by decide))
    simpa [renR, ren, renL, backH, crV, refs, refsL, setAll] using this
  by_cases hn : n = 0
  · subst hn
    simp -dsimp [w34, renL, ren]
    have e1 : IntKind.i64.wrap (-IntKind.i64.wrap 0) = 0 := by rw [z0]; exact z0
    rw [e1, if_neg (by omega)]
    exact none
  · have hp : 0 < n := by omega
    have hz : ¬ n < 0 := by omega
    simp -dsimp [w34, renL, ren, e0, hp, hz]
    have e1 : IntKind.i64.wrap (n - IntKind.i64.wrap 0) = n := by rw [z0, Int.sub_zero]; exact e0
    rw [e1, if_pos hp, if_neg (by omega)]
    refine ⟨⟨h0, by omega⟩, by simp [capOk]; omega, ?_⟩
    have := hq (.own H.length 0 0 1) [.live (List.replicate n.toNat (V.int .u8 0))] ⟨rfl, by decide, .inr ⟨0, _, rfl, rfl, by simp, by simp [flat]⟩⟩
    have e2 : renOb (backK [] H.length) (.live (List.replicate n.toNat (V.int .u8 0))) = .live (List.replicate n.toNat (V.int .u8 0)) := by
      rw [renOb, renL_eq, List.map_replicate]; rfl
    simpa [renR, ren, renL, backH, crV, refs, refsL, setAll, e2, backK] using this
end Fz.D
set_option maxRecDepth 100000
namespace Fz.D
open Go
def tot (ls : List (List Int)) : Nat := (ls.map List.length).sum
theorem tot_take (ls : List (List Int)) (i : Nat) : tot (ls.take i) ≤ tot ls := by
  unfold tot
  conv => rhs; rw [← List.take_append_drop i ls]
  rw [List.map_append, List.sum_append]; omega
theorem tot_succ (ls : List (List Int)) (i : Nat) (h : i < ls.length) : tot (ls.take (i + 1)) = tot (ls.take i) + ls[i].length := by
  unfold tot
  rw [List.take_succ_eq_append_getElem h, List.map_append, List.sum_append]; simp
def cat (ls : List (List Int)) : List Int := ls.flatten
theorem flat_tot (ls : List (List Int)) : (cat ls).length = tot ls := by
  unfold tot cat; rw [List.length_flatten]
theorem cat_succ (ls : List (List Int)) (i : Nat) (h : i < ls.length) : cat (ls.take (i + 1)) = cat (ls.take i) ++ ls[i] := by
  unfold cat; rw [List.take_succ_eq_append_getElem h, List.flatten_append]; simp
@[simp] theorem cat_nil : cat [] = [] := rfl
theorem concat_own {ls : List (List Int)} (ht : tot ls ≤ 100000000) (hl : ls.length ≤ 1000000) {Q : CR → List Ob → Prop} (hq : ∀ v J, Ac 1 1 J v ((cat ls).map (V.int .u8)) → Q (.ret v) (.live (ls.map byV) :: J)) :
    WFun p 13 [.own 0 0 ls.length 1] [.live (ls.map byV)] Q := by
  refine WFun_of w13 rfl rfl k13 ?_
  simp -dsimp [w13]
  refine xL_by (by kernel_rfl) (fun k e H => ∃ i : Nat, i ≤ ls.length ∧ k = ls.length - i ∧ e 0 = .own 0 0 ls.length 1 ∧ e 9 = .own 0 0 ls.length 1 ∧ e 10 = .int .i64 ls.length ∧ e 11 = .int .i64 i ∧ e 3 = .int .i64 (tot (ls.take i)) ∧ H = [.live (ls.map byV)]) ls.length ?_ ?_
  · exact ⟨0, by simp [tot]⟩
  · rintro k e H ⟨i, hi, hk, h0, h9, h10, h11, h3, rfl⟩
    have t1 := tot_take ls i
    simp -dsimp [h0, h9, h10, h11, h3]
    split
    · rename_i hlt
      have t2 := tot_succ ls i hlt
      have t3 := tot_take ls (i + 1)
      have d1 : List.take 1 (List.drop i (ls.map byV)) = [byV ls[i]] := by
        rw [List.drop_eq_getElem_cons (by simpa using hlt)]; simp
      have w1 : IntKind.i64.wrap (((tot (ls.take i) : Nat) : Int) + ((ls[i].length : Nat) : Int)) = ((tot (ls.take (i + 1)) : Nat) : Int) := by rw [Fz.w64 (by omega) (by omega)]; omega
      have w2 : IntKind.i64.wrap ((i : Int) + 1) = ((i + 1 : Nat) : Int) := by rw [Fz.w64 (by omega) (by omega)]; omega
      refine ⟨hlt, by omega, ?_⟩
      rw [d1]
      simp -dsimp [h0, h9, h10, h11, h3, w1, w2]
      refine ⟨ls.length - (i + 1), by omega, i + 1, by omega, rfl, ?_⟩
      simp -dsimp [h0, h9, h10]
    · rename_i hge
      have hii : i = ls.length := by omega
      subst hii
      rw [List.take_length] at h3 ⊢
      refine grow_b (by omega) (by omega) fun v J hac => ?_
      simp -dsimp [h0, h9, h10, h11, h3]
      refine xL_by (by kernel_rfl) (fun k e H => ∃ (i : Nat) (v : V) (J : List Ob), i ≤ ls.length ∧ k = ls.length - i ∧ e 25 = .own 0 0 ls.length 1 ∧ e 26 = .int .i64 ls.length ∧ e 27 = .int .i64 i ∧ e 6 = v ∧ Ac 1 1 J v ((cat (ls.take i)).map (V.int .u8)) ∧ H = .live (ls.map byV) :: J) ls.length ?_ ?_
      · exact ⟨0, v, J, by simp [h0]; exact hac⟩
      · rintro k e H ⟨i, v, J, hi, hk, h25, h26, h27, h6, hac, rfl⟩
        simp -dsimp [h25, h26, h27, h6]
        split
        · rename_i hlt
          have d1 : List.take 1 (List.drop i (ls.map byV)) = [byV ls[i]] := by
            rw [List.drop_eq_getElem_cons (by simpa using hlt)]; simp
          refine ⟨hlt, by omega, ?_⟩
          rw [d1]
          simp -dsimp [h25, h26, h27, h6]
          have t2 := tot_succ ls i hlt
          have t3 := tot_take ls (i + 1)
          have t4 : (cat (ls.take i)).length = tot (ls.take i) := flat_tot _
          have e1 := cat_succ ls i hlt
          refine app_ac 1 (m := ls[i].map (V.int .u8)) (by simpa using hac) (by simp) (by simp) (by simp) (by simp) (by simp [storable]) (by rw [List.length_map, List.length_map, t4]; simp [capOk]; omega) fun v' J' hac' => ?_
          have w2 : IntKind.i64.wrap ((i : Int) + 1) = ((i + 1 : Nat) : Int) := by rw [Fz.w64 (by omega) (by omega)]; omega
          simp -dsimp [h25, h26, h27, w2]
          refine ⟨ls.length - (i + 1), by omega, i + 1, v', J', by omega, rfl, ?_⟩
          simp -dsimp [h25, h26]
          rw [e1, List.map_append]
          exact hac'
        · rename_i hge
          have hii : i = ls.length := by omega
          subst hii
          rw [List.take_length] at hac
          exact hq _ _ hac
theorem concat_list {ls : List (List Int)} {c : Bool} (ht : tot ls ≤ 100000000) (hl : ls.length ≤ 1000000) {Q : CR → List Ob → Prop} (hq : ∀ v J, Ac 1 0 J v ((cat ls).map (V.int .u8)) → Q (.ret v) (J)) :
    WFun p 13 [.list (ls.map byV) c] [] Q := by
  refine WFun_of w13 rfl rfl k13 ?_
  simp -dsimp [w13]
  refine xL_by (by kernel_rfl) (fun k e H => ∃ i : Nat, i ≤ ls.length ∧ k = ls.length - i ∧ e 0 = .list (ls.map byV) c ∧ e 9 = .list (ls.map byV) c ∧ e 10 = .int .i64 ls.length ∧ e 11 = .int .i64 i ∧ e 3 = .int .i64 (tot (ls.take i)) ∧ H = []) ls.length ?_ ?_
  · exact ⟨0, by simp [tot]⟩
  · rintro k e H ⟨i, hi, hk, h0, h9, h10, h11, h3, rfl⟩
    have t1 := tot_take ls i
    simp -dsimp [h0, h9, h10, h11, h3]
    split
    · rename_i hlt
      have t2 := tot_succ ls i hlt
      have t3 := tot_take ls (i + 1)
      have w1 : IntKind.i64.wrap (((tot (ls.take i) : Nat) : Int) + ((ls[i].length : Nat) : Int)) = ((tot (ls.take (i + 1)) : Nat) : Int) := by rw [Fz.w64 (by omega) (by omega)]; omega
      have w2 : IntKind.i64.wrap ((i : Int) + 1) = ((i + 1 : Nat) : Int) := by rw [Fz.w64 (by omega) (by omega)]; omega
      have g : ls[i]?.getD default = ls[i] := by simp [hlt]
      refine ⟨hlt, ?_⟩
      rw [g, w1, if_neg (by omega)]
      refine ⟨ls.length - (i + 1), by omega, i + 1, by omega, rfl, ?_⟩
      simp -dsimp [h0, h9, h10]
      rw [w2]; omega
    · rename_i hge
      have hii : i = ls.length := by omega
      subst hii
      rw [List.take_length] at h3 ⊢
      refine grow_b (by omega) (by omega) fun v J hac => ?_
      simp -dsimp [h0, h9, h10, h11, h3]
      refine xL_by (by kernel_rfl) (fun k e H => ∃ (i : Nat) (v : V) (J : List Ob), i ≤ ls.length ∧ k = ls.length - i ∧ e 25 = .list (ls.map byV) c ∧ e 26 = .int .i64 ls.length ∧ e 27 = .int .i64 i ∧ e 6 = v ∧ Ac 1 0 J v ((cat (ls.take i)).map (V.int .u8)) ∧ H = J) ls.length ?_ ?_
      · exact ⟨0, v, J, by simp [h0]; exact hac⟩
      · rintro k e H ⟨i, v, J, hi, hk, h25, h26, h27, h6, hac, rfl⟩
        simp -dsimp [h25, h26, h27, h6]
        split
        · rename_i hlt
          have g : ls[i]?.getD default = ls[i] := by simp [hlt]
          refine ⟨hlt, ?_⟩
          rw [g]
          have t2 := tot_succ ls i hlt
          have t3 := tot_take ls (i + 1)
          have t4 : (cat (ls.take i)).length = tot (ls.take i) := flat_tot _
          have e1 := cat_succ ls i hlt
          refine app_ac 0 (m := ls[i].map (V.int .u8)) (by simpa using hac) (by simp) (by simp) (by simp) (by simp) (by simp [storable]) (by rw [List.length_map, List.length_map, t4]; simp [capOk]; omega) fun v' J' hac' => ?_
          have w2 : IntKind.i64.wrap ((i : Int) + 1) = ((i + 1 : Nat) : Int) := by rw [Fz.w64 (by omega) (by omega)]; omega
          simp -dsimp [h25, h26, h27, w2]
          refine ⟨ls.length - (i + 1), by omega, i + 1, v', J', by omega, rfl, ?_⟩
          simp -dsimp [h25, h26]
          rw [e1, List.map_append]
          exact hac'
        · rename_i hge
          have hii : i = ls.length := by omega
          subst hii
          rw [List.take_length] at hac
          exact hq _ _ hac
end Fz.D
set_option maxRecDepth 100000
namespace Fz.D
open Go
theorem refs_lists (ls : List (List Int)) : refsL (ls.map byV) = [] := by
  induction ls with
  | nil => rfl
  | cons a l ih => rw [List.map_cons, refsL, ih]; simp [byV, refs]
theorem ren_lists {g : Nat → Nat} (ls : List (List Int)) : renL g (ls.map byV) = ls.map byV := by
  induction ls with
  | nil => rfl
  | cons a l ih => rw [List.map_cons, renL, ih]; simp [byV, ren]
theorem ac_back {b n : Nat} {g : Nat → Nat} {J : List Ob} {id len : Nat} {out : List Int} (hg : ∀ j, g (b + j) = n + j) (h : Ac 1 b J (.own id 0 len 1) (out.map (V.int .u8))) : Ac 1 n (J.map (renOb g)) (.own (g id) 0 len 1) (out.map (V.int .u8)) := by
  obtain ⟨h1, h2, h3⟩ := h
  refine ⟨h1, h2, ?_⟩
  rcases h3 with ⟨_, h3⟩ | ⟨j, cells, h3, h4, h5, h6⟩
  · cases h3
  · cases h3
    refine .inr ⟨j, renL g cells, by rw [hg], by rw [List.getElem?_map, h4]; rfl, by rw [renL_eq, List.length_map (f := ren g)]; exact h5, ?_⟩
    rw [renL_eq, ← List.map_take, h6, ← renL_eq, flat_int, ren_ints]
theorem ac_cases {n b : Nat} {J : List Ob} {v : V} {l : List V} (h : Ac n b J v l) : v = .list [] true ∧ l = [] ∨ ∃ j len, v = .own (b + j) 0 len n ∧ len = l.length := by
  obtain ⟨_, _, h3⟩ := h
  rcases h3 with ⟨h3, h4⟩ | ⟨j, cells, h3, _⟩
  · exact .inl ⟨h4, h3⟩
  · exact .inr ⟨j, _, h3, rfl⟩
theorem concat_call {H : List Ob} {id : Nat} {ls : List (List Int)} (hid : H[id]? = some (.live (ls.map byV))) (ht : tot ls ≤ 100000000) (hl : ls.length ≤ 1000000) {Q : CR → List Ob → Prop}
    (hq : ∀ v J, Ac 1 H.length J v ((cat ls).map (V.int .u8)) → Q (.ret v) (H ++ J)) : WCall p 13 [.own id 0 ls.length 1] H Q := by
  have hr : reach H 1000 (refsL [.own id 0 ls.length 1]) [] = some [id] := reach_one hid (refs_lists ls)
  refine WCall_inl (by kernel_rfl) hr ?_
  have e1 : renL (fun i => ([id] : List Nat).idxOf i) [.own id 0 ls.length 1] = [.own 0 0 ls.length 1] := by simp [renL, ren]
  have e2 : (([id] : List Nat).map fun i => renOb (fun i => ([id] : List Nat).idxOf i) (H[i]?.getD .dead)) = [.live (ls.map byV)] := by
    simp only [List.map_cons, List.map_nil, hid, Option.getD_some, renOb, ren_lists]
  rw [e1, e2]
  refine concat_own ht hl fun v J hac => ⟨by simp, ?_⟩
  have e3 : (refsOb (.live (ls.map byV))) = [] := refs_lists ls
  rcases ac_cases hac with ⟨rfl, h0⟩ | ⟨j, len, rfl, _⟩
  · have e4 : backH [id] (.ret (.list [] true)) (.live (ls.map byV) :: J) H = H := by
      unfold backH
      rw [if_neg (by simp [crV, refs, refsL, e3])]
      simp [setAll, renOb, ren_lists, set_same hid]
    rw [e4]
    have := hq (.list [] true) [] ⟨by rw [h0]; rfl, by decide, .inl ⟨h0, rfl⟩⟩
    simpa [renR, ren, renL] using this
  · have hg : ∀ j, backK [id] H.length (1 + j) = H.length + j := fun j => by rw [Nat.add_comm]; exact back_s
    have e4 : backH [id] (.ret (.own (1 + j) 0 len 1)) (.live (ls.map byV) :: J) H = H ++ J.map (renOb (backK [id] H.length)) := by
      unfold backH
      rw [if_pos (by simp [crV, refs])]
      simp [setAll, renOb, ren_lists, set_same hid]
    rw [e4]
    have := hq _ _ (ac_back hg hac)
    simpa [renR, ren] using this
end Fz.D
namespace Fz.D
open Go
theorem frz_ac {b : Nat} {H : List Ob} {v : V} {out : List Int} (ha : Ac 1 b (H.drop b) v (out.map (V.int .u8))) : xFrz 12 v H fun u _ => u = byV out := by
  obtain ⟨_, _, h3⟩ := ha
  rcases h3 with ⟨h3, rfl⟩ | ⟨j, cells, rfl, h4, h5, h6⟩
  · have : out = [] := by simpa using h3
    subst this
    simp -dsimp [byV]
  · rw [List.getElem?_drop] at h4
    rw [flat_int] at h6
    have h6' : List.take out.length cells = out.map (V.int .u8) := by simpa using h6
    simp -dsimp [wOb_at h4, byV]
    rw [h6']
    refine ⟨by simpa using h5, ?_⟩
    simp -dsimp [byV]
theorem numC_len : ∀ (k x : Nat), x < 2 ^ k → (numC x).length ≤ k
  | 0, x, h => by
    have : x = 0 := by simpa using h
    subst this; rw [numC_zero]; simp
  | k + 1, x, h => by
    by_cases h0 : x = 0
    · subst h0; rw [numC_zero]; simp
    · rw [numC_pos h0]
      have := numC_len k (x / 128) (by rw [Nat.pow_succ] at h; omega)
      simp; omega
theorem numB_len {x : Nat} (h : x < 18446744073709551616) : (numB x).length ≤ 65 := by
  unfold numB
  have := numC_len 64 (x / 128) (by have : (2 : Nat) ^ 64 = 18446744073709551616 := by decide
                                    omega)
  simp; omega
theorem text_s {b : List Int} (hb : b.length ≤ 10000000) : Comes p 15 [byV b] (byV (numB (zz b.length).toNat ++ b)) := by
  refine Comes_of w15 rfl rfl k15 ?_ ?_ ?_ ?_
  · simp
  · simp
  · simp
  · simp -dsimp [w15, wFix_by, isInl, call_by (num_s (n := b.length) (by unfold i64; omega))]
    have hz := zz_le (n := b.length) (by unfold i64; omega)
    have hl := numB_len (x := (zz b.length).toNat) (by omega)
    refine concat_call (ls := [numB (zz b.length).toNat, b]) rfl (by simp [tot]; omega) (by simp) fun v J hac => ?_
    simp -dsimp [wFix_by, isInl]
    have := frz_ac (b := 1) (H := [.live [byV (numB (zz b.length).toNat), byV b]] ++ J) (v := v) (out := numB (zz b.length).toNat ++ b) (by simpa [cat] using hac)
    exact this
end Fz.D
namespace Fz.D
open Go
end Fz.D
set_option maxRecDepth 100000
namespace Fz.D
open Go
def encN (n : Int) : List Int := numB (zz n).toNat
def encs (l : List Int) : List Int := cat (l.map encN)
theorem encN_len {n : Int} (h : i64 n) : (encN n).length ≤ 65 := by
  obtain ⟨h1, h2⟩ := zz_le h
  exact numB_len (by omega)
theorem encs_succ (l : List Int) (i : Nat) (h : i < l.length) : encs (l.take (i + 1)) = encs (l.take i) ++ encN l[i] := by
  unfold encs cat
  rw [List.take_succ_eq_append_getElem h, List.map_append, List.flatten_append]; simp
theorem encs_len {l : List Int} (h : ∀ n ∈ l, i64 n) : (encs l).length ≤ 65 * l.length := by
  induction l with
  | nil => simp [encs]
  | cons n l ih =>
    have h1 := encN_len (h n (by simp))
    have h2 := ih fun m hm => h m (by simp [hm])
    have : encs (n :: l) = encN n ++ encs l := by simp [encs, cat]
    rw [this, List.length_append, List.length_cons]; omega
theorem bit_s (b : Bool) (n : Int) : Comes p 42 [.bool b, .int .i64 n] (.int .i64 (if b then n else 0)) := by
  refine Comes_of w42 rfl rfl k42 ?_ ?_ ?_ ?_
  · simp
  · simp
  · simp
  · cases b <;> simp -dsimp [w42, wFix_by, isInl]
theorem nums_s {l : List Int} (h : ∀ n ∈ l, i64 n) (hl : l.length ≤ 1000000) : Comes p 41 [inV l] (byV (encs l)) := by
  refine Comes_of w41 rfl rfl k41 ?_ ?_ ?_ ?_
  · simp
  · simp
  · simp
  · simp -dsimp [w41, wFix_by, isInl]
    refine xL_by (by kernel_rfl) (fun k e H => ∃ (i : Nat) (v : V), i ≤ l.length ∧ k = l.length - i ∧ e 6 = inV l ∧ e 7 = .int .i64 l.length ∧ e 8 = .int .i64 i ∧ e 3 = v ∧ Acc 1 0 H v ((encs (l.take i)).map (V.int .u8))) l.length ?_ ?_
    · refine ⟨0, .list [] true, ?_⟩
      simp -dsimp [encs]
      exact acc_nil (by decide)
    · rintro k e H ⟨i, v, hi, hk, h6, h7, h8, h3, hac⟩
      simp -dsimp [h6, h7, h8, h3, wFix_by, isInl]
      split
      · rename_i hlt
        have g : l[i]?.getD default = l[i] := by simp [hlt]
        refine ⟨hlt, ?_⟩
        have hn := num_s (h l[i] (List.getElem_mem hlt))
        simp -dsimp [hlt, call_by hn, h3]
        have e1 := encs_succ l i hlt
        have t1 : (encs (l.take i)).length ≤ 65 * l.length := Nat.le_trans (encs_len fun m hm => h m (List.mem_of_mem_take hm)) (by rw [List.length_take]; omega)
        have t2 := encN_len (h l[i] (List.getElem_mem hlt))
        refine app_acc 0 (m := (encN l[i]).map (V.int .u8)) (by simpa using hac) (by simp) (by simp [encN]) (by simp [encN]) (by simp) (by simp [storable]) (by simp [capOk]; omega) fun v' J' hac' => ?_
        have w2 : IntKind.i64.wrap ((i : Int) + 1) = ((i + 1 : Nat) : Int) := by rw [Fz.w64 (by omega) (by omega)]; omega
        simp -dsimp [h6, h7, h8, w2]
        refine ⟨l.length - (i + 1), by omega, i + 1, v', by omega, rfl, ?_⟩
        simp -dsimp [h6, h7]
        rw [e1, List.map_append]
        exact hac'
      · have hii : i = l.length := by omega
        subst hii
        rw [List.take_length] at hac
        exact frz_ac (b := 0) (by simpa using ac_acc hac)
end Fz.D
set_option maxRecDepth 100000
namespace Fz.D
open Go
theorem put1_s {n : Int} (h : i64 n) : Comes p 37 [.int .i64 n] (byV (encN n)) := by
  refine Comes_of w37 rfl rfl k37 ?_ ?_ ?_ ?_
  · simp
  · simp
  · simp
  · simp -dsimp [w37, wFix_by, isInl, call_by (num_s h), encN]
theorem listed_s {keep : Int} {l : List Int} (hk : i64 keep) (h : ∀ n ∈ l, i64 n) (hl : l.length ≤ 1000000) :
    Comes p 38 [.int .i64 keep, inV l, .fn (.func 37) [] []] (byV (encN keep ++ encN l.length ++ encs l)) := by
  have hn : i64 (l.length : Int) := by unfold i64; omega
  have k1 := encN_len hk
  have k2 := encN_len hn
  refine Comes_of w38 rfl rfl k38 ?_ ?_ ?_ ?_
  · simp
  · simp
  · simp
  · simp -dsimp [w38, wFix_by, isInl, call_by (num_s hk), call_by (num_s hn)]
    refine concat_call (ls := [encN keep, encN l.length]) rfl (by simp [tot]; omega) (by simp) fun v J hac => ?_
    simp -dsimp [wFix_by, isInl]
    refine xL_by (by kernel_rfl) (fun k e H => ∃ (i : Nat) (v : V) (J : List Ob), i ≤ l.length ∧ k = l.length - i ∧ e 2 = .fn (.func 37) [] [] ∧ e 17 = inV l ∧ e 18 = .int .i64 l.length ∧ e 19 = .int .i64 i ∧ e 7 = v ∧
      Ac 1 1 (H.drop 1) v ((encN keep ++ encN l.length ++ encs (l.take i)).map (V.int .u8)) ∧ 1 ≤ H.length) l.length ?_ ?_
    · refine ⟨0, v, J, ?_⟩
      simp -dsimp [encs]
      simpa [cat] using hac
    · rintro k e H ⟨i, v, J, hi, hk, h2, h17, h18, h19, h7, hac, hH⟩
      simp -dsimp [h2, h17, h18, h19, h7, wFix_by, isInl]
      split
      · rename_i hlt
        have hn := put1_s (h l[i] (List.getElem_mem hlt))
        refine ⟨hlt, ?_⟩
        simp -dsimp [hlt, call_by hn, h7]
        have e1 := encs_succ l i hlt
        have t1 : (encs (l.take i)).length ≤ 65 * l.length := Nat.le_trans (encs_len fun m hm => h m (List.mem_of_mem_take hm)) (by rw [List.length_take]; omega)
        have t2 := encN_len (h l[i] (List.getElem_mem hlt))
        refine app_ac 1 (m := (encN l[i]).map (V.int .u8)) hac hH (by simp) (by simp) (by simp) (by simp [storable]) (by simp [capOk]; omega) fun v' J' hac' => ?_
        have w2 : IntKind.i64.wrap ((i : Int) + 1) = ((i + 1 : Nat) : Int) := by rw [Fz.w64 (by omega) (by omega)]; omega
        simp -dsimp [h2, h17, h18, h19, w2]
        refine ⟨l.length - (i + 1), by omega, i + 1, v', J', by omega, rfl, ?_⟩
        have e3 : (H.take 1 ++ J').tail = J' := by
          cases H with
          | nil => simp at hH
          | cons a H => rfl
        simp -dsimp [h2, h17, h18, e3]
        refine ⟨?_, by omega⟩
        rw [e1]
        simpa using hac'
      · have hii : i = l.length := by omega
        subst hii
        rw [List.take_length] at hac
        exact frz_ac (b := 1) (by simpa [List.append_assoc] using hac)
end Fz.D
namespace Fz.D
open Go
theorem bit01 (b : Bool) : i64 (if b then 1 else 0) := by cases b <;> simp [i64]
theorem put2_s {s : Slo} (h : i64 s.v) : Comes p 40 [sloV s] (byV (encs [s.v, if s.call then 1 else 0])) := by
  have hl : ∀ n ∈ [s.v, if s.call then 1 else 0], i64 n := by
    intro n hn
    simp only [List.mem_cons, List.not_mem_nil, or_false] at hn
    rcases hn with rfl | rfl
    · exact h
    · exact bit01 _
  have hn := nums_s hl (by simp)
  refine Comes_of w40 rfl rfl k40 ?_ ?_ ?_ ?_
  · simp
  · simp
  · simp
  · simp -dsimp [w40, wFix_by, isInl, quiet_by (bit_s s.call 1)]
    have q : ∀ (H : List Ob) (K : V → Prop), xQuiet p 41 [.list [.int .i64 s.v, .int .i64 (if s.call = true then 1 else 0)] true] H K = K (byV (encs [s.v, if s.call = true then 1 else 0])) :=
      fun H K => quiet_nrm (a := [inV [s.v, if s.call = true then 1 else 0]]) rfl (by simp) (by simp [inV, nrm, nrmL_eq]) hn
    simp -dsimp [fillV, splice, cellsOf, isAny, wOpt, chunk, leafy, q, wFix_by, isInl]
theorem put4_s {s : Spo} (h : i64 s.addr) (h' : i64 s.at_) : Comes p 46 [spoV s] (byV (encs [s.addr, s.at_])) := by
  have hl : ∀ n ∈ [s.addr, s.at_], i64 n := by
    intro n hn
    simp only [List.mem_cons, List.not_mem_nil, or_false] at hn
    rcases hn with rfl | rfl
    · exact h
    · exact h'
  have hn := nums_s hl (by simp)
  refine Comes_of w46 rfl rfl k46 ?_ ?_ ?_ ?_
  · simp
  · simp
  · simp
  · simp -dsimp [w46, wFix_by, isInl]
    refine call_frz rfl ?_
    simp -dsimp [wFix_by, isInl]
    rw [show (V.list [V.int .i64 s.addr, V.int .i64 s.at_] false) = inV [s.addr, s.at_] from rfl, callN_by hn]
    simp -dsimp [wFix_by, isInl]
end Fz.D
namespace Fz.D
open Go
theorem concat_call_list {H : List Ob} {ls : List (List Int)} {c : Bool} (ht : tot ls ≤ 100000000) (hl : ls.length ≤ 1000000) {Q : CR → List Ob → Prop}
    (hq : ∀ v J, Ac 1 H.length J v ((cat ls).map (V.int .u8)) → Q (.ret v) (H ++ J)) : WCall p 13 [.list (ls.map byV) c] H Q := by
  have e0 : refsL [.list (ls.map byV) c] = [] := by rw [refsL, refs, refs_lists]; rfl
  have hr : reach H 1000 (refsL [.list (ls.map byV) c]) [] = some [] := by rw [e0]; rfl
  refine WCall_inl (by kernel_rfl) hr ?_
  have e1 : renL (fun i => ([] : List Nat).idxOf i) [.list (ls.map byV) c] = [.list (ls.map byV) c] := by simp [renL, ren, ren_lists]
  rw [e1]
  refine concat_list ht hl fun v J hac => ⟨by simp, ?_⟩
  rcases ac_cases hac with ⟨rfl, h0⟩ | ⟨j, len, rfl, _⟩
  · have e4 : backH [] (.ret (.list [] true)) J H = H := by
      unfold backH
      rw [if_neg (by simp [crV, refs, refsL])]
      simp [setAll]
    rw [e4]
    have := hq (.list [] true) [] ⟨by rw [h0]; rfl, by decide, .inl ⟨h0, rfl⟩⟩
    simpa [renR, ren, renL] using this
  · have hg : ∀ j, backK [] H.length (0 + j) = H.length + j := fun j => by simp [backK]
    have e4 : backH [] (.ret (.own (0 + j) 0 len 1)) J H = H ++ J.map (renOb (backK [] H.length)) := by
      unfold backH
      rw [if_pos (by simp [crV, refs])]
      simp [setAll]
    rw [e4]
    have := hq _ _ (ac_back hg hac)
    simpa [renR, ren] using this
end Fz.D
set_option maxRecDepth 100000
namespace Fz.D
open Go
def nmB (s : ByteArray) : List Int := s.data.toList.map fun b => (b.toNat : Int)
theorem nmB_V (s : ByteArray) : (s.data.toList.map fun b => V.int .u8 b.toNat) = (nmB s).map (V.int .u8) := by simp [nmB]
def txt (b : List Int) : List Int := encN b.length ++ b
def flg (a b : Bool) : Int := (if a then 1 else 0) + (if b then 2 else 0)
theorem put3_s {s : Wor} (h : i64 s.code) (hl : (nmB s.name).length ≤ 10000000) : Comes p 44 [worV s] (byV (txt (nmB s.name) ++ encs [s.code, flg s.now s.hid])) := by
  have hn : ∀ n ∈ [s.code, flg s.now s.hid], i64 n := by
    intro n hn
    simp only [List.mem_cons, List.not_mem_nil, or_false] at hn
    rcases hn with rfl | rfl
    · exact h
    · unfold flg i64; cases s.now <;> cases s.hid <;> simp
  have hns := nums_s hn (by simp)
  have ht := text_s hl
  have q : ∀ (H : List Ob) (K : V → Prop), xQuiet p 41 [.list [.int .i64 s.code, .int .i64 (flg s.now s.hid)] true] H K = K (byV (encs [s.code, flg s.now s.hid])) :=
    fun H K => quiet_nrm (a := [inV [s.code, flg s.now s.hid]]) rfl (by simp) (by simp [inV, nrm, nrmL_eq]) hns
  have w : IntKind.i64.wrap ((if s.now = true then 1 else 0) + (if s.hid = true then 2 else 0)) = flg s.now s.hid := by unfold flg; cases s.now <;> cases s.hid <;> rfl
  refine Comes_of w44 rfl rfl k44 ?_ ?_ ?_ ?_
  · simp
  · simp
  · simp
  · simp -dsimp [w44, wFix_by, isInl, quiet_by (bit_s s.now 1), quiet_by (bit_s s.hid 2), nmB_V]
    rw [show (V.list ((nmB s.name).map (V.int .u8)) false) = byV (nmB s.name) from rfl, quiet_by ht]
    simp -dsimp [wFix_by, isInl, quiet_by (bit_s s.now 1), quiet_by (bit_s s.hid 2), w]
    simp -dsimp [fillV, splice, wOpt, chunk, q, wFix_by, isInl]
    have b1 := encN_len (n := (nmB s.name).length) (by unfold i64; omega)
    have b2 := encs_len hn
    refine concat_call_list (ls := [txt (nmB s.name), encs [s.code, flg s.now s.hid]]) (by simp [tot, txt] at b2 ⊢; omega) (by simp) fun v J hac => ?_
    simp -dsimp [wFix_by, isInl]
    exact frz_ac (b := 1) (H := [.live (cellsOf (worV s))] ++ J) (v := v) (out := txt (nmB s.name) ++ encs [s.code, flg s.now s.hid]) (by simpa [cat] using hac)
end Fz.D
set_option maxRecDepth 100000
namespace Fz.D
open Go
theorem ac_ext {n b : Nat} {J : List Ob} {v : V} {l : List V} (h : Ac n b J v l) (G : List Ob) : Ac n b (J ++ G) v l := by
  obtain ⟨h1, h2, h3⟩ := h
  refine ⟨h1, h2, ?_⟩
  rcases h3 with h3 | ⟨j, cells, h3, h4, h5, h6⟩
  · exact .inl h3
  · exact .inr ⟨j, cells, h3, by rw [List.getElem?_append_left (List.getElem?_eq_some_iff.1 h4).1]; exact h4, h5, h6⟩
def encL {α : Type} (f : α → List Int) (l : List α) : List Int := cat (l.map f)
theorem encL_succ {α : Type} (f : α → List Int) (l : List α) (i : Nat) (h : i < l.length) : encL f (l.take (i + 1)) = encL f (l.take i) ++ f l[i] := by
  unfold encL cat
  rw [List.take_succ_eq_append_getElem h, List.map_append, List.flatten_append]; simp
theorem encL_len {α : Type} {f : α → List Int} {k : Nat} : ∀ {l : List α}, (∀ a ∈ l, (f a).length ≤ k) → (encL f l).length ≤ k * l.length
  | [], _ => by simp [encL]
  | a :: l, h => by
    have h1 := h a (by simp)
    have h2 := encL_len (f := f) (k := k) (l := l) fun m hm => h m (by simp [hm])
    have : encL f (a :: l) = f a ++ encL f l := by simp [encL, cat]
    rw [this, List.length_append, List.length_cons, Nat.mul_succ]; omega
def encSlo (s : Slo) : List Int := encs [s.v, if s.call then 1 else 0]
theorem encSlo_len {s : Slo} (h : i64 s.v) : (encSlo s).length ≤ 130 := by
  refine encs_len fun n hn => ?_
  simp only [List.mem_cons, List.not_mem_nil, or_false] at hn
  rcases hn with rfl | rfl
  · exact h
  · exact bit01 _
theorem listedSlo_s {keep : Int} {l : List Slo} (hk : i64 keep) (h : ∀ s ∈ l, i64 s.v) (hl : l.length ≤ 100000) :
    Comes p 39 [.int .i64 keep, slosV l, .fn (.func 40) [] []] (byV (encN keep ++ encN l.length ++ encL encSlo l)) := by
  have hn : i64 (l.length : Int) := by unfold i64; omega
  have k1 := encN_len hk
  have k2 := encN_len hn
  refine Comes_of w39 rfl rfl k39 ?_ ?_ ?_ ?_
  · simp
  · simp
  · simp
  · simp -dsimp [w39, wFix_by, isInl, call_by (num_s hk), call_by (num_s hn)]
    refine concat_call (ls := [encN keep, encN l.length]) rfl (by simp [tot]; omega) (by simp) fun v J hac => ?_
    simp -dsimp [wFix_by, isInl]
    refine xL_by (by kernel_rfl) (fun k e H => ∃ (i : Nat) (v : V), i ≤ l.length ∧ k = l.length - i ∧ e 2 = .fn (.func 40) [] [] ∧ e 17 = slosV l ∧ e 18 = .int .i64 l.length ∧ e 19 = .int .i64 i ∧ e 7 = v ∧
      Ac 1 1 (H.drop 1) v ((encN keep ++ encN l.length ++ encL encSlo (l.take i)).map (V.int .u8)) ∧ 1 ≤ H.length) l.length ?_ ?_
    · refine ⟨0, v, ?_⟩
      simp -dsimp [encL]
      simpa [cat] using hac
    · rintro k e H ⟨i, v, hi, hk, h2, h17, h18, h19, h7, hac, hH⟩
      simp -dsimp [h2, h17, h18, h19, h7, wFix_by, isInl]
      split
      · rename_i hlt
        have hn := put2_s (h l[i] (List.getElem_mem hlt))
        have g : l[i]?.getD default = l[i] := by simp [hlt]
        have e1 := encL_succ encSlo l i hlt
        have t1 : (encL encSlo (l.take i)).length ≤ 130 * l.length := Nat.le_trans (encL_len (k := 130) fun a ha => encSlo_len (h a (List.mem_of_mem_take ha))) (by rw [List.length_take]; omega)
        have t2 := encSlo_len (h l[i] (List.getElem_mem hlt))
        have w2 : IntKind.i64.wrap ((i : Int) + 1) = ((i + 1 : Nat) : Int) := by rw [Fz.w64 (by omega) (by omega)]; omega
        refine ⟨hlt, ?_⟩
        rw [g, show (V.agg [V.int .i64 l[i].v, V.bool l[i].call]) = sloV l[i] from rfl, call_by hn]
        simp -dsimp [h2, h17, h18, h19, h7]
        refine app_ac 1 (m := (encSlo l[i]).map (V.int .u8)) (v := v) (l := (encN keep ++ encN l.length ++ encL encSlo (l.take i)).map (V.int .u8)) (by
          rw [List.drop_append_of_le_length hH]; exact ac_ext hac _) (by simp) (by simp [encSlo]) (by simp [encSlo]) (by simp) (by simp [storable]) (by simp [capOk]; omega) fun v' J' hac' => ?_
        simp -dsimp [h2, h17, h18, h19, w2]
        refine ⟨l.length - (i + 1), by omega, i + 1, v', by omega, rfl, ?_⟩
        simp -dsimp [h2, h17, h18]
        rw [e1]
        simpa using hac'
      · have hii : i = l.length := by omega
        subst hii
        rw [List.take_length] at hac
        exact frz_ac (b := 1) (by simpa [List.append_assoc] using hac)
def encSpo (s : Spo) : List Int := encs [s.addr, s.at_]
theorem encSpo_len {s : Spo} (h : i64 s.addr ∧ i64 s.at_) : (encSpo s).length ≤ 130 := by
  refine encs_len fun n hn => ?_
  simp only [List.mem_cons, List.not_mem_nil, or_false] at hn
  rcases hn with rfl | rfl
  · exact h.1
  · exact h.2
theorem listedSpo_s {keep : Int} {l : List Spo} (hk : i64 keep) (h : ∀ s ∈ l, i64 s.addr ∧ i64 s.at_) (hl : l.length ≤ 100000) :
    Comes p 45 [.int .i64 keep, sposV l, .fn (.func 46) [] []] (byV (encN keep ++ encN l.length ++ encL encSpo l)) := by
  have hn : i64 (l.length : Int) := by unfold i64; omega
  have k1 := encN_len hk
  have k2 := encN_len hn
  refine Comes_of w45 rfl rfl k45 ?_ ?_ ?_ ?_
  · simp
  · simp
  · simp
  · simp -dsimp [w45, wFix_by, isInl, call_by (num_s hk), call_by (num_s hn)]
    refine concat_call (ls := [encN keep, encN l.length]) rfl (by simp [tot]; omega) (by simp) fun v J hac => ?_
    simp -dsimp [wFix_by, isInl]
    refine xL_by (by kernel_rfl) (fun k e H => ∃ (i : Nat) (v : V), i ≤ l.length ∧ k = l.length - i ∧ e 2 = .fn (.func 46) [] [] ∧ e 17 = sposV l ∧ e 18 = .int .i64 l.length ∧ e 19 = .int .i64 i ∧ e 7 = v ∧
      Ac 1 1 (H.drop 1) v ((encN keep ++ encN l.length ++ encL encSpo (l.take i)).map (V.int .u8)) ∧ 1 ≤ H.length) l.length ?_ ?_
    · refine ⟨0, v, ?_⟩
      simp -dsimp [encL]
      simpa [cat] using hac
    · rintro k e H ⟨i, v, hi, hk, h2, h17, h18, h19, h7, hac, hH⟩
      simp -dsimp [h2, h17, h18, h19, h7, wFix_by, isInl]
      split
      · rename_i hlt
        have hn := put4_s (h l[i] (List.getElem_mem hlt)).1 (h l[i] (List.getElem_mem hlt)).2
        have g : l[i]?.getD default = l[i] := by simp [hlt]
        have e1 := encL_succ encSpo l i hlt
        have t1 : (encL encSpo (l.take i)).length ≤ 130 * l.length := Nat.le_trans (encL_len (k := 130) fun a ha => encSpo_len (h a (List.mem_of_mem_take ha))) (by rw [List.length_take]; omega)
        have t2 := encSpo_len (h l[i] (List.getElem_mem hlt))
        have w2 : IntKind.i64.wrap ((i : Int) + 1) = ((i + 1 : Nat) : Int) := by rw [Fz.w64 (by omega) (by omega)]; omega
        refine ⟨hlt, ?_⟩
        rw [g, show (V.agg [V.int .i64 l[i].addr, V.int .i64 l[i].at_]) = spoV l[i] from rfl, call_by hn]
        simp -dsimp [h2, h17, h18, h19, h7]
        refine app_ac 1 (m := (encSpo l[i]).map (V.int .u8)) (v := v) (l := (encN keep ++ encN l.length ++ encL encSpo (l.take i)).map (V.int .u8)) (by
          rw [List.drop_append_of_le_length hH]; exact ac_ext hac _) (by simp) (by simp [encSpo]) (by simp [encSpo]) (by simp) (by simp [storable]) (by simp [capOk]; omega) fun v' J' hac' => ?_
        simp -dsimp [h2, h17, h18, h19, w2]
        refine ⟨l.length - (i + 1), by omega, i + 1, v', by omega, rfl, ?_⟩
        simp -dsimp [h2, h17, h18]
        rw [e1]
        simpa using hac'
      · have hii : i = l.length := by omega
        subst hii
        rw [List.take_length] at hac
        exact frz_ac (b := 1) (by simpa [List.append_assoc] using hac)
def encWor (s : Wor) : List Int := txt (nmB s.name) ++ encs [s.code, flg s.now s.hid]
theorem encWor_len {s : Wor} (h : i64 s.code ∧ (nmB s.name).length ≤ 1000) : (encWor s).length ≤ 1200 := by
  have h1 := encN_len (n := (nmB s.name).length) (by unfold i64; omega)
  have h2 : (encs [s.code, flg s.now s.hid]).length ≤ 65 * 2 := encs_len fun n hn => by
    simp only [List.mem_cons, List.not_mem_nil, or_false] at hn
    rcases hn with rfl | rfl
    · exact h.1
    · unfold flg i64; cases s.now <;> cases s.hid <;> simp
  unfold encWor txt
  rw [List.length_append, List.length_append]
  omega
theorem listedWor_s {keep : Int} {l : List Wor} (hk : i64 keep) (h : ∀ s ∈ l, i64 s.code ∧ (nmB s.name).length ≤ 1000) (hl : l.length ≤ 100000) :
    Comes p 43 [.int .i64 keep, worsV l, .fn (.func 44) [] []] (byV (encN keep ++ encN l.length ++ encL encWor l)) := by
  have hn : i64 (l.length : Int) := by unfold i64; omega
  have k1 := encN_len hk
  have k2 := encN_len hn
  refine Comes_of w43 rfl rfl k43 ?_ ?_ ?_ ?_
  · simp
  · simp
  · simp
  · simp -dsimp [w43, wFix_by, isInl, call_by (num_s hk), call_by (num_s hn)]
    refine concat_call (ls := [encN keep, encN l.length]) rfl (by simp [tot]; omega) (by simp) fun v J hac => ?_
    simp -dsimp [wFix_by, isInl]
    refine xL_by (by kernel_rfl) (fun k e H => ∃ (i : Nat) (v : V), i ≤ l.length ∧ k = l.length - i ∧ e 2 = .fn (.func 44) [] [] ∧ e 17 = worsV l ∧ e 18 = .int .i64 l.length ∧ e 19 = .int .i64 i ∧ e 7 = v ∧
      Ac 1 1 (H.drop 1) v ((encN keep ++ encN l.length ++ encL encWor (l.take i)).map (V.int .u8)) ∧ 1 ≤ H.length) l.length ?_ ?_
    · refine ⟨0, v, ?_⟩
      simp -dsimp [encL]
      simpa [cat] using hac
    · rintro k e H ⟨i, v, hi, hk, h2, h17, h18, h19, h7, hac, hH⟩
      simp -dsimp [h2, h17, h18, h19, h7, wFix_by, isInl]
      split
      · rename_i hlt
        have hn := put3_s (h l[i] (List.getElem_mem hlt)).1 (Nat.le_trans (h l[i] (List.getElem_mem hlt)).2 (by omega))
        have g : l[i]?.getD default = l[i] := by simp [hlt]
        have e1 := encL_succ encWor l i hlt
        have t1 : (encL encWor (l.take i)).length ≤ 1200 * l.length := Nat.le_trans (encL_len (k := 1200) fun a ha => encWor_len (h a (List.mem_of_mem_take ha))) (by rw [List.length_take]; omega)
        have t2 := encWor_len (h l[i] (List.getElem_mem hlt))
        have w2 : IntKind.i64.wrap ((i : Int) + 1) = ((i + 1 : Nat) : Int) := by rw [Fz.w64 (by omega) (by omega)]; omega
        refine ⟨hlt, ?_⟩
        rw [g, show (V.agg [V.str l[i].name, V.int .i64 l[i].code, V.bool l[i].now, V.bool l[i].hid]) = worV l[i] from rfl, call_by hn]
        simp -dsimp [h2, h17, h18, h19, h7]
        refine app_ac 1 (m := (encWor l[i]).map (V.int .u8)) (v := v) (l := (encN keep ++ encN l.length ++ encL encWor (l.take i)).map (V.int .u8)) (by
          rw [List.drop_append_of_le_length hH]; exact ac_ext hac _) (by simp) (by simp [encWor]) (by simp [encWor]) (by simp) (by simp [storable]) (by simp [capOk]; omega) fun v' J' hac' => ?_
        simp -dsimp [h2, h17, h18, h19, w2]
        refine ⟨l.length - (i + 1), by omega, i + 1, v', by omega, rfl, ?_⟩
        simp -dsimp [h2, h17, h18]
        rw [e1]
        simpa using hac'
      · have hii : i = l.length := by omega
        subst hii
        rw [List.take_length] at hac
        exact frz_ac (b := 1) (by simpa [List.append_assoc] using hac)
end Fz.D
set_option maxRecDepth 100000
namespace Fz.D
open Go
def encRun (r : Rn) : List Int := encN r.at_ ++ txt r.b
def encD (d : De) : List Int := encN d.mem.length ++ encL encRun d.mem ++ (encN d.dk ++ encN d.dt.length ++ encs d.dt) ++ (encN d.rk ++ encN d.rt.length ++ encL encSlo d.rt) ++ (encN d.ck ++ encN d.ct.length ++ encs d.ct) ++
  (encN d.wk ++ encN d.wt.length ++ encL encWor d.wt) ++ (encN d.sk ++ encN d.st.length ++ encL encSpo d.st) ++ encs [d.out] ++ encs [d.r0, d.r1, d.r2, d.r3, d.r4, d.r5] ++ encs [flg d.comp d.halt]
structure DeOk (d : De) : Prop where
  mem : ∀ r ∈ d.mem, i64 r.at_ ∧ r.b.length ≤ 10000
  meml : d.mem.length ≤ 1000
  dk : i64 d.dk
  dt : ∀ n ∈ d.dt, i64 n
  dtl : d.dt.length ≤ 1000
  rk : i64 d.rk
  rt : ∀ s ∈ d.rt, i64 s.v
  rtl : d.rt.length ≤ 1000
  ck : i64 d.ck
  ct : ∀ n ∈ d.ct, i64 n
  ctl : d.ct.length ≤ 1000
  wk : i64 d.wk
  wt : ∀ s ∈ d.wt, i64 s.code ∧ (nmB s.name).length ≤ 1000
  wtl : d.wt.length ≤ 1000
  sk : i64 d.sk
  st : ∀ s ∈ d.st, i64 s.addr ∧ i64 s.at_
  stl : d.st.length ≤ 1000
  out : i64 d.out
  regs : ∀ n ∈ [d.r0, d.r1, d.r2, d.r3, d.r4, d.r5], i64 n
theorem encRun_len {r : Rn} (h : i64 r.at_ ∧ r.b.length ≤ 10000) : (encRun r).length ≤ 10200 := by
  have h1 := encN_len h.1
  have h2 := encN_len (n := r.b.length) (by unfold i64; omega)
  unfold encRun txt
  rw [List.length_append, List.length_append]; omega
theorem encN_ne (n : Int) : encN n ≠ [] := by unfold encN numB; simp
theorem fix_ac (b : Nat) {H : List Ob} {v : V} {out : List Int} {K : V → List Ob → Prop} (ha : Ac 1 b (H.drop b) v (out.map (V.int .u8))) (hne : out ≠ [])
    (hK : ∀ H', H'.take b = H.take b → H'.length = H.length → K (byV out) H') : xFixV v H K := by
  show wFixV v H K
  obtain ⟨h1, h2, h3⟩ := ha
  rcases h3 with ⟨h3, rfl⟩ | ⟨j, cells, rfl, h4, h5, h6⟩
  · exact absurd (by simpa using h3) hne
  · rw [List.getElem?_drop] at h4
    refine ⟨byV out, H.set (b + j) (.fixed cells), ?_, hK _ (by rw [List.take_set_of_le (by omega)]) (by simp)⟩
    have e1 : (cells.drop 0).take ((out.map (V.int .u8)).length * 1) = out.map (V.int .u8) := by rw [List.drop_zero, h6, flat_int]
    rw [show depthF = 11 + 1 from rfl, freezeV, h4]
    dsimp only
    rw [if_pos ⟨by omega, h2⟩, e1, gks_freeze (by simp)]
    dsimp only
    have e2 : (out.map (V.int .u8)).all leafy = true := by simp
    rw [if_pos (.inr e2), chunk_one]
    simp [byV]
theorem flg_i (a b : Bool) : i64 (flg a b) := by unfold flg i64; cases a <;> cases b <;> simp
theorem flg_w (a b : Bool) : IntKind.i64.wrap ((if a = true then 1 else 0) + (if b = true then 2 else 0)) = flg a b := by unfold flg; cases a <;> cases b <;> rfl
end Fz.D
set_option maxRecDepth 100000
namespace Fz.D
open Go
theorem take_cons {H : List Ob} {x : Ob} {A : List Ob} {n : Nat} (h : H.take (n + 1) = (x :: A).take (n + 1)) : ∃ T, H = x :: T := by
  cases H with
  | nil => simp at h
  | cons y T => simp at h; exact ⟨T, by rw [h.1]⟩
theorem quiet_nums {l : List Int} {c : Bool} (h : ∀ n ∈ l, i64 n) (hl : l.length ≤ 1000000) (H : List Ob) (K : V → Prop) : xQuiet p 41 [.list (l.map (V.int .i64)) c] H K = K (byV (encs l)) :=
  quiet_nrm (a := [inV l]) rfl (by simp) (by simp [inV, nrm, nrmL_eq]) (nums_s h hl)
theorem put_s {d : De} (h : DeOk d) : Comes p 17 [deV d] (byV (encD d)) := by
  have hn : i64 (d.mem.length : Int) := by have := h.meml; unfold i64; omega
  have hm := h.meml
  have b0 := encN_len hn
  refine Comes_of w17 rfl rfl k17 ?_ ?_ ?_ ?_
  · simp
  · simp
  · simp
  · simp -dsimp [w17, wFix_by, isInl, call_by (num_s hn)]
    refine xL_by (by kernel_rfl) (fun k e H => ∃ (i : Nat) (T : List Ob), i ≤ d.mem.length ∧ k = d.mem.length - i ∧ e 1 = .ptr 0 0 ∧ e 12 = runsV d.mem ∧ e 13 = .int .i64 d.mem.length ∧ e 14 = .int .i64 i ∧ e 3 = byV (encN d.mem.length ++ encL encRun (d.mem.take i)) ∧ H = .live (cellsOf (deV d)) :: T) d.mem.length ?_ ?_
    · refine ⟨0, [], ?_⟩
      simp -dsimp [encL, encN]
    · rintro k e H ⟨i, T, hi, hk, h1, h12, h13, h14, h3, rfl⟩
      have t1 : (encL encRun (d.mem.take i)).length ≤ 10200 * 1000 := Nat.le_trans (encL_len (k := 10200) fun a ha => encRun_len (h.mem a (List.mem_of_mem_take ha))) (Nat.mul_le_mul_left _ (by rw [List.length_take]; omega))
      by_cases hlt : i < d.mem.length
      · have g : d.mem[i]?.getD default = d.mem[i] := by simp [hlt]
        have hr := h.mem d.mem[i] (List.getElem_mem hlt)
        have e1 := encL_succ encRun d.mem i hlt
        have t2 := encRun_len hr
        have w2 : IntKind.i64.wrap ((i : Int) + 1) = ((i + 1 : Nat) : Int) := by rw [Fz.w64 (by omega) (by omega)]; omega
        simp -dsimp [h1, h12, h13, h14, h3, wFix_by, isInl, hlt, quiet_by (num_s hr.1), quiet_by (text_s (b := d.mem[i].b) (by omega)), fillV, splice, wOpt, chunk]
        refine concat_call_list (ls := [encN d.mem.length ++ encL encRun (d.mem.take i), encN d.mem[i].at_, txt d.mem[i].b]) (by simp [tot, encRun, txt] at t2 ⊢; omega) (by simp) fun v J hac => ?_
        simp -dsimp [h1, h12, h13, h14, h3, wFix_by, isInl]
        refine fix_ac (T.length + 2) (out := encN d.mem.length ++ encL encRun (d.mem.take i) ++ encRun d.mem[i]) (by simpa [cat, encRun] using hac) (by simp [encN_ne]) fun H' hH _ => ?_
        obtain ⟨T', rfl⟩ := take_cons (n := T.length + 1) hH
        simp -dsimp [h1, h12, h13, h14, h3, w2]
        refine ⟨d.mem.length - (i + 1), by omega, i + 1, T', by omega, rfl, ?_⟩
        simp -dsimp [h1, h12, h13, e1, encRun, txt, encN]
      · have hii : i = d.mem.length := by omega
        subst hii
        rw [List.take_length] at h3 t1
        simp -dsimp [h1, h12, h13, h14, h3, wFix_by, isInl]
        refine WDraw_ext (by kernel_rfl) ?_
        have hr := h.regs
        have q1 := quiet_nums (l := [d.out]) (c := true) (fun n hn => by simp at hn; rw [hn]; exact h.out) (by simp)
        have q2 := quiet_nums (l := [flg d.comp d.halt]) (c := true) (fun n hn => by simp at hn; rw [hn]; exact flg_i _ _) (by simp)
        simp only [List.map_cons, List.map_nil] at q1 q2
        have c1 := listed_s h.dk h.dt (by have := h.dtl; omega)
        have c2 := listedSlo_s h.rk h.rt (by have := h.rtl; omega)
        have c3 := listed_s h.ck h.ct (by have := h.ctl; omega)
        have c4 := listedWor_s h.wk h.wt (by have := h.wtl; omega)
        have c5 := listedSpo_s h.sk h.st (by have := h.stl; omega)
        have c6 := nums_s hr (by simp)
        simp -dsimp [h1, h12, h13, h14, h3, wFix_by, isInl, call_by c1, call_by c2, call_by c3, call_by c4, call_by c5, fillV, splice, wOpt, chunk, q1]
        refine call_frz rfl ?_
        simp -dsimp [wFix_by, isInl]
        have c6 := c6
        simp only [inV, List.map_cons, List.map_nil] at c6
        rw [callN_by c6]
        simp only [wRet_ret]
        refine ⟨Sees.set rfl, ?_⟩
        simp -dsimp [h1, h12, h13, h14, h3, wFix_by, isInl, quiet_by (bit_s d.comp 1), quiet_by (bit_s d.halt 2), flg_w, fillV, splice, wOpt, chunk, q2]
        have l1 := encN_len h.dk
        have l2 := encN_len h.rk
        have l3 := encN_len h.ck
        have l4 := encN_len h.wk
        have l5 := encN_len h.sk
        have n1 := encN_len (n := d.dt.length) (by have := h.dtl; unfold i64; omega)
        have n2 := encN_len (n := d.rt.length) (by have := h.rtl; unfold i64; omega)
        have n3 := encN_len (n := d.ct.length) (by have := h.ctl; unfold i64; omega)
        have n4 := encN_len (n := d.wt.length) (by have := h.wtl; unfold i64; omega)
        have n5 := encN_len (n := d.st.length) (by have := h.stl; unfold i64; omega)
        have m1 : (encs d.dt).length ≤ 65 * 1000 := Nat.le_trans (encs_len h.dt) (Nat.mul_le_mul_left _ h.dtl)
        have m2 : (encL encSlo d.rt).length ≤ 130 * 1000 := Nat.le_trans (encL_len (k := 130) fun a ha => encSlo_len (h.rt a ha)) (Nat.mul_le_mul_left _ h.rtl)
        have m3 : (encs d.ct).length ≤ 65 * 1000 := Nat.le_trans (encs_len h.ct) (Nat.mul_le_mul_left _ h.ctl)
        have m4 : (encL encWor d.wt).length ≤ 1200 * 1000 := Nat.le_trans (encL_len (k := 1200) fun a ha => encWor_len (h.wt a ha)) (Nat.mul_le_mul_left _ h.wtl)
        have m5 : (encL encSpo d.st).length ≤ 130 * 1000 := Nat.le_trans (encL_len (k := 130) fun a ha => encSpo_len (h.st a ha)) (Nat.mul_le_mul_left _ h.stl)
        have o1 : (encs [d.out]).length ≤ 65 * 1 := encs_len fun n hn => by simp at hn; rw [hn]; exact h.out
        have o2 : (encs [d.r0, d.r1, d.r2, d.r3, d.r4, d.r5]).length ≤ 65 * 6 := encs_len hr
        have o3 : (encs [flg d.comp d.halt]).length ≤ 65 * 1 := encs_len fun n hn => by simp at hn; rw [hn]; exact flg_i _ _
        refine concat_call_list (ls := [encN d.mem.length ++ encL encRun d.mem, encN d.dk ++ (encN d.dt.length ++ encs d.dt), encN d.rk ++ (encN d.rt.length ++ encL encSlo d.rt), encN d.ck ++ (encN d.ct.length ++ encs d.ct),
          encN d.wk ++ (encN d.wt.length ++ encL encWor d.wt), encN d.sk ++ (encN d.st.length ++ encL encSpo d.st), encs [d.out], encs [d.r0, d.r1, d.r2, d.r3, d.r4, d.r5], encs [flg d.comp d.halt]]) (by simp [tot]; omega) (by simp) fun v J hac => ?_
        simp only [wRet_ret]
        refine ⟨(Sees.set (i := 0) rfl).trans (Sees.app _ _), ?_⟩
        simp -dsimp [wFix_by, isInl]
        refine frz_ac (b := T.length + 1) ?_
        rw [List.drop_succ_cons, List.drop_left]
        simpa [cat, encD, List.append_assoc] using hac
end Fz.D
set_option maxRecDepth 100000
namespace Fz.D
open Go
end Fz.D
set_option maxRecDepth 100000
namespace Fz.D
open Go
def shr {α : Type} (q : α → α → Bool) : List α → List α → Nat
  | a :: x, b :: y => if q a b then shr q x y + 1 else 0
  | _, _ => 0
theorem shr_step {α : Type} {q : α → α → Bool} {a b : List α} {i : Nat} (h1 : i < a.length) (h2 : i < b.length) (h : q a[i] b[i] = true) : shr q (a.drop i) (b.drop i) = shr q (a.drop (i + 1)) (b.drop (i + 1)) + 1 := by
  rw [List.drop_eq_getElem_cons h1, List.drop_eq_getElem_cons h2, shr, if_pos h]
theorem shr_stop {α : Type} {q : α → α → Bool} {a b : List α} {i : Nat} (h1 : i < a.length) (h2 : i < b.length) (h : q a[i] b[i] = false) : shr q (a.drop i) (b.drop i) = 0 := by
  rw [List.drop_eq_getElem_cons h1, List.drop_eq_getElem_cons h2, shr, if_neg (by rw [h]; simp)]
theorem shr_end1 {α : Type} {q : α → α → Bool} {a b : List α} {i : Nat} (h1 : ¬ i < a.length) : shr q (a.drop i) (b.drop i) = 0 := by
  rw [List.drop_eq_nil_of_le (by omega)]; simp [shr]
theorem shr_end2 {α : Type} {q : α → α → Bool} {a b : List α} {i : Nat} (h1 : ¬ i < b.length) : shr q (a.drop i) (b.drop i) = 0 := by
  rw [List.drop_eq_nil_of_le (show b.length ≤ i by omega)]
  cases a.drop i <;> simp [shr]
theorem shr_le {α : Type} {q : α → α → Bool} : ∀ (a b : List α), shr q a b ≤ a.length ∧ shr q a b ≤ b.length
  | a :: x, b :: y => by
    have := shr_le (q := q) x y
    unfold shr
    split <;> simp <;> omega
  | [], b => by simp [shr]
  | _ :: _, [] => by simp [shr]
theorem drop_map {α β : Type} (f : α → β) (l : List α) (n : Nat) : List.drop n (List.map f l) = (l.drop n).map f := List.map_drop.symm
theorem map_tail2 {α β : Type} (f : α → β) (l : List α) (n : Nat) : List.take (l.length - n) (List.map f (List.drop n l)) = (l.drop n).map f := List.take_of_length_le (by simp)
def inQ (a b : Int) : Bool := decide (a = b)
def sloQ (a b : Slo) : Bool := decide (a.v = b.v) && (a.call == b.call)
def worQ (a b : Wor) : Bool := decide (a.name = b.name) && (decide (a.code = b.code) && ((a.now == b.now) && (a.hid == b.hid)))
def spoQ (a b : Spo) : Bool := decide (a.addr = b.addr) && decide (a.at_ = b.at_)
theorem int_beq (a b : Int) : (a == b) = decide (a = b) := rfl
theorem slo_leaves (a b : Slo) : eqLeaves [.int .i64 a.v, .bool a.call] [.int .i64 b.v, .bool b.call] [(0, .int), (1, .bool)] = some (sloQ a b) := by
  unfold sloQ
  simp only [eqLeaves, leafEq, List.getElem?_cons_zero, List.getElem?_cons_succ, if_true, int_beq]
  cases decide (a.v = b.v) <;> cases (a.call == b.call) <;> rfl
theorem wor_leaves (a b : Wor) : eqLeaves [.str a.name, .int .i64 a.code, .bool a.now, .bool a.hid] [.str b.name, .int .i64 b.code, .bool b.now, .bool b.hid] [(0, .str), (1, .int), (2, .bool), (3, .bool)] = some (worQ a b) := by
  unfold worQ
  simp only [eqLeaves, leafEq, List.getElem?_cons_zero, List.getElem?_cons_succ, if_true, int_beq, bytes_beq]
  cases decide (a.name = b.name) <;> cases decide (a.code = b.code) <;> cases (a.now == b.now) <;> cases (a.hid == b.hid) <;> rfl
theorem spo_leaves (a b : Spo) : eqLeaves [.int .i64 a.addr, .int .i64 a.at_] [.int .i64 b.addr, .int .i64 b.at_] [(0, .int), (1, .int)] = some (spoQ a b) := by
  unfold spoQ
  simp only [eqLeaves, leafEq, List.getElem?_cons_zero, List.getElem?_cons_succ, if_true, int_beq]
  cases decide (a.addr = b.addr) <;> cases decide (a.at_ = b.at_) <;> rfl
theorem inQ_eq {a b : Int} : decide (a = b) = inQ a b := rfl
theorem shareInt_s {a b : List Int} (ha : a.length ≤ 1000000) (hb : b.length ≤ 1000000) : Comes p 48 [inV a, inV b] (.int .i64 (shr inQ a b : Nat)) := by
  refine Comes_of w48 rfl rfl k48 ?_ ?_ ?_ ?_
  · simp
  · simp
  · simp
  · simp -dsimp [w48, wFix_by, isInl]
    refine xL_by (by kernel_rfl) (fun k e H => ∃ i : Nat, i ≤ a.length ∧ k = a.length - i ∧ e 0 = inV a ∧ e 1 = inV b ∧ e 5 = .int .i64 i ∧ shr inQ a b = i + shr inQ (a.drop i) (b.drop i) ∧ H = []) a.length ?_ ?_
    · exact ⟨0, by simp⟩
    · rintro k e H ⟨i, hi, hk, h0, h1, h5, hr, rfl⟩
      have h2 := h5
      by_cases c1 : i < a.length
      · by_cases c2 : i < b.length
        · have g1 : a[i]?.getD default = a[i] := by simp [c1]
          have g2 : b[i]?.getD default = b[i] := by simp [c2]
          cases c3 : inQ a[i] b[i] with
          | true =>
            have w2 : IntKind.i64.wrap ((i : Int) + 1) = ((i + 1 : Nat) : Int) := by rw [Fz.w64 (by omega) (by omega)]; omega
            have hs := shr_step c1 c2 c3
            simp -dsimp [h0, h1, h5, wFix_by, isInl, inV, c1, c2, g1, g2, h2, wOpt, w2, inQ_eq, c3]
            refine ⟨a.length - (i + 1), by omega, i + 1, by omega, rfl, ?_⟩
            simp -dsimp [h0, h1, h5, h2, inV]
            omega
          | false =>
            have hz := shr_stop c1 c2 c3
            have hs : shr inQ a b = i := by omega
            simp -dsimp [h0, h1, h5, wFix_by, isInl, h2, hs, inV, wOpt, c1, c2, g1, g2, inQ_eq, c3]
        · have hz := shr_end2 (q := inQ) (a := a) c2
          have hs : shr inQ a b = i := by omega
          simp -dsimp [h0, h1, h5, wFix_by, isInl, h2, hs, inV, wOpt, c1, c2]
      · have hz := shr_end1 (q := inQ) (b := b) c1
        have hs : shr inQ a b = i := by omega
        simp -dsimp [h0, h1, h5, wFix_by, isInl, h2, hs, inV, wOpt, c1]
theorem shareSlo_s {a b : List Slo} (ha : a.length ≤ 1000000) (hb : b.length ≤ 1000000) : Comes p 49 [slosV a, slosV b] (.int .i64 (shr sloQ a b : Nat)) := by
  refine Comes_of w49 rfl rfl k49 ?_ ?_ ?_ ?_
  · simp
  · simp
  · simp
  · simp -dsimp [w49, wFix_by, isInl]
    refine xL_by (by kernel_rfl) (fun k e H => ∃ i : Nat, i ≤ a.length ∧ k = a.length - i ∧ e 0 = slosV a ∧ e 1 = slosV b ∧ e 5 = .int .i64 i ∧ shr sloQ a b = i + shr sloQ (a.drop i) (b.drop i) ∧ H = []) a.length ?_ ?_
    · exact ⟨0, by simp⟩
    · rintro k e H ⟨i, hi, hk, h0, h1, h5, hr, rfl⟩
      have h2 := h5
      by_cases c1 : i < a.length
      · by_cases c2 : i < b.length
        · have g1 : a[i]?.getD default = a[i] := by simp [c1]
          have g2 : b[i]?.getD default = b[i] := by simp [c2]
          cases c3 : sloQ a[i] b[i] with
          | true =>
            have w2 : IntKind.i64.wrap ((i : Int) + 1) = ((i + 1 : Nat) : Int) := by rw [Fz.w64 (by omega) (by omega)]; omega
            have hs := shr_step c1 c2 c3
            simp -dsimp [h0, h1, h5, wFix_by, isInl, slosV, c1, c2, g1, g2, h2, slo_leaves, wOpt, w2, c3]
            refine ⟨a.length - (i + 1), by omega, i + 1, by omega, rfl, ?_⟩
            simp -dsimp [h0, h1, h5, h2, slosV]
            omega
          | false =>
            have hz := shr_stop c1 c2 c3
            have hs : shr sloQ a b = i := by omega
            simp -dsimp [h0, h1, h5, wFix_by, isInl, h2, hs, slosV, wOpt, c1, c2, g1, g2, slo_leaves, c3]
        · have hz := shr_end2 (q := sloQ) (a := a) c2
          have hs : shr sloQ a b = i := by omega
          simp -dsimp [h0, h1, h5, wFix_by, isInl, h2, hs, slosV, wOpt, c1, c2]
      · have hz := shr_end1 (q := sloQ) (b := b) c1
        have hs : shr sloQ a b = i := by omega
        simp -dsimp [h0, h1, h5, wFix_by, isInl, h2, hs, slosV, wOpt, c1]
theorem shareWor_s {a b : List Wor} (ha : a.length ≤ 1000000) (hb : b.length ≤ 1000000) : Comes p 50 [worsV a, worsV b] (.int .i64 (shr worQ a b : Nat)) := by
  refine Comes_of w50 rfl rfl k50 ?_ ?_ ?_ ?_
  · simp
  · simp
  · simp
  · simp -dsimp [w50, wFix_by, isInl]
    refine xL_by (by kernel_rfl) (fun k e H => ∃ i : Nat, i ≤ a.length ∧ k = a.length - i ∧ e 0 = worsV a ∧ e 1 = worsV b ∧ e 5 = .int .i64 i ∧ shr worQ a b = i + shr worQ (a.drop i) (b.drop i) ∧ H = []) a.length ?_ ?_
    · exact ⟨0, by simp⟩
    · rintro k e H ⟨i, hi, hk, h0, h1, h5, hr, rfl⟩
      have h2 := h5
      by_cases c1 : i < a.length
      · by_cases c2 : i < b.length
        · have g1 : a[i]?.getD default = a[i] := by simp [c1]
          have g2 : b[i]?.getD default = b[i] := by simp [c2]
          cases c3 : worQ a[i] b[i] with
          | true =>
            have w2 : IntKind.i64.wrap ((i : Int) + 1) = ((i + 1 : Nat) : Int) := by rw [Fz.w64 (by omega) (by omega)]; omega
            have hs := shr_step c1 c2 c3
            simp -dsimp [h0, h1, h5, wFix_by, isInl, worsV, c1, c2, g1, g2, h2, wor_leaves, wOpt, w2, c3]
            refine ⟨a.length - (i + 1), by omega, i + 1, by omega, rfl, ?_⟩
            simp -dsimp [h0, h1, h5, h2, worsV]
            omega
          | false =>
            have hz := shr_stop c1 c2 c3
            have hs : shr worQ a b = i := by omega
            simp -dsimp [h0, h1, h5, wFix_by, isInl, h2, hs, worsV, wOpt, c1, c2, g1, g2, wor_leaves, c3]
        · have hz := shr_end2 (q := worQ) (a := a) c2
          have hs : shr worQ a b = i := by omega
          simp -dsimp [h0, h1, h5, wFix_by, isInl, h2, hs, worsV, wOpt, c1, c2]
      · have hz := shr_end1 (q := worQ) (b := b) c1
        have hs : shr worQ a b = i := by omega
        simp -dsimp [h0, h1, h5, wFix_by, isInl, h2, hs, worsV, wOpt, c1]
theorem shareSpo_s {a b : List Spo} (ha : a.length ≤ 1000000) (hb : b.length ≤ 1000000) : Comes p 51 [sposV a, sposV b] (.int .i64 (shr spoQ a b : Nat)) := by
  refine Comes_of w51 rfl rfl k51 ?_ ?_ ?_ ?_
  · simp
  · simp
  · simp
  · simp -dsimp [w51, wFix_by, isInl]
    refine xL_by (by kernel_rfl) (fun k e H => ∃ i : Nat, i ≤ a.length ∧ k = a.length - i ∧ e 0 = sposV a ∧ e 1 = sposV b ∧ e 5 = .int .i64 i ∧ shr spoQ a b = i + shr spoQ (a.drop i) (b.drop i) ∧ H = []) a.length ?_ ?_
    · exact ⟨0, by simp⟩
    · rintro k e H ⟨i, hi, hk, h0, h1, h5, hr, rfl⟩
      have h2 := h5
      by_cases c1 : i < a.length
      · by_cases c2 : i < b.length
        · have g1 : a[i]?.getD default = a[i] := by simp [c1]
          have g2 : b[i]?.getD default = b[i] := by simp [c2]
          cases c3 : spoQ a[i] b[i] with
          | true =>
            have w2 : IntKind.i64.wrap ((i : Int) + 1) = ((i + 1 : Nat) : Int) := by rw [Fz.w64 (by omega) (by omega)]; omega
            have hs := shr_step c1 c2 c3
            simp -dsimp [h0, h1, h5, wFix_by, isInl, sposV, c1, c2, g1, g2, h2, spo_leaves, wOpt, w2, c3]
            refine ⟨a.length - (i + 1), by omega, i + 1, by omega, rfl, ?_⟩
            simp -dsimp [h0, h1, h5, h2, sposV]
            omega
          | false =>
            have hz := shr_stop c1 c2 c3
            have hs : shr spoQ a b = i := by omega
            simp -dsimp [h0, h1, h5, wFix_by, isInl, h2, hs, sposV, wOpt, c1, c2, g1, g2, spo_leaves, c3]
        · have hz := shr_end2 (q := spoQ) (a := a) c2
          have hs : shr spoQ a b = i := by omega
          simp -dsimp [h0, h1, h5, wFix_by, isInl, h2, hs, sposV, wOpt, c1, c2]
      · have hz := shr_end1 (q := spoQ) (b := b) c1
        have hs : shr spoQ a b = i := by omega
        simp -dsimp [h0, h1, h5, wFix_by, isInl, h2, hs, sposV, wOpt, c1]
end Fz.D
set_option maxRecDepth 100000
namespace Fz.D
open Go
def gt (a : List Int) (i : Nat) : Int := a.getD i 0
theorem gt_at {a : List Int} {i : Nat} (h : i < a.length) : a[i] = gt a i := by simp [gt, h]
def rn (a : List Int) (s i : Nat) : Rn := ⟨s, (a.drop s).take (i - s)⟩
def fin (a : List Int) (g : List Rn × Nat) (i : Nat) : List Rn := if g.2 < i then g.1 ++ [rn a g.2 i] else g.1
def G (a b : List Int) : Nat → List Rn × Nat
  | 0 => ([], 0)
  | i + 1 => if gt a i = gt b i then (fin a (G a b i) i, i + 1) else G a b i
def runsF (a b : List Int) : List Rn := fin a (G a b a.length) a.length
theorem G_le (a b : List Int) : ∀ i, (G a b i).2 ≤ i
  | 0 => Nat.le_refl _
  | i + 1 => by
    have := G_le a b i
    unfold G
    split
    · exact Nat.le_refl _
    · exact Nat.le_succ_of_le this
theorem fin_same {a b : List Int} {i : Nat} (h : gt a i = gt b i) : fin a (G a b (i + 1)) (i + 1) = fin a (G a b i) i := by
  rw [G, if_pos h]
  generalize fin a (G a b i) i = x
  simp [fin]
theorem fin_more {a b : List Int} {i : Nat} (h : gt a i ≠ gt b i) : fin a (G a b (i + 1)) (i + 1) = (G a b i).1 ++ [rn a (G a b i).2 (i + 1)] := by
  have := G_le a b i
  rw [G, if_neg h]
  unfold fin
  rw [if_pos (by omega)]
theorem fin_len (a b : List Int) : ∀ i, (fin a (G a b i) i).length ≤ i
  | 0 => by simp [fin, G]
  | i + 1 => by
    have h1 := fin_len a b i
    by_cases h : gt a i = gt b i
    · rw [fin_same h]; omega
    · rw [fin_more h]
      unfold fin at h1
      split at h1 <;> simp at h1 ⊢ <;> omega
theorem acc_len {n b : Nat} {J : List Ob} {v : V} {l : List V} (h : Acc n b J v l) {K : V → Prop} : wSl v (fun l _ => wVal (V.int .i64 l.length) fun v => K v) (fun _ _ n _ => K (.int .i64 n)) = K (.int .i64 l.length) := by
  obtain ⟨_, _, h3⟩ := h
  rcases h3 with ⟨rfl, rfl⟩ | ⟨j, rfl, _⟩ <;> rfl
end Fz.D
set_option maxRecDepth 100000
namespace Fz.D
open Go
def byT (b : List Int) : V := .list (b.map (V.int .u8)) true
def runT (r : Rn) : V := .agg [.int .i64 r.at_, byT r.b]
@[simp] theorem byT.gd (b : List Int) : ground (byT b) = true := by simp [byT]
@[simp] theorem byT.any (b : List Int) : isAny (byT b) = false := rfl
@[simp] theorem byT.st (b : List Int) : storable (byT b) = true := rfl
@[simp] theorem byT.cells (b : List Int) : cellsOf (byT b) = [byT b] := rfl
@[simp] theorem byT.nr (b : List Int) : nrm (byT b) = byV b := by simp [byT, byV]
@[simp] theorem runT.gd (r : Rn) : ground (runT r) = true := by simp [runT]
@[simp] theorem runT.gk (r : Rn) (k : Nat) : gk (k + 2) (runT r) = true := by simp [runT, byT]
@[simp] theorem runT.any (r : Rn) : isAny (runT r) = false := rfl
@[simp] theorem runT.cells (r : Rn) : cellsOf (runT r) = [.int .i64 r.at_, byT r.b] := rfl
@[simp] theorem runT.nr (r : Rn) : nrm (runT r) = runV r := by simp [runT, runV]
@[simp] theorem runT.nrc : nrm ∘ runT = runV := funext fun x => runT.nr x
@[simp] theorem runT.uni (l : List Rn) : uni 2 (l.map runT) = true := uni_map fun _ => rfl
@[simp] theorem runT.flat (l : List Rn) : flat (l.map runT) = l.flatMap fun r => [.int .i64 r.at_, byT r.b] := by rw [flat_map]; rfl
theorem flat_runsT (l : List Rn) : (flat (l.map runT)).length = l.length * 2 := by rw [uni_flat (n := 2) (by simp)]; simp
abbrev Lp (i : Nat) : Ob := .loop 180 [5] [.ptr i 0] .ready
theorem yld_s {A B : Ob} {v : V} {r : Rn} {rest : List V} {rs : List Rn} {T : List Ob} {Q : CR → List Ob → Prop} (hr : groundL rest = true) (ha : Acc 2 4 T v (rs.map runT)) (hlen : rs.length ≤ 100000)
    (hq : ∀ v' T', Acc 2 4 T' v' ((rs ++ [r]).map runT) → Q (.ret (.bool true)) (Lp 3 :: A :: B :: .live (v' :: rest) :: T')) :
    WCall p YF [.yld 0, runT r] (Lp 3 :: A :: B :: .live (v :: rest) :: T) Q := by
  have hrr : refsL rest = [] := groundL_refs rest hr
  have hre : ∀ g, renL g rest = rest := fun g => groundL_ren g rest hr
  have h0 : refsL [.yld 0, runT r] = [0] := by
    rw [refsL, refsL, ground_refs _ (runT.gd r)]; simp [refs, refsL]
  have bp : bd180.ps = [38] := rfl
  have i3 : ∀ l, List.idxOf 3 (0 :: 3 :: l) = 1 := fun _ => rfl
  have rr : ∀ g, ren g (runT r) = runT r := fun g => ground_ren g _ (runT.gd r)
  have rb : ∀ g, ren g (byT r.b) = byT r.b := fun g => ground_ren g _ (byT.gd r.b)
  obtain ⟨u1, u2, u3⟩ := ha
  rcases u3 with ⟨u3, rfl⟩ | ⟨j, rfl, hj⟩
  · have hre1 : reach (Lp 3 :: A :: B :: .live (.list [] true :: rest) :: T) 1000 (refsL [.yld 0, runT r]) [] = some [0, 3] := by
      rw [h0]
      show reach _ (997 + 1 + 1 + 1) [0] [] = _
      simp [reach, refsOb, refsL, refs, hrr]
    refine WCall_inl rfl hre1 ?_
    simp -dsimp [renL, ren, renOb, hre, i3, rr]
    refine WFun_round ca180 cb180 (k := 180) rfl rfl rfl rfl rfl ka180 kb180 ?_
    simp -dsimp [ca180, cb180, setPs, envT, assignQ, bp, i3, roundQ]
    refine ⟨by simp [capOk], ?_⟩
    have rs0 : rs = [] := by simpa using u3
    subst rs0
    have k0 : backK [0, 3] (T.length + 1 + 1 + 1 + 1) 0 = 0 := rfl
    have k1 : backK [0, 3] (T.length + 1 + 1 + 1 + 1) 1 = 3 := rfl
    have k4 : backK [0, 3] (T.length + 1 + 1 + 1 + 1) 4 = T.length + 1 + 1 + 1 + 1 + 2 := rfl
    have := hq (.own (T.length + 1 + 1 + 1 + 1 + 2) 0 1 2) (T ++ [.live [.int .i64 r.at_, byT r.b], .live [.int .i64 r.at_, byT r.b], .live [.int .i64 r.at_, byT r.b]])
      ⟨by simp, by decide, .inr ⟨T.length + 2, by simp; omega, by simp⟩⟩
    simp [backH, setAll, renOb, ren, renL, renR, hre, crV, refs, refsL, refsOb, k0, k1, k4, rb]
    exact this
  · have hjl : j < T.length := (List.getElem?_eq_some_iff.1 hj).1
    have hj4 : (Lp 3 :: A :: B :: .live (.own (4 + j) 0 (rs.map runT).length 2 :: rest) :: T)[4 + j]? = some (.live (flat (rs.map runT))) := by
      rw [show 4 + j = j + 1 + 1 + 1 + 1 from by omega]; simpa using hj
    have fr : refsL (flat (rs.map runT)) = [] := groundL_refs _ (by simp)
    have fe : ∀ g, renL g (flat (rs.map runT)) = flat (rs.map runT) := fun g => groundL_ren g _ (by simp)
    have hre1 : reach (Lp 3 :: A :: B :: .live (.own (4 + j) 0 (rs.map runT).length 2 :: rest) :: T) 1000 (refsL [.yld 0, runT r]) [] = some [0, 3, 4 + j] := by
      rw [h0]
      refine (reach_go (k := 999) rfl rfl).trans ?_
      refine (reach_go (k := 998) (by rfl) rfl).trans ?_
      simp only [refsOb, refsL, refs, hrr, List.nil_append, List.cons_append, List.append_nil]
      refine (reach_go (k := 997) (by simp; omega) hj4).trans ?_
      simp only [refsOb, fr, List.append_nil, List.nil_append]
      exact reach_end (k := 996)
    have i4 : List.idxOf (4 + j) [0, 3, 4 + j] = 2 := by
      have e0 : (0 == 4 + j) = false := by rw [beq_eq_false_iff_ne]; omega
      have e3 : (3 == 4 + j) = false := by rw [beq_eq_false_iff_ne]; omega
      simp [List.idxOf_cons, e0, e3]
    have gl := flat_runsT rs
    obtain ⟨c, hc⟩ : ∃ c, c = flat (rs.map runT) := ⟨_, rfl⟩
    rw [← hc] at fr fe hj4 hj gl
    have hj4' := hj4
    have hj5 : (Lp 3 :: A :: B :: .live (.own (4 + j) 0 rs.length 2 :: rest) :: T)[4 + j]?.getD .dead = .live c := by
      rw [show rs.length = (rs.map runT).length from by simp, hj4]; rfl
    refine WCall_inl rfl hre1 ?_
    simp -dsimp [renL, ren, hre, i3, rr, i4, hj5]
    simp -dsimp [renL, ren, renOb, hre, i3, rr, i4, fe]
    refine WFun_round ca180 cb180 (k := 180) rfl rfl rfl rfl rfl ka180 kb180 ?_
    simp -dsimp [ca180, cb180, setPs, envT, assignQ, bp, i3, roundQ]
    have k0 : backK [0, 3, 4 + j] (T.length + 1 + 1 + 1 + 1) 0 = 0 := rfl
    have k1 : backK [0, 3, 4 + j] (T.length + 1 + 1 + 1 + 1) 1 = 3 := rfl
    have k5 : backK [0, 3, 4 + j] (T.length + 1 + 1 + 1 + 1) 5 = T.length + 1 + 1 + 1 + 1 + 2 := rfl
    have tc : List.take (rs.length * 2) c = c := List.take_of_length_le (by omega)
    refine ⟨⟨by omega, by simp [capOk]; omega⟩, ?_⟩
    have := hq (.own (T.length + 1 + 1 + 1 + 1 + 2) 0 (rs.length + 1) 2) (T.set j .dead ++ [.live [.int .i64 r.at_, byT r.b], .live [.int .i64 r.at_, byT r.b], .live (c ++ [.int .i64 r.at_, byT r.b])])
      ⟨by simp, by decide, .inr ⟨T.length + 2, by simp; omega, by simp [hc]⟩⟩
    have f2 : ∀ g, renL g (c ++ [V.int .i64 r.at_, byT r.b]) = c ++ [V.int .i64 r.at_, byT r.b] := fun g => groundL_ren g _ (by rw [hc]; simp)
    have s4 : ∀ (x : Ob), (Lp 3 :: A :: B :: .live (.own (T.length + 1 + 1 + 1 + 1 + 2) 0 (rs.length + 1) 2 :: rest) :: T).set (4 + j) x = Lp 3 :: A :: B :: .live (.own (T.length + 1 + 1 + 1 + 1 + 2) 0 (rs.length + 1) 2 :: rest) :: T.set j x := fun x => by
      rw [show 4 + j = j + 1 + 1 + 1 + 1 from by omega]; rfl
    simp [backH, setAll, renOb, ren, renL, renR, hre, crV, refs, refsL, refsOb, k0, k1, k5, rb, tc, f2]
    rw [s4]
    exact this
end Fz.D
set_option maxRecDepth 100000
namespace Fz.D
open Go
abbrev HR (a b : List Int) (v : V) (rest : List V) (T : List Ob) : List Ob := Lp 3 :: .live [byV a] :: .live [byV b] :: .live (v :: rest) :: T
theorem runs1_s {a b : List Int} {rest : List V} (hb : a.length = b.length) (ha : a.length ≤ 100000) (hr : groundL rest = true) {Q : CR → List Ob → Prop}
    (hq : ∀ v T, Acc 2 4 T v ((runsF a b).map runT) → Q (.ret (.tuple [])) (HR a b v rest T)) :
    WFun p 73 [.yld 0, .ptr 1 0, .ptr 2 0] (HR a b (.list [] true) rest []) Q := by
  refine WFun_of w73 rfl rfl k73 ?_
  simp -dsimp [w73]
  refine xL_by (by kernel_rfl) (fun k e H => ∃ (i : Nat) (v : V) (T : List Ob), i ≤ a.length + 1 ∧ k = a.length + 1 - i ∧ e 0 = .yld 0 ∧ e 1 = .ptr 1 0 ∧ e 2 = .ptr 2 0 ∧ e 4 = .int .i64 i ∧ H = HR a b v rest T ∧
    ((i ≤ a.length ∧ (G a b i).2 = i ∧ Acc 2 4 T v ((G a b i).1.map runT)) ∨ (i = a.length + 1 ∧ Acc 2 4 T v ((runsF a b).map runT)))) (a.length + 1) ?_ ?_
  · refine ⟨0, .list [] true, [], by simp, rfl, rfl, rfl, rfl, rfl, rfl, .inl ⟨by simp, rfl, acc_nil (by decide)⟩⟩
  · rintro k e H ⟨i, v, T, hi, hk, h0, h1, h2, h4, rfl, hc⟩
    by_cases c1 : i < a.length
    · rcases hc with ⟨_, hs, hac⟩ | ⟨hc, _⟩
      · simp -dsimp [h0, h1, h2, h4, c1]
        refine xL_by (by kernel_rfl) (fun k e H => ∃ j : Nat, i ≤ j ∧ j ≤ a.length ∧ k = a.length - j ∧ e 0 = .yld 0 ∧ e 1 = .ptr 1 0 ∧ e 2 = .ptr 2 0 ∧ e 4 = .int .i64 j ∧ e 5 = .int .i64 i ∧ H = HR a b v rest T ∧ G a b j = G a b i) (a.length - i) ?_ ?_
        · refine ⟨i, by omega, by omega, rfl, ?_⟩
          simp -dsimp [h0, h1, h2, h4]
        · rintro k e H ⟨j, hij, hj, hk, h0, h1, h2, h4, h5, rfl, hG⟩
          have w2 : IntKind.i64.wrap ((j : Int) + 1) = ((j + 1 : Nat) : Int) := by rw [Fz.w64 (by omega) (by omega)]; omega
          by_cases c2 : j < a.length
          · have c3 : j < b.length := by omega
            have g1 := gt_at c2
            have g2 := gt_at c3
            cases c4 : decide (gt a j = gt b j) with
            | false =>
              have w2 : IntKind.i64.wrap ((j : Int) + 1) = ((j + 1 : Nat) : Int) := by rw [Fz.w64 (by omega) (by omega)]; omega
              simp -dsimp [h0, h1, h2, h4, h5, c2, c3, g1, g2, c4, w2]
              refine ⟨a.length - (j + 1), by omega, j + 1, by omega, by omega, rfl, ?_⟩
              simp -dsimp [h0, h1, h2, h4, h5]
              rw [G, if_neg (by simpa using c4)]
              exact hG
            | true =>
              by_cases c5 : i < j
              · simp -dsimp [h0, h1, h2, h4, h5, c2, c3, g1, g2, c4, c5]
                refine ⟨⟨by omega, by omega⟩, ?_⟩
                rw [show (V.agg [V.int .i64 i, V.list (List.take (j - i) (List.drop i (List.map (V.int .u8) a))) true]) = runT (rn a i j) from by simp [runT, rn, byT]]
                refine yld_s hr hac (by have := fin_len a b i; unfold fin at this; split at this <;> omega) fun v' T' hac' => ?_
                simp -dsimp [h0, h1, h2, h4, h5, w2]
                refine ⟨a.length + 1 - (j + 1), by omega, j + 1, v', T', by omega, rfl, ?_⟩
                simp -dsimp [h0, h1, h2]
                refine .inl ⟨by omega, by rw [G, if_pos (by simpa using c4)], ?_⟩
                have e : (G a b (j + 1)).1 = (G a b i).1 ++ [rn a i j] := by
                  rw [G, if_pos (by simpa using c4), hG]; simp only [fin, hs, c5, if_true]
                rw [e]; exact hac'
              · have hjj : i = j := by omega
                subst hjj
                simp -dsimp [h0, h1, h2, h4, h5, c2, c3, g1, g2, c4, c5, w2]
                refine ⟨a.length + 1 - (i + 1), by omega, i + 1, v, T, by omega, rfl, ?_⟩
                simp -dsimp [h0, h1, h2]
                refine .inl ⟨by omega, by rw [G, if_pos (by simpa using c4)], ?_⟩
                have e : (G a b (i + 1)).1 = (G a b i).1 := by
                  rw [G, if_pos (by simpa using c4)]; simp only [fin, hs, c5, if_false]
                rw [e]; exact hac
          · have hjj : j = a.length := by omega
            subst hjj
            simp -dsimp [h0, h1, h2, h4, h5, c2, c1]
            refine ⟨by omega, ?_⟩
            rw [show (V.agg [V.int .i64 i, V.list (List.take (a.length - i) (List.drop i (List.map (V.int .u8) a))) true]) = runT (rn a i a.length) from by simp [runT, rn, byT]]
            refine yld_s hr hac (by have := fin_len a b i; unfold fin at this; split at this <;> omega) fun v' T' hac' => ?_
            simp -dsimp [h0, h1, h2, h4, h5, w2]
            refine ⟨a.length + 1 - (a.length + 1), by omega, a.length + 1, v', T', by omega, rfl, ?_⟩
            simp -dsimp [h0, h1, h2]
            have e : runsF a b = (G a b i).1 ++ [rn a i a.length] := by
              unfold runsF
              rw [hG]; simp only [fin, hs, c1, if_true]
            rw [e]; exact .inr hac'
      · omega
    · simp -dsimp [h0, h1, h2, h4, c1]
      refine hq v T ?_
      rcases hc with ⟨hle, hs, hac⟩ | ⟨_, hac⟩
      · have hii : i = a.length := by omega
        subst hii
        have e : runsF a b = (G a b a.length).1 := by
          unfold runsF fin
          rw [if_neg (by omega)]
        rw [e]; exact hac
      · exact hac
end Fz.D
