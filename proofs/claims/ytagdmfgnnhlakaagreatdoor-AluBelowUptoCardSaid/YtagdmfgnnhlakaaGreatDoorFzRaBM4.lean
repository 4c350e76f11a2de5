import Derived.Test.YtagdmfgnnhlakaaGreatDoorFzRaBM3
import Derived.Test.YtagdmfgnnhlakaaGreatDoorProg
import Derived.Test.YtagdmfgnnhlakaaGreatDoorChecked
import Derived.Shelf.Strings.Builder1
import Derived.BigCall
import Derived.WalkKit
import Derived.Test.YtagdmfgnnhlakaaGreatDoorRows
import Derived.Test.YtagdmfgnnhlakaaGreatDoorCards
import Derived.Test.YtagdmfgnnhlakaaGreatDoorTie
import Derived.Deep.DeepWitnessRowRef
import Derived.LaidMore
import Derived.Lib.LaidTab
set_option linter.all false
set_option linter.unusedVariables false
set_option linter.unusedSimpArgs false
set_option linter.unnecessarySimpa false
namespace Fz
open Go
def Sees (H H' : List Ob) : Prop := ∀ i : Nat, match H[i]? with
  | some (.live l) => H'[i]? = some (.live l) ∨ H'[i]? = some (.fixed l)
  | some .dead => True
  | some o => H'[i]? = some o
  | none => True
theorem Sees.refl (H : List Ob) : Sees H H := by
  intro i
  cases h : H[i]? with
  | none => trivial
  | some o => cases o <;> simp
theorem Sees.trans {A B C : List Ob} (h : Sees A B) (g : Sees B C) : Sees A C := by
  intro i
  have h1 := h i
  have h2 := g i
  cases ho : A[i]? with
  | none => trivial
  | some o =>
    rw [ho] at h1
    cases o with
    | live l =>
      rcases h1 with h1 | h1
      · rw [h1] at h2; exact h2
      · rw [h1] at h2; exact .inr h2
    | dead => trivial
    | _ => rw [show B[i]? = _ from h1] at h2; exact h2
theorem Sees.app (H G : List Ob) : Sees H (H ++ G) := by
  intro i
  cases ho : H[i]? with
  | none => trivial
  | some o =>
    have : (H ++ G)[i]? = some o := by rw [List.getElem?_append_left (List.getElem?_eq_some_iff.1 ho).1]; exact ho
    cases o <;> simp [this]
theorem Sees.set {H : List Ob} {i : Nat} {l : List V} (h : H[i]? = some (.live l)) : Sees H (H.set i (.fixed l)) := by
  intro j
  rw [List.getElem?_set]
  by_cases e : i = j
  · subst e
    rw [h, if_pos rfl, if_pos (List.getElem?_eq_some_iff.1 h).1]
    exact .inr rfl
  · rw [if_neg e]
    cases ho : H[j]? with
    | none => trivial
    | some o => cases o <;> simp
theorem peek_see {H : List Ob} {n : Nat} {v : V} {l : List V} {H' : List Ob} (G : Sees H H') (h : peek H n v = some l) : peek (H') n v = some l := by
  cases v with
  | ref x => exact h
  | ptr id off =>
    simp only [peek] at h ⊢
    cases ho : H[id]? with
    | none => rw [ho] at h; cases h
    | some o =>
      have hs := G id
      rw [ho] at h hs
      cases o with
      | live x => rcases hs with hs | hs <;> (rw [hs]; exact h)
      | fixed x => rw [show H'[id]? = _ from hs]; exact h
      | _ => cases h
  | _ => cases h
theorem elems_see {H : List Ob} {n : Nat} {v : V} {l : List V × Nat} {H' : List Ob} (G : Sees H H') (h : elems H n v = some l) : elems (H') n v = some l := by
  cases v with
  | own id off len m =>
    simp only [elems] at h ⊢
    split at h
    · rename_i hm
      rw [if_pos hm]
      obtain ⟨x, hx, hh⟩ := Option.map_eq_some_iff.1 h
      rw [peek_see G hx, Option.map_some, hh]
    · cases h
  | _ => exact h
theorem lend_see {H : List Ob} {H' : List Ob} (G : Sees H H') : ∀ (k : Nat) (v v' : V), lendV H k v = some v' → lendV (H') k v = some v' := by
  intro k
  induction k with
  | zero => intro v v' h; cases h
  | succ k ih =>
    have hm : ∀ (l x : List V), mapOpt (lendV H k) l = some x → mapOpt (lendV (H') k) l = some x := by
      intro l
      induction l with
      | nil => intro x h; exact h
      | cons v l ihl =>
        intro x h
        simp only [mapOpt] at h ⊢
        split at h <;> cases h
        rename_i a b ha hb
        rw [ih _ _ ha, ihl _ hb]
    intro v v' h
    cases v with
    | own id off len n =>
      simp only [lendV] at h ⊢
      split at h
      · cases h
      · rename_i hn
        rw [if_neg hn]
        split at h
        · rename_i l hl
          rw [peek_see G hl]
          dsimp only
          split at h
          · rename_i x hx; rw [hm _ _ hx]; exact h
          · cases h
        · cases h
    | agg l =>
      simp only [lendV] at h ⊢
      obtain ⟨x, hx, hh⟩ := Option.map_eq_some_iff.1 h
      rw [hm _ _ hx, Option.map_some, hh]
    | tuple l =>
      simp only [lendV] at h ⊢
      obtain ⟨x, hx, hh⟩ := Option.map_eq_some_iff.1 h
      rw [hm _ _ hx, Option.map_some, hh]
    | _ => exact h
theorem lends_see {H : List Ob} {H' : List Ob} (G : Sees H H') (k : Nat) : ∀ (l x : List V), mapOpt (lendV H k) l = some x → mapOpt (lendV (H') k) l = some x := by
  intro l
  induction l with
  | nil => intro x h; exact h
  | cons v l ihl =>
    intro x h
    simp only [mapOpt] at h ⊢
    split at h <;> cases h
    rename_i a b ha hb
    rw [lend_see G _ _ _ ha, ihl _ hb]
theorem mapOf_see {H : List Ob} {H' : List Ob} (G : Sees H H') {m : V} {x : List V × List V} (h : mapOf H m = some x) : mapOf (H') m = some x := by
  unfold mapOf at h ⊢
  split at h <;> try (cases h; done)
  · exact h
  · exact h
  · rename_i id
    split at h <;> cases h
    rename_i ho
    have hs := G id
    rw [ho] at hs
    rw [show H'[id]? = _ from hs]
theorem rd_see {H : List Ob} {H' : List Ob} (G : Sees H H') {k : RK} {l : List V} {v : V} (h : rdV H k l = some v) : rdV (H') k l = some v := by
  unfold rdV at h ⊢
  split at h
  · rename_i kk z ok m k
    cases hm : mapOf H m with
    | none => rw [hm] at h; cases h
    | some x => rw [hm] at h; rw [mapOf_see G hm]; exact h
  · cases h
theorem evOp_see {ρ : Opd → V} {op : AOp} (hp : pureOp op = true) {H : List Ob} {H' : List Ob} (G : Sees H H') {v : V} {H1 : List Ob} (h : evOp ρ H op = some (.val v H1)) :
    ∃ H2, evOp ρ (H') op = some (.val v H2) := by
  by_cases hf : heapFree op = true
  · exact ⟨_, evOp_free hf H (H') h⟩
  · cases op with
    | rd k l =>
      simp only [evOp, ans] at h ⊢
      obtain ⟨u, hu, h⟩ := Option.map_eq_some_iff.1 h
      rw [rd_see G hu]; cases h; exact ⟨_, rfl⟩
    | load agg n x =>
      simp only [evOp] at h ⊢
      cases hl : peek H n (ρ x) with
      | none => rw [hl] at h; cases h
      | some l =>
        rw [hl] at h
        rw [peek_see G hl]
        dsimp only at h ⊢
        split at h
        · rename_i ha; cases h; exact ⟨_, if_pos ha⟩
        · rename_i ha
          rw [if_neg ha]
          split at h
          · cases h; exact ⟨_, rfl⟩
          · cases h
    | conv k x =>
      cases k with
      | b2s =>
        simp only [evOp] at h ⊢
        cases hx : ρ x with
        | list l c =>
          rw [hx] at h
          dsimp only at h ⊢
          obtain ⟨q, hq, h⟩ := Option.bind_eq_some_iff.1 h
          rw [elems_see G hq, Option.bind_some]
          split at h <;> cases h
          rename_i hc
          exact ⟨_, if_pos hc⟩
        | own a b c d =>
          rw [hx] at h
          dsimp only at h ⊢
          obtain ⟨q, hq, h⟩ := Option.bind_eq_some_iff.1 h
          rw [elems_see G hq, Option.bind_some]
          split at h <;> cases h
          rename_i hc
          exact ⟨_, if_pos hc⟩
        | _ => rw [hx] at h; cases h
      | _ => exact absurd rfl hf
    | slice k x lo hi mx =>
      cases k with
      | arr alen n =>
        simp only [evOp, ans] at h ⊢
        obtain ⟨u, hu, hh⟩ := Option.map_eq_some_iff.1 h
        refine ⟨H', ?_⟩
        have : sliceV (H') (.arr alen n) (ρ x) (lo.map ρ) (hi.map ρ) (mx.map ρ) = some u := by
          unfold sliceV at hu ⊢
          split at hu
          · cases hu
          · rename_i hc
            rw [if_neg hc]
            cases hx : ρ x with
            | ptr id off =>
              rw [hx] at hu
              dsimp only at hu ⊢
              split at hu
              · rename_i h1 h2 h3 h4
                rw [h1, h2, h3, peek_see G h4]
                exact hu
              · cases hu
            | _ => rw [hx] at hu; cases hu
        rw [this]
        cases hh
        rfl
      | _ => exact absurd rfl hf
    | _ => first | (exact absurd rfl hf) | (cases hp)
theorem quiet_see {call : CallT} {inl : FuncId → Bool} {e : Env} {o : AO} {H : List Ob} {H' : List Ob} (G : Sees H H') {v : V} (h : quietOp call inl e H o = some v) :
    quietOp call inl e (H') o = some v := by
  have go : ∀ (hh : (match evOp (evO e) H o.op with
    | some (.val v _) => if pureOp o.op then some v else none
    | some (.call k args) => match mapOpt (lendV H depthF) args with
      | some l => if groundL l then (match doCall call inl k l [] with
        | some (.ret v, []) => if ground v && (listFree v || groundL args) then some v else none
        | _ => none) else none
      | none => none
    | _ => none) = some v), (match evOp (evO e) (H') o.op with
    | some (.val v _) => if pureOp o.op then some v else none
    | some (.call k args) => match mapOpt (lendV (H') depthF) args with
      | some l => if groundL l then (match doCall call inl k l [] with
        | some (.ret v, []) => if ground v && (listFree v || groundL args) then some v else none
        | _ => none) else none
      | none => none
    | _ => none) = some v := by
    intro hh
    cases hv : evOp (evO e) H o.op with
    | none => rw [hv] at hh; cases hh
    | some q =>
      cases q with
      | val u H1 =>
        rw [hv] at hh
        dsimp only at hh
        have hp : pureOp o.op = true := by
          split at hh
          · assumption
          · cases hh
        obtain ⟨H2, h2⟩ := evOp_see hp G hv
        rw [h2]
        exact hh
      | skip _ => rw [hv] at hh; cases hh
      | panic _ _ => rw [hv] at hh; cases hh
      | call k args =>
        have hc : evOp (evO e) (H') o.op = some (.call k args) := by
          generalize o.op = op at hv
          cases op with
          | call f l => exact hv
          | callv f l => exact hv
          | conv kk x =>
            exfalso
            cases kk with
            | b2s =>
              simp only [evOp] at hv
              split at hv
              · obtain ⟨a, _, hv⟩ := Option.bind_eq_some_iff.1 hv
                split at hv <;> cases hv
              · obtain ⟨a, _, hv⟩ := Option.bind_eq_some_iff.1 hv
                split at hv <;> cases hv
              · cases hv
            | _ =>
              simp only [evOp] at hv
              first
              | (cases hv; done)
              | (split at hv <;> cases hv)
          | append n b z s x =>
            exfalso
            simp only [evOp] at hv
            repeat' split at hv
            all_goals cases hv
          | mem k l =>
            exfalso
            simp only [evOp] at hv
            exact memV_nocall hv
          | _ =>
            exfalso
            simp only [evOp, ans] at hv
            repeat' split at hv
            all_goals first | (cases hv; done) | (obtain ⟨_, _, hv⟩ := Option.map_eq_some_iff.1 hv; cases hv)
        rw [hc]
        rw [hv] at hh
        dsimp only at hh ⊢
        split at hh
        · rename_i l hl
          rw [lends_see G _ _ _ hl]
          exact hh
        · cases hh
  unfold quietOp at h ⊢
  dsimp only at h ⊢
  cases hg : o.guard with
  | none => rw [hg] at h; exact go h
  | some tw =>
    rw [hg] at h
    obtain ⟨t', w⟩ := tw
    dsimp only at h ⊢
    cases he : e t' with
    | bool b =>
      simp only [he] at h ⊢
      by_cases hb : b = w
      · simp only [hb, if_true] at h ⊢; exact go h
      · simp only [hb, if_false] at h ⊢; exact h
    | tuple l =>
      simp only [he] at h ⊢
      cases l with
      | nil => exact h
      | cons _ _ => cases h
    | _ => simp only [he] at h; cases h
def wExt (p : AP) (Q : X → Env → List Ob → Prop) (H0 : List Ob) : List AO → Env → List Ob → Prop
  | [], e, H => Q .normal e H
  | o :: r, e, H => if o.eff = true then
      wGuard e o.guard (wAct p e H (fun v H' => Sees H0 H' ∧ wExt p Q H0 r (putE e o.dst v) H') (fun _ _ => False) o.op) (wExt p Q H0 r (putE e o.dst uv) H)
    else wGuard e o.guard (wQ p e H0 (fun v => wExt p Q H0 r (putE e o.dst v) H) o.op) (wExt p Q H0 r (putE e o.dst uv) H)
def AtH (call : CallT) (inl : FuncId → Bool) (H0 : List Ob) : List AO → List (Env × Nat × V) → Prop
  | [], [] => True
  | o :: r, (e, _, v) :: t => (o.eff = true ∨ quietOp call inl e H0 o = some v) ∧ AtH call inl H0 r t
  | _, _ => False
theorem AtH_mono {f g : CallT} (h : LeC f g) {inl : FuncId → Bool} {H0 : List Ob} : ∀ {r : List AO} {t : List (Env × Nat × V)}, AtH f inl H0 r t → AtH g inl H0 r t
  | [], [], _ => trivial
  | o :: r, (e, k, v) :: t, ⟨h1, h2⟩ => ⟨h1.imp id (quietOp_mono h inl e H0 o v), AtH_mono h h2⟩
  | [], _ :: _, h => h.elim
  | _ :: _, [], h => h.elim
theorem AtH_steady {call : CallT} {inl : FuncId → Bool} {ops : List AO} {an : List (List Nat)} {H0 : List Ob} {hs : List (List Ob)} (hx : ∀ G ∈ hs, Sees H0 G) : ∀ (r : List AO) (s : Nat) (t : List (Env × Nat × V)), AtH call inl H0 r t → steadyAll call inl ops an hs (r.zipIdx s) t = true
  | [], s, [], _ => rfl
  | o :: r, s, (e, k, v) :: t, ⟨h1, h2⟩ => by
    rw [List.zipIdx_cons]
    unfold steadyAll
    rw [Bool.and_eq_true]
    refine ⟨?_, AtH_steady hx r (s + 1) t h2⟩
    rw [Bool.or_eq_true]
    refine h1.imp id fun hq => ?_
    have : ∀ l : List (List Ob), (∀ G ∈ l, Sees H0 G) → steady call inl e v o l = true := by
      intro l
      induction l with
      | nil => intro _; rfl
      | cons H' l ihl =>
        intro hl'
        have J := hl' H' (List.mem_cons_self ..)
        unfold steady
        rw [quiet_see J hq, Bool.and_eq_true]
        exact ⟨veq_refl v, ihl fun G hG => hl' G (List.mem_cons_of_mem _ hG)⟩
    exact this _ fun G hG => hx G (List.mem_of_mem_drop (List.mem_of_mem_take hG))
  | [], _, _ :: _, h => h.elim
  | _ :: _, _, [], h => h.elim
theorem wExt_trace {p : AP} {Q : X → Env → List Ob → Prop} {H0 : List Ob} (ops : List AO) : ∀ (e : Env) (H : List Ob) (hs : List (List Ob)), wExt p Q H0 ops e H → hs.getLast? = some H → (Sees H0 H) → (∀ G ∈ hs, Sees H0 G) →
    ∃ n t hs' e' H', trace (acall p n) p.inlY ops e hs = some (t, hs', e') ∧ hs'.getLast? = some H' ∧ (∀ G ∈ hs', Sees H0 G) ∧ AtH (acall p n) p.inlY H0 ops t ∧ Q .normal e' H' := by
  induction ops with
  | nil => intro e H hs h hl hJ ha; exact ⟨0, _, _, _, H, rfl, hl, ha, trivial, h⟩
  | cons o r ih =>
    intro e H hs h hl hJ ha
    unfold wExt at h
    unfold trace
    rw [hl]
    dsimp only
    have ha' : ∀ H', (Sees H0 H') → ∀ G ∈ hs ++ [H'], Sees H0 G := by
      intro H' hH' G hG
      rcases List.mem_append.1 hG with h | h
      · exact ha G h
      · rw [List.mem_singleton.1 h]; exact hH'
    by_cases he : o.eff = true
    · rw [if_pos he] at h
      simp only [if_pos he]
      rcases wEff_ok h with ⟨n, v, H1, h1, hG, h2⟩ | ⟨h1, h2⟩
      · have hJ' : Sees H0 H1 := hG
        obtain ⟨m, t, hs', e', H2, h3, h4, h5, h6, h7⟩ := ih _ _ (hs ++ [H1]) h2 (by simp) hJ' (ha' _ hJ')
        refine ⟨max n m, (e, hs.length - 1, v) :: t, hs', e', H2, ?_, h4, h5, ⟨.inl he, AtH_mono (acall_le p (Nat.le_max_right n m)) h6⟩, h7⟩
        rw [effOp_mono (acall_le p (Nat.le_max_left n m)) _ _ _ _ _ h1]
        dsimp only
        rw [trace_mono (acall_le p (Nat.le_max_right n m)) _ _ _ _ _ h3]
        rfl
      · obtain ⟨m, t, hs', e', H2, h3, h4, h5, h6, h7⟩ := ih _ _ (hs ++ [H]) h2 (by simp) hJ (ha' _ hJ)
        refine ⟨m, (e, hs.length - 1, uv) :: t, hs', e', H2, ?_, h4, h5, ⟨.inl he, h6⟩, h7⟩
        rw [h1]
        dsimp only
        rw [h3]
        rfl
    · rw [if_neg he] at h
      simp only [if_neg he]
      rcases wQuiet_ok h with ⟨n, v, h1, h2⟩ | ⟨h1, h2⟩
      · obtain ⟨m, t, hs', e', H2, h3, h4, h5, h6, h7⟩ := ih _ _ hs h2 hl hJ ha
        refine ⟨max n m, (e, hs.length - 1, v) :: t, hs', e', H2, ?_, h4, h5, ⟨.inr (quietOp_mono (acall_le p (Nat.le_max_left n m)) _ _ _ _ _ h1), AtH_mono (acall_le p (Nat.le_max_right n m)) h6⟩, h7⟩
        rw [quiet_see hJ (quietOp_mono (acall_le p (Nat.le_max_left n m)) _ _ _ _ _ h1)]
        dsimp only
        rw [trace_mono (acall_le p (Nat.le_max_right n m)) _ _ _ _ _ h3]
        rfl
      · obtain ⟨m, t, hs', e', H2, h3, h4, h5, h6, h7⟩ := ih _ _ hs h2 hl hJ ha
        refine ⟨m, (e, hs.length - 1, uv) :: t, hs', e', H2, ?_, h4, h5, ⟨.inr (h1 m), h6⟩, h7⟩
        rw [quiet_see hJ (h1 m)]
        dsimp only
        rw [h3]
        rfl
theorem WDraw_see {p : AP} {ops : List AO} (hc : okDraw ops = true) {e : Env} {H R : List Ob} {Q : X → Env → List Ob → Prop} (hR : Sees R H) (h : wExt p Q R ops e H) : WDraw p ops e H Q := by
  obtain ⟨n, t, hs', e', H', h1, h2, h3, h4, h5⟩ := wExt_trace ops e H [H] h rfl hR (fun G hG => by rw [List.mem_singleton.1 hG]; exact hR)
  refine ⟨n, .normal, e', H', ?_, h5⟩
  refine runDraw_of ?_
  unfold runDrawN
  rw [h1]
  dsimp only
  rw [hc, AtH_steady h3 ops 0 t h4, h2]
  rfl
section
variable {p : AP} {Q : X → Env → List Ob → Prop} {e : Env} {H H0 : List Ob}
@[simp ↓] theorem wExt_nil : wExt p Q H0 [] e H = Q .normal e H := (rfl)
@[simp ↓] theorem wExt_eff {d : Option Nat} {op : AOp} {af : List Nat} {r : List AO} :
    wExt p Q H0 (⟨d, op, none, af, true⟩ :: r) e H = wAct p e H (fun v H' => Sees H0 H' ∧ wVal v fun v => wExt p Q H0 r (putE e d v) H') (fun _ _ => False) op := (rfl)
@[simp ↓] theorem wExt_effG {d : Option Nat} {op : AOp} {t : Nat} {w : Bool} {af : List Nat} {r : List AO} :
    wExt p Q H0 (⟨d, op, some (t, w), af, true⟩ :: r) e H = wGuardV (e t) w (wAct p e H (fun v H' => Sees H0 H' ∧ wVal v fun v => wExt p Q H0 r (putE e d v) H') (fun _ _ => False) op) (wExt p Q H0 r (putE e d uv) H) := (rfl)
@[simp ↓] theorem wExt_q {d : Option Nat} {op : AOp} {af : List Nat} {r : List AO} :
    wExt p Q H0 (⟨d, op, none, af, false⟩ :: r) e H = wQ p e H0 (fun v => wVal v fun v => wExt p Q H0 r (putE e d v) H) op := (rfl)
@[simp ↓] theorem wExt_qG {d : Option Nat} {op : AOp} {t : Nat} {w : Bool} {af : List Nat} {r : List AO} :
    wExt p Q H0 (⟨d, op, some (t, w), af, false⟩ :: r) e H = wGuardV (e t) w (wQ p e H0 (fun v => wVal v fun v => wExt p Q H0 r (putE e d v) H) op) (wExt p Q H0 r (putE e d uv) H) := (rfl)
def see1 : Ob → Ob → Prop
  | .live l, o => o = .live l ∨ o = .fixed l
  | .dead, _ => True
  | x, o => o = x
@[simp] theorem see1_live {l m : List V} : see1 (.live l) (.live m) = (m = l) := by simp [see1]
@[simp] theorem see1_lf {l m : List V} : see1 (.live l) (.fixed m) = (m = l) := by simp [see1]
@[simp] theorem see1_dead {o : Ob} : see1 .dead o = True := (rfl)
@[simp] theorem see1_fixed {l m : List V} : see1 (.fixed l) (.fixed m) = (m = l) := by simp [see1]
@[simp] theorem sees_nil {H : List Ob} : Sees [] H = True := eq_true fun i => by simp
@[simp] theorem sees_cons {o o' : Ob} {R H : List Ob} : Sees (o :: R) (o' :: H) = (see1 o o' ∧ Sees R H) := by
  refine propext ⟨fun h => ⟨?_, fun i => ?_⟩, fun h i => ?_⟩
  · have := h 0
    cases o <;> simpa [see1] using this
  · have := h (i + 1)
    simpa only [List.getElem?_cons_succ] using this
  · cases i with
    | zero => have := h.1; cases o <;> simpa [see1] using this
    | succ i => have := h.2 i; simpa only [List.getElem?_cons_succ] using this
@[simp] theorem sees_self {H : List Ob} : Sees H H = True := eq_true (Sees.refl H)
@[simp] theorem sees_app {H G : List Ob} : Sees H (H ++ G) = True := eq_true (Sees.app H G)
end
end Fz
namespace Fz
open Go
@[simp] theorem ex3 {α β γ : Type} {x : α} {y : β} {z : γ} {K : α → β → γ → Prop} : (∃ a b c, (x = a ∧ y = b ∧ z = c) ∧ K a b c) = K x y z :=
  propext ⟨fun ⟨_, _, _, ⟨rfl, rfl, rfl⟩, h⟩ => h, fun h => ⟨x, y, z, ⟨rfl, rfl, rfl⟩, h⟩⟩
theorem reach_go {H : List Ob} {k i : Nat} {todo seen : List Nat} {o : Ob} (hs : seen.contains i = false) (ho : H[i]? = some o) : reach H (k + 1) (i :: todo) seen = reach H k (todo ++ refsOb o) (seen ++ [i]) := by
  conv => lhs; unfold reach
  rw [if_neg (by rw [hs]; exact Bool.false_ne_true), ho]
theorem reach_end {H : List Ob} {k : Nat} {seen : List Nat} : reach H (k + 1) [] seen = some seen := by
  unfold reach; rfl
def roundQ (id : Nat) (Q : CR → List Ob → Prop) : QX := fun x _ H2 => ∃ k2 ts2 l2, H2[id]? = some (.loop k2 ts2 l2 .busy) ∧ match x with
  | .normal => Q (.ret (.bool true)) (H2.set id (.loop k2 ts2 l2 .ready))
  | .ret => Q (.ret (.bool false)) (H2.set id (.loop k2 ts2 l2 (.done .ret)))
  | .exit i => Q (.ret (.bool false)) (H2.set id (.loop k2 ts2 l2 (.done (.exit i))))
  | _ => False
def assignQ (p : AP) (cb : WC) (id : Nat) (Q : CR → List Ob → Prop) : QX := fun x e1 H1 => match x with
  | .normal => ∃ k1 ts1 l1, H1[id]? = some (.loop k1 ts1 l1 .ready) ∧ wx p cb e1 (H1.set id (.loop k1 ts1 l1 .busy)) (roundQ id Q)
  | _ => False
end Fz
namespace Fz
open Go
def Has (n : Nat) (H : List Ob) (v : V) (l : List V) : Prop :=
  uni n l = true ∧ n ≠ 0 ∧ ((∃ c, v = .list l c) ∨ ∃ id cells, v = .own id 0 l.length n ∧ (H[id]? = some (.live cells) ∨ H[id]? = some (.fixed cells)) ∧ l.length * n ≤ cells.length ∧ cells.take (l.length * n) = flat l)
theorem Has.list {n : Nat} {H : List Ob} {l : List V} {c : Bool} (hu : uni n l = true) (hn : n ≠ 0) : Has n H (.list l c) l := ⟨hu, hn, .inl ⟨c, rfl⟩⟩
end Fz
namespace Fz
open Go
def gho (n m : Nat) (H : List Ob) : List Ob := (H.set n .dead).set m .dead
end Fz
namespace Fz
open Go
end Fz
namespace Fz
open Go
def roundL (p : AP) (b : WC) (Q : QX) : QX := fun x e H => match x with
  | .normal => xL p b e H Q
  | .mayRet => False
  | x => Q x e H
end Fz
namespace Fz
open Go
def liftE (g : List V → Option V) : List V → List Ob → Option (V × List Ob) := fun args H => match H with
  | [] => (g args).map fun v => (v, [])
  | _ => none
theorem proved_own {P : Program} {p : AP} (hp : APOk P p) {f : FuncId} {g : List V → List Ob → Option (V × List Ob)} (hg : ∀ args H v H', g args H = some (v, H') → H = [] ∧ ∃ n, acall p n f args [] = some (.ret v, H'))
    (args : List V) (H : List Ob) (v : V) (H' : List Ob) (h : g args H = some (v, H')) (K : Kn) (β : Bi) (w : World) (cargs : Array Value) (hL : K.lp = lpOf P p) (hI : Inv K β H w) (ha : LR K β args cargs.toList) : DoesOk P f cargs w (CallPost K β H w (.ret v) H') := by
  obtain ⟨rfl, n, h2⟩ := hg _ _ _ _ h
  exact acall_sound hp n f args [] _ H' h2 K β w cargs hL hI ha
def stiff : V → Bool
  | .bool _ => true
  | .int _ _ => true
  | .str _ => true
  | _ => false
end Fz
namespace Fz
open Go
theorem WFun_dfrK {p : AP} {f : FuncId} (w : WF) {args : List V} {H : List Ob} {Q : CR → List Ob → Prop} {pre : List WC} {l : List AO} {clo : Opd} {rest : WC} (hw : w.dfr = some (pre, l, clo, rest)) (hp : p.prim f = none) (hf : p.fn f = some w.toA) (hc : okW rest = true)
    {n : Nat} {e1 : Env} {H1 : List Ob} (h1 : runL (exec p n) (pre.map toA) (env0 args) H = some (.normal, e1, H1))
    (h2 : wOps p (thenQ (fun e2 H2 => wx p rest e2 H2 (dfrQ p w.results (evO e2 clo) Q)) (finQ w.results Q)) l e1 H1) (hY : f ≠ YF := by decide) (hr : w.rcv = none := by rfl) : WFun p f args H Q := by
  have run : ∀ n, acall p n f args H = runFn p (exec p n) w.toA args H := fun n => by simp only [acall, callW, if_neg hY, hp, hf]
  have hfn : ∀ n, runFn p (exec p n) w.toA args H = (match runL (exec p n) (pre.map toA) (env0 args) H with
      | some (.normal, e1, H1) => match exec p n (.region l false) e1 H1 with
        | some (.normal, e2, H2) => deferF p (exec p n) w.toA (evO e2 clo) (exec p n (toA rest) e2 H2)
        | r => finishF w.toA r
      | r => finishF w.toA r) := fun n => by
    simp only [runFn, WF.toA, hr, hw, Option.map_some]
    rfl
  obtain ⟨m, y, e2, H2, h3, h4⟩ := wOps_ok l e1 H1 h2
  have h3' : ∀ k, m ≤ k → exec p (k + 1) (.region l false) e1 H1 = some (y, e2, H2) := fun k hk => by
    rw [exec]; exact runOps_mono (acall_le p hk) _ _ _ _ _ h3
  cases y with
  | normal =>
    obtain ⟨q, z, e3, H3, h5, h6⟩ := wx_ok _ _ _ _ hc h4
    have fin : ∀ (r : CR) (H4 : List Ob) (k : Nat), deferF p (exec p k) w.toA (evO e2 clo) (some (z, e3, H3)) = some (r, H4) → Q r H4 → WFun p f args H Q := by
      intro r H4 k hd hq
      refine ⟨max (max n (m + 1)) (max q k), r, H4, ?_, hq⟩
      rw [run, hfn, runL_mono (exec_le p (by omega : n ≤ _)) _ _ _ _ h1]
      dsimp only
      rw [exec_le p (by omega : m + 1 ≤ _) _ _ _ _ (h3' m (Nat.le_refl _))]
      dsimp only
      rw [exec_le p (by omega : q ≤ _) _ _ _ _ h5]
      exact deferF_mono (exec_le p (by omega : k ≤ _)) p hd
    cases z with
    | normal =>
      obtain ⟨k, b, H4, g1, g2⟩ := h6
      obtain ⟨v, g3, g4⟩ := wResults_ok g2
      exact fin _ H4 k (by simp only [deferF, g1, WF.toA, resultOf_eq g3, Option.map_some]) g4
    | ret =>
      obtain ⟨k, b, H4, g1, g2⟩ := h6
      obtain ⟨v, g3, g4⟩ := wResults_ok g2
      exact fin _ H4 k (by simp only [deferF, g1, WF.toA, resultOf_eq g3, Option.map_some]) g4
    | panic v =>
      obtain ⟨k, b, H4, g1, g2⟩ := h6
      cases b with
      | true =>
        rw [if_pos rfl] at g2
        obtain ⟨u, g3, g4⟩ := wResults_ok g2
        exact fin _ H4 k (by simp only [deferF, g1, WF.toA, resultOf_eq g3, Option.map_some]) g4
      | false =>
        rw [if_neg Bool.false_ne_true] at g2
        exact fin _ H4 k (by simp only [deferF, g1]) g2
    | exit i => cases h6
    | mayRet => cases h6
  | mayRet => cases h4
  | exit i => cases h4
  | ret =>
    have h4 : finQ w.results Q .ret e2 H2 := h4
    obtain ⟨r, H4, g1, g2⟩ := finQ_ok (p := p) h4 (af := w.toA) rfl
    refine ⟨max n (m + 1), r, H4, ?_, g2⟩
    rw [run, hfn, runL_mono (exec_le p (by omega : n ≤ _)) _ _ _ _ h1]
    dsimp only
    rw [exec_le p (by omega : m + 1 ≤ _) _ _ _ _ (h3' m (Nat.le_refl _))]
    exact g1
  | panic v =>
    have h4 : finQ w.results Q (.panic v) e2 H2 := h4
    obtain ⟨r, H4, g1, g2⟩ := finQ_ok (p := p) h4 (af := w.toA) rfl
    refine ⟨max n (m + 1), r, H4, ?_, g2⟩
    rw [run, hfn, runL_mono (exec_le p (by omega : n ≤ _)) _ _ _ _ h1]
    dsimp only
    rw [exec_le p (by omega : m + 1 ≤ _) _ _ _ _ (h3' m (Nat.le_refl _))]
    exact g1
theorem frz_acgQ (b : Nat) {H : List Ob} {n k : Nat} {v : V} {l : List V} {K : V → List Ob → Prop} (ha : Ac n b (H.drop b) v l) (hg : (flat l).all (gk k) = true)
    (hl : (n = 1 ∧ l.all leafy = true) ∨ (n ≠ 1 ∧ ∀ v ∈ l, ∃ c, v = .agg c)) (hK : ∀ H', H'.take b = H.take b → H'.length = H.length → K (.list (l.map nrm) false) H') : xFrz (k + 1) v H K := by
  obtain ⟨h1, h2, h3⟩ := ha
  rcases h3 with ⟨rfl, rfl⟩ | ⟨j, cells, rfl, h4, h5, h6⟩
  · rw [frz_gk (by rw [gk_list]; rfl)]
    exact hK H rfl rfl
  · rw [List.getElem?_drop] at h4
    rw [frz_own, wOb_at h4]
    refine ⟨⟨by omega, h2⟩, ?_⟩
    rw [wVal_eq, wSetOb_eq]
    have e1 : (cells.drop 0).take (l.length * n) = flat l := by rw [List.drop_zero, h6]
    rw [e1, frzL_gk hg, wVal_eq]
    have e3 : ∀ H', (H.set (b + j) (.fixed cells)) = H' → H'.take b = H.take b ∧ H'.length = H.length := by
      rintro H' rfl
      refine ⟨?_, by simp⟩
      rw [List.take_set_of_le (by omega)]
    obtain ⟨q1, q2⟩ := e3 _ rfl
    generalize H.set (b + j) (.fixed cells) = H' at q1 q2 ⊢
    rcases hl with ⟨rfl, hl⟩ | ⟨hn, hl⟩
    · rw [wChunk_one]
      obtain ⟨f1, _⟩ := flat_leafy hl
      rw [f1]
      refine ⟨by rw [leafy_nrm]; exact hl, ?_⟩
      show K _ _
      rw [List.take_of_length_le (by simp)]
      exact hK _ q1 q2
    · refine ⟨.inl hn, ?_⟩
      have : chunk n l.length ((flat l).map nrm) = l.map nrm := by
        rw [← chunk_nrm]
        unfold chunk
        rw [if_neg hn, chunk_of h1 hn hl]
      rw [this]
      exact hK _ q1 q2
end Fz
namespace Fz
open Go
theorem wAct_pan {p : AP} {e : Env} {H : List Ob} {R : V → List Ob → Prop} {o : AO} (hg : o.guard = none) (h : wAct p e H (fun _ _ => False) R o.op) : ∃ n v H', effPan (acall p n) p.inlY e H o = some (v, H') ∧ R v H' := by
  unfold effPan
  rw [hg]
  simp only [Option.isSome_none, Bool.false_eq_true, if_false]
  rcases wAct_ok h with ⟨v, H', _, h2⟩ | ⟨v, H', h1, h2⟩ | ⟨f, args, h1, n, c, H', h2, h3⟩
  · cases h2
  · exact ⟨0, v, H', by rw [h1], h2⟩
  · cases c with
    | ret v => cases h3
    | panic v => exact ⟨n, v, H', by rw [h1]; dsimp only; rw [h2], h3⟩
theorem panAt_of {call : CallT} {inl : FuncId → Bool} {o : AO} {post : List AO} (ho : o.eff = true) : ∀ (pre : List AO) (e : Env) (H : List Ob) (hs : List (List Ob)) (t hs' e' H') (r), trace call inl pre e hs = some (t, hs', e') → hs.getLast? = some H → hs'.getLast? = some H' → effPan call inl e' H' o = some r →
    panAt call inl (pre ++ o :: post) e H = some pre.length ∧ trace call inl (pre ++ o :: post) e hs = none
  | [], e, H, hs, t, hs', e', H', r, h, h1, h2, hp => by
    simp only [trace, Option.some.injEq, Prod.mk.injEq] at h
    obtain ⟨rfl, rfl, rfl⟩ := h
    rw [h1] at h2; cases h2
    have hn := effPan_no hp
    refine ⟨?_, ?_⟩
    · simp only [List.nil_append]
      unfold panAt
      simp only [ho, if_true]
      rw [hn, hp]; rfl
    · simp only [List.nil_append]
      unfold trace
      rw [h1]
      simp only [ho, if_true]
      rw [hn]
  | x :: pre, e, H, hs, t, hs', e', H', r, h, h1, h2, hp => by
    unfold trace at h
    rw [h1] at h
    dsimp only at h
    simp only [List.cons_append]
    unfold panAt trace
    rw [h1]
    dsimp only
    by_cases hx : x.eff = true
    · simp only [hx, if_true] at h ⊢
      cases hv : effOp call inl e H x with
      | none => rw [hv] at h; cases h
      | some y =>
        obtain ⟨v, H1⟩ := y
        rw [hv] at h
        dsimp only at h ⊢
        obtain ⟨⟨t2, hs2, e2⟩, h3, h4⟩ := Option.map_eq_some_iff.1 h
        cases h4
        obtain ⟨q1, q2⟩ := panAt_of ho (post := post) pre _ H1 _ _ _ _ _ _ h3 (by simp) h2 hp
        exact ⟨by rw [q1]; rfl, by rw [q2]; rfl⟩
    · simp only [hx] at h ⊢
      cases hv : quietOp call inl e H x with
      | none => rw [hv] at h; cases h
      | some v =>
        rw [hv] at h
        dsimp only at h ⊢
        obtain ⟨⟨t2, hs2, e2⟩, h3, h4⟩ := Option.map_eq_some_iff.1 h
        cases h4
        obtain ⟨q1, q2⟩ := panAt_of ho (post := post) pre _ H _ _ _ _ _ _ h3 h1 h2 hp
        exact ⟨by rw [q1]; rfl, by rw [q2]; rfl⟩
def panOk (ops : List AO) (q : Nat) : Bool := okDraw ops && okDraw (ops.take q) && lateOk ops q && (match ops[q]? with | some o => o.eff && o.guard.isNone | none => false)
theorem WDraw_pan {p : AP} {ops : List AO} (q : Nat) {o : AO} (hq : ops[q]? = some o) (hc : panOk ops q = true) {e : Env} {H R : List Ob} {Q : X → Env → List Ob → Prop} (hR : Sees R H)
    (h : wExt p (fun _ e' H' => wAct p e' H' (fun _ _ => False) (fun v H2 => Q (.panic v) (deadE (ops.take q) e) H2) o.op) R (ops.take q) e H) : WDraw p ops e H Q := by
  unfold panOk at hc
  rw [hq] at hc
  simp only [Bool.and_eq_true, Option.isNone_iff_eq_none] at hc
  obtain ⟨⟨⟨c1, c2⟩, c3⟩, c4, c5⟩ := hc
  obtain ⟨n, t, hs', e', H', h1, h2, h3, h4, h5⟩ := wExt_trace (ops.take q) e H [H] h rfl hR (fun G hG => by rw [List.mem_singleton.1 hG]; exact hR)
  obtain ⟨m, v, H2, h6, h7⟩ := wAct_pan c5 h5
  have l1 := acall_le p (Nat.le_max_left n m)
  have l2 := acall_le p (Nat.le_max_right n m)
  have h1' := trace_mono l1 p.inlY _ _ _ _ h1
  have h6' := effPan_mono l2 p.inlY _ _ _ _ h6
  have hql : q < ops.length := (List.getElem?_eq_some_iff.1 hq).1
  have hsp : ops = ops.take q ++ o :: ops.drop (q + 1) := by
    have : ops[q] = o := by rw [List.getElem?_eq_getElem hql] at hq; exact Option.some.inj hq
    rw [← this, ← List.drop_eq_getElem_cons hql, List.take_append_drop]
  have hpl : (ops.take q).length = q := by rw [List.length_take]; omega
  obtain ⟨q1, q2⟩ := panAt_of c4 (post := ops.drop (q + 1)) (ops.take q) e H [H] _ _ _ _ _ h1' rfl h2 h6'
  rw [← hsp] at q1 q2
  rw [hpl] at q1
  refine ⟨max n m, .panic v, deadE (ops.take q) e, H2, ?_, h7⟩
  have hn : runDrawN (acall p (max n m)) p.inlY ops e H = none := by
    unfold runDrawN
    rw [q2]
  unfold runDraw
  rw [hn, q1]
  dsimp only
  unfold runPan
  rw [h1']
  dsimp only
  rw [h2, hq]
  dsimp only
  rw [h6']
  dsimp only
  have hst := AtH_steady (ops := ops.take q) (an := ancs (ops.take q)) h3 (ops.take q) 0 t (AtH_mono l1 h4)
  rw [c1, c2, c4, c3, hst]
  rfl
end Fz
set_option maxRecDepth 100000
namespace Fz.D
open Go Go.Proofs
def w4 : WF := { nt := 116, results := [(6, none)], code :=
(.seq (.reg [ao 6 (.mov (.c (.bool false)))])
(.seq (.reg [ao 17 (.call 13 []),
mv 7 17])
(.seq (.seq (.reg [mv 18 1,
ao 19 (.len (.t 18)),
ao 20 (.bin .gtr .no (.t 19) (.c (.int .i64 40))),
mv 21 20,
ag 22 (.mov (.t 2)) 21 false,
ag 23 (.len (.t 22)) 21 false,
ag 24 (.bin .gtr .no (.t 23) (.c (.int .i64 40))) 21 false,
ao 25 (.pick (.t 21) (.c (.bool true)) (.t 24))])
(.cond (.t 25)
(.seq (.reg [mv 26 7,
mv 6 26])
.ret)
.skip))
(.seq (.reg [mv 27 0,
ao 28 (.conv (.int .i64) (.t 27)),
mv 8 28])
(.seq (.reg [mv 29 8,
ao 30 (.call 17 [(.t 29)]),
mv 9 30])
(.seq (.seq (.reg [mv 31 9,
ao 32 (.bin .eql .no (.t 31) (.c (.str ⟨#[80, 73, 67, 75]⟩))),
mv 33 32,
ag 34 (.mov (.t 9)) 33 false,
ag 35 (.bin .eql .no (.t 34) (.c (.str ⟨#[82, 79, 76, 76]⟩))) 33 false,
ao 36 (.pick (.t 33) (.c (.bool true)) (.t 35)),
mv 37 36,
ag 38 (.mov (.t 9)) 37 false,
ag 39 (.bin .eql .no (.t 38) (.c (.str ⟨#[68, 69, 80, 84, 72]⟩))) 37 false,
ao 40 (.pick (.t 37) (.c (.bool true)) (.t 39))])
(.cond (.t 40)
(.seq (.reg [mv 41 7,
mv 6 41])
.ret)
.skip))
(.seq (.reg [mv 43 8,
mv 44 1,
ao 45 (.call 14 [(.t 43), (.t 44), (.c (.int .i64 1000))]),
mv 42 45,
ao 46 (.extract 0 (.t 42)),
ao 47 (.extract 1 (.t 42)),
ao 48 (.extract 2 (.t 42)),
mv 10 46,
mv 11 47,
mv 12 48])
(.seq (.reg [ao 49 (.buildSlice 1 0 [(.int .i64 0)] []),
mv 50 2,
ao 51 (.append 1 8 none (.t 49) (.t 50)),
mv 52 1,
ao 53 (.append 1 8 none (.t 51) (.t 52)),
mv 13 53])
(.seq (.reg [mv 55 8,
mv 56 13,
ao 57 (.call 14 [(.t 55), (.t 56), (.c (.int .i64 1000))]),
mv 54 57,
ao 58 (.extract 0 (.t 54)),
ao 59 (.extract 1 (.t 54)),
ao 60 (.extract 2 (.t 54)),
mv 14 58,
mv 15 59,
mv 16 60])
(.seq (.seq (.reg [mv 61 12,
ao 62 (.un .not (.t 61)),
mv 63 62,
ag 64 (.mov (.t 11)) 63 false,
ag 65 (.bin .neq .no (.t 64) (.c (.int .i64 0))) 63 false,
ao 66 (.pick (.t 63) (.c (.bool true)) (.t 65))])
(.cond (.t 66)
(.seq (.reg [mv 67 7,
mv 68 67,
ag 69 (.mov (.t 12)) 68 true,
ag 70 (.mov (.t 16)) 68 true,
ag 71 (.bin .eql .bool (.t 69) (.t 70)) 68 true,
ao 72 (.pick (.t 68) (.t 71) (.c (.bool false))),
mv 73 72,
ag 74 (.mov (.t 11)) 73 true,
ag 75 (.bin .eql .no (.t 74) (.c (.int .i64 (-4)))) 73 true,
ag 76 (.mov (.t 75)) 73 true,
ag 77 (.mov (.t 11)) 76 false,
ag 78 (.mov (.t 15)) 76 false,
ag 79 (.bin .eql .no (.t 77) (.t 78)) 76 false,
ag 80 (.pick (.t 76) (.c (.bool true)) (.t 79)) 73 true,
ao 81 (.pick (.t 73) (.t 80) (.c (.bool false))),
mv 6 81])
.ret)
.skip))
(.seq (.reg [mv 82 7,
mv 83 82,
ag 84 (.mov (.t 16)) 83 true,
ao 85 (.pick (.t 83) (.t 84) (.c (.bool false))),
mv 86 85,
ag 87 (.mov (.t 15)) 86 true,
ag 88 (.bin .eql .no (.t 87) (.c (.int .i64 0))) 86 true,
ao 89 (.pick (.t 86) (.t 88) (.c (.bool false))),
mv 90 89,
ag 91 (.mov (.t 14)) 90 true,
ag 92 (.len (.t 91)) 90 true,
ag 93 (.mov (.t 10)) 90 true,
ag 94 (.len (.t 93)) 90 true,
ag 95 (.mov (.t 2)) 90 true,
ag 96 (.len (.t 95)) 90 true,
ag 97 (.bin .add .no (.t 94) (.t 96)) 90 true,
ag 98 (.bin .eql .no (.t 92) (.t 97)) 90 true,
ao 99 (.pick (.t 90) (.t 98) (.c (.bool false))),
mv 100 99,
ag 101 (.mov (.t 14)) 100 true,
ag 102 (.mov (.t 2)) 100 true,
ag 103 (.len (.t 102)) 100 true,
ag 104 (.slice (.sl 1) (.t 101) none (some (.t 103)) none) 100 true,
ag 105 (.mov (.t 2)) 100 true,
ag 106 (.call 16 [(.t 104), (.t 105)]) 100 true,
ao 107 (.pick (.t 100) (.t 106) (.c (.bool false))),
mv 108 107,
ag 109 (.mov (.t 14)) 108 true,
ag 110 (.mov (.t 2)) 108 true,
ag 111 (.len (.t 110)) 108 true,
ag 112 (.slice (.sl 1) (.t 109) (some (.t 111)) none none) 108 true,
ag 113 (.mov (.t 10)) 108 true,
ag 114 (.call 16 [(.t 112), (.t 113)]) 108 true,
ao 115 (.pick (.t 108) (.t 114) (.c (.bool false))),
mv 6 115])
.ret))))))))))) }
def w7 : WF := { nt := 123, results := [(4, none)], code :=
(.seq (.reg [ao 4 (.mov (.c (.bool false)))])
(.seq (.reg [ao 17 (.call 13 []),
mv 5 17])
(.seq (.seq (.reg [mv 18 1,
ao 19 (.len (.t 18)),
ao 20 (.bin .gtr .no (.t 19) (.c (.int .i64 40)))])
(.cond (.t 20)
(.seq (.reg [mv 21 5,
mv 4 21])
.ret)
.skip))
(.seq (.reg [mv 23 0,
ao 24 (.conv (.int .i64) (.t 23)),
mv 25 1,
ao 26 (.call 14 [(.t 24), (.t 25), (.c (.int .i64 1000))]),
mv 22 26,
ao 27 (.extract 0 (.t 22)),
ao 28 (.extract 1 (.t 22)),
ao 29 (.extract 2 (.t 22)),
mv 6 27,
mv 7 28,
mv 8 29])
(.seq (.reg [mv 31 0,
ao 32 (.conv (.int .i64) (.t 31)),
mv 33 1,
ao 34 (.call 14 [(.t 32), (.t 33), (.c (.int .i64 0))]),
mv 30 34,
ao 35 (.extract 0 (.t 30)),
ao 36 (.extract 1 (.t 30)),
ao 37 (.extract 2 (.t 30)),
mv 9 35,
mv 10 36,
mv 11 37])
(.seq (.reg [mv 39 0,
ao 40 (.conv (.int .i64) (.t 39)),
ao 41 (.call 14 [(.t 40), (.c (.list [] true)), (.c (.int .i64 1000))]),
mv 38 41,
ao 42 (.extract 0 (.t 38)),
ao 43 (.extract 1 (.t 38)),
ao 44 (.extract 2 (.t 38)),
mv 12 42,
mv 13 43,
mv 14 44])
(.seq (.seq (.reg [mv 45 8,
ao 46 (.un .not (.t 45))])
(.cond (.t 46)
(.seq (.reg [mv 47 5,
mv 48 47,
ag 49 (.mov (.t 7)) 48 true,
ag 50 (.bin .eql .no (.t 49) (.c (.int .i64 0))) 48 true,
ao 51 (.pick (.t 48) (.t 50) (.c (.bool false))),
mv 52 51,
ag 53 (.mov (.t 10)) 52 true,
ag 54 (.bin .eql .no (.t 53) (.c (.int .i64 0))) 52 true,
ao 55 (.pick (.t 52) (.t 54) (.c (.bool false))),
mv 56 55,
ag 57 (.mov (.t 6)) 56 true,
ag 58 (.len (.t 57)) 56 true,
ag 59 (.bin .eql .no (.t 58) (.c (.int .i64 0))) 56 true,
ao 60 (.pick (.t 56) (.t 59) (.c (.bool false))),
mv 4 60])
.ret)
.skip))
(.seq (.seq (.reg [mv 61 7,
ao 62 (.bin .neq .no (.t 61) (.c (.int .i64 0)))])
(.cond (.t 62)
(.seq (.reg [mv 63 5,
mv 64 63,
ag 65 (.mov (.t 10)) 64 true,
ag 66 (.mov (.t 7)) 64 true,
ag 67 (.bin .eql .no (.t 65) (.t 66)) 64 true,
ao 68 (.pick (.t 64) (.t 67) (.c (.bool false))),
mv 69 68,
ag 70 (.mov (.t 7)) 69 true,
ag 71 (.bin .eql .no (.t 70) (.c (.int .i64 (-4)))) 69 true,
ag 72 (.mov (.t 71)) 69 true,
ag 73 (.mov (.t 7)) 72 false,
ag 74 (.bin .eql .no (.t 73) (.c (.int .i64 (-10)))) 72 false,
ag 75 (.pick (.t 72) (.c (.bool true)) (.t 74)) 69 true,
ag 76 (.mov (.t 75)) 69 true,
ag 77 (.mov (.t 7)) 76 false,
ag 78 (.bin .eql .no (.t 77) (.c (.int .i64 (-11)))) 76 false,
ag 79 (.pick (.t 76) (.c (.bool true)) (.t 78)) 69 true,
ao 80 (.pick (.t 69) (.t 79) (.c (.bool false))),
mv 4 80])
.ret)
.skip))
(.seq (.reg [mv 81 0,
ao 82 (.conv (.int .i64) (.t 81)),
ao 83 (.call 17 [(.t 82)]),
mv 15 83])
(.seq (.reg [mv 84 15,
ao 85 (.bin .eql .no (.t 84) (.c (.str ⟨#[68, 69, 80, 84, 72]⟩))),
mv 86 85,
ag 87 (.mov (.t 15)) 86 false,
ag 88 (.bin .eql .no (.t 87) (.c (.str ⟨#[84, 82, 85, 69]⟩))) 86 false,
ao 89 (.pick (.t 86) (.c (.bool true)) (.t 88)),
mv 90 89,
ag 91 (.mov (.t 15)) 90 false,
ag 92 (.bin .eql .no (.t 91) (.c (.str ⟨#[70, 65, 76, 83, 69]⟩))) 90 false,
ao 93 (.pick (.t 90) (.c (.bool true)) (.t 92)),
mv 16 93])
(.seq (.reg [mv 94 5,
mv 95 94,
ag 96 (.mov (.t 6)) 95 true,
ag 97 (.len (.t 96)) 95 true,
ag 98 (.bin .eql .no (.t 97) (.c (.int .i64 0))) 95 true,
ag 99 (.mov (.t 98)) 95 true,
ag 100 (.mov (.t 10)) 99 true,
ag 101 (.bin .eql .no (.t 100) (.c (.int .i64 0))) 99 true,
ag 102 (.pick (.t 99) (.t 101) (.c (.bool false))) 95 true,
ag 103 (.mov (.t 102)) 95 true,
ag 104 (.mov (.t 6)) 103 false,
ag 105 (.len (.t 104)) 103 false,
ag 106 (.bin .gtr .no (.t 105) (.c (.int .i64 0))) 103 false,
ag 107 (.mov (.t 106)) 103 false,
ag 108 (.mov (.t 10)) 107 true,
ag 109 (.bin .eql .no (.t 108) (.c (.int .i64 (-3)))) 107 true,
ag 110 (.pick (.t 107) (.t 109) (.c (.bool false))) 103 false,
ag 111 (.pick (.t 103) (.c (.bool true)) (.t 110)) 95 true,
ao 112 (.pick (.t 95) (.t 111) (.c (.bool false))),
mv 113 112,
ag 114 (.mov (.t 13)) 113 true,
ag 115 (.bin .eql .no (.t 114) (.c (.int .i64 0))) 113 true,
ag 116 (.mov (.t 16)) 113 true,
ag 117 (.bin .eql .bool (.t 115) (.t 116)) 113 true,
ao 118 (.pick (.t 113) (.t 117) (.c (.bool false))),
mv 119 118,
ag 120 (.call 22 [(.c (.bool true))]) 119 true,
ag 121 (.bin .eql .no (.t 120) (.c (.int .i64 (-1)))) 119 true,
ao 122 (.pick (.t 119) (.t 121) (.c (.bool false))),
mv 4 122])
.ret))))))))))) }
def w13 : WF := { nt := 67, results := [(0, none)], code :=
(.seq (.reg [ao 0 (.mov (.c (.bool false)))])
(.seq (.reg [ao 11 (.call 21 [(.c (.str ⟨#[47, 109, 111, 100]⟩))]),
ao 12 (.buildSlice 1 3 [(.int .i64 0)] [(0, 1, (.c (.int .i64 5))), (1, 1, (.c (.int .i64 (-7)))), (2, 1, (.c (.int .i64 2)))]),
ao 13 (.call 14 [(.t 11), (.t 12), (.c (.int .i64 9))]),
mv 10 13,
ao 14 (.extract 0 (.t 10)),
ao 15 (.extract 1 (.t 10)),
ao 16 (.extract 2 (.t 10)),
mv 1 14,
mv 2 15,
mv 3 16])
(.seq (.reg [ao 18 (.call 21 [(.c (.str ⟨#[100, 117, 112]⟩))]),
ao 19 (.buildSlice 1 1 [(.int .i64 0)] [(0, 1, (.c (.int .i64 1)))]),
ao 20 (.call 14 [(.t 18), (.t 19), (.c (.int .i64 1))]),
mv 17 20,
ao 21 (.extract 0 (.t 17)),
ao 22 (.extract 1 (.t 17)),
ao 23 (.extract 2 (.t 17)),
mv 4 21,
mv 5 22,
mv 6 23])
(.seq (.reg [ao 25 (.call 21 [(.c (.str ⟨#[64]⟩))]),
ao 26 (.buildSlice 1 1 [(.int .i64 0)] [(0, 1, (.c (.int .i64 1)))]),
ao 27 (.call 14 [(.t 25), (.t 26), (.c (.int .i64 1))]),
mv 24 27,
ao 28 (.extract 0 (.t 24)),
ao 29 (.extract 1 (.t 24)),
ao 30 (.extract 2 (.t 24)),
mv 7 28,
mv 8 29,
mv 9 30])
(.seq (.reg [mv 31 3,
mv 32 31,
ag 33 (.mov (.t 2)) 32 true,
ag 34 (.bin .eql .no (.t 33) (.c (.int .i64 0))) 32 true,
ao 35 (.pick (.t 32) (.t 34) (.c (.bool false))),
mv 36 35,
ag 37 (.mov (.t 1)) 36 true,
ag 38 (.len (.t 37)) 36 true,
ag 39 (.bin .eql .no (.t 38) (.c (.int .i64 3))) 36 true,
ao 40 (.pick (.t 36) (.t 39) (.c (.bool false))),
mv 41 40,
ag 42 (.mov (.t 1)) 41 true,
ag 43 (.indexSl 1 (.t 42) (.c (.int .i64 0))) 41 true,
ag 44 (.load false 1 (.t 43)) 41 true,
ag 45 (.bin .eql .no (.t 44) (.c (.int .i64 5))) 41 true,
ao 46 (.pick (.t 41) (.t 45) (.c (.bool false))),
mv 47 46,
ag 48 (.mov (.t 1)) 47 true,
ag 49 (.indexSl 1 (.t 48) (.c (.int .i64 1))) 47 true,
ag 50 (.load false 1 (.t 49)) 47 true,
ag 51 (.bin .eql .no (.t 50) (.c (.int .i64 1))) 47 true,
ao 52 (.pick (.t 47) (.t 51) (.c (.bool false))),
mv 53 52,
ag 54 (.mov (.t 1)) 53 true,
ag 55 (.indexSl 1 (.t 54) (.c (.int .i64 2))) 53 true,
ag 56 (.load false 1 (.t 55)) 53 true,
ag 57 (.bin .eql .no (.t 56) (.c (.int .i64 (-4)))) 53 true,
ao 58 (.pick (.t 53) (.t 57) (.c (.bool false))),
mv 59 58,
ag 60 (.mov (.t 5)) 59 true,
ag 61 (.bin .eql .no (.t 60) (.c (.int .i64 (-3)))) 59 true,
ao 62 (.pick (.t 59) (.t 61) (.c (.bool false))),
mv 63 62,
ag 64 (.mov (.t 9)) 63 true,
ag 65 (.un .not (.t 64)) 63 true,
ao 66 (.pick (.t 63) (.t 65) (.c (.bool false))),
mv 0 66])
.ret))))) }
def w14 : WF := { nt := 58, results := [(6, some (false, 1)), (7, some (false, 1)), (8, none)], code := .skip, dfr := some ([(.reg [ao 6 (.alloc [(.list [] true)]),
ao 7 (.alloc [(.int .i64 0)]),
ao 8 (.mov (.c (.bool false)))]),
(.reg [mv 16 0,
ao 17 (.call 17 [(.t 16)]),
mv 9 17]),
(.reg [ao 10 (.mov (.c .nilfn))]),
(.seq (.reg [ao 18 (.call 29 []),
ao 19 (.call 30 []),
ao 20 (.call 31 []),
ao 21 (.call 32 []),
ao 22 (.buildSlice 1 4 [.nilmap] [(0, 1, (.t 18)), (1, 1, (.t 19)), (2, 1, (.t 20)), (3, 1, (.t 21))]),
ao 23 (.len (.t 22)),
ao 24 (.mov (.c (.int .i64 0)))])
(.block 0 (.loop (.seq (.reg [ao 25 (.bin .lss .no (.t 24) (.t 23))])
(.seq (.cond (.t 25)
.skip
(.exit 0))
(.seq (.block 1 (.seq (.reg [ao 26 (.indexSl 1 (.t 22) (.t 24)),
ao 27 (.load false 1 (.t 26)),
mv 12 27])
(.seq (.reg [mv 29 12,
mv 30 9,
ao 31 (.rd (.lookup .str .nilfn true) [(.t 29), (.t 30)]),
mv 28 31,
ao 32 (.extract 0 (.t 28)),
ao 33 (.extract 1 (.t 28)),
mv 13 32,
mv 14 33])
(.seq (.reg [mv 34 14])
(.cond (.t 34)
(.reg [mv 35 13,
mv 10 35])
.skip)))))
(.reg [ao 36 (.bin .add .no (.t 24) (.c (.int .i64 1))),
mv 24 36]))))))),
(.seq (.reg [mv 37 10,
ao 38 (.bin .eql .func (.t 37) (.c .nilfn))])
(.cond (.t 38)
(.seq (.reg [an (.store 1 (.t 6) (.c (.list [] true))),
an (.store 1 (.t 7) (.c (.int .i64 0))),
ao 8 (.mov (.c (.bool false)))])
.ret)
.skip)),
(.reg [ao 8 (.mov (.c (.bool true)))])],
[ao 39 (.makeFunc (.func 33) [] [(.t 6), (.t 7)])],
(.t 39),
(.seq (.reg [mv 40 1,
ao 41 (.build [(.list [] true)] [(0, 1, (.t 40))]),
ao 42 (.box (.t 41)),
mv 15 42])
(.seq (.reg [mv 43 10,
mv 44 15,
ao 45 (.callv (.t 43) [(.t 44)])])
(.seq (.reg [mv 46 15,
ao 47 (.nilCheck (.t 46)),
ao 48 (.fieldAddr 0 (.t 47)),
ao 49 (.load false 1 (.t 48)),
ao 50 (.len (.t 49)),
mv 51 2,
ao 52 (.bin .leq .no (.t 50) (.t 51)),
ao 53 (.call 34 [(.t 52), (.c (.int .i64 (-3)))])])
(.seq (.reg [mv 54 15,
ao 55 (.nilCheck (.t 54)),
ao 56 (.fieldAddr 0 (.t 55)),
ao 57 (.load false 1 (.t 56)),
an (.store 1 (.t 6) (.t 57)),
an (.store 1 (.t 7) (.c (.int .i64 0))),
ao 8 (.mov (.c (.bool true)))])
.ret))))) }
def w16 : WF := { nt := 26, results := [(4, none)], code :=
(.seq (.reg [ao 4 (.mov (.c (.bool false)))])
(.seq (.seq (.reg [mv 6 0,
ao 7 (.len (.t 6)),
mv 8 1,
ao 9 (.len (.t 8)),
ao 10 (.bin .neq .no (.t 7) (.t 9))])
(.cond (.t 10)
(.seq (.reg [ao 4 (.mov (.c (.bool false)))])
.ret)
.skip))
(.seq (.seq (.reg [ao 5 (.mov (.c (.int .i64 0)))])
(.block 0 (.loop (.seq (.seq (.reg [mv 11 5,
mv 12 0,
ao 13 (.len (.t 12)),
ao 14 (.bin .lss .no (.t 11) (.t 13))])
(.cond (.t 14)
.skip
(.exit 0)))
(.seq (.block 1 (.seq (.calm [mv 17 0,
mv 18 5,
⟨(some 19), .indexSl 1 (.t 17) (.t 18), none, [0, 1], false⟩,
⟨(some 20), .load false 1 (.t 19), none, [2], false⟩,
mv 21 1,
mv 22 5,
⟨(some 23), .indexSl 1 (.t 21) (.t 22), none, [4, 5], false⟩,
⟨(some 24), .load false 1 (.t 23), none, [6], false⟩,
⟨(some 25), .bin .neq .no (.t 20) (.t 24), none, [3, 7], false⟩])
(.cond (.t 25)
(.seq (.reg [ao 4 (.mov (.c (.bool false)))])
.ret)
.skip)))
(.reg [mv 15 5,
ao 16 (.bin .add .no (.t 15) (.c (.int .i64 1))),
mv 5 16]))))))
(.seq (.reg [ao 4 (.mov (.c (.bool true)))])
.ret)))) }
def w17 : WF := { nt := 11, results := [(2, none)], code :=
(.seq (.reg [ao 2 (.mov (.c (.str ⟨#[]⟩)))])
(.seq (.seq (.reg [mv 3 0,
ao 4 (.call 28 [(.t 3)]),
ao 5 (.un .not (.t 4))])
(.cond (.t 5)
(.seq (.reg [ao 2 (.mov (.c (.str ⟨#[]⟩)))])
.ret)
.skip))
(.seq (.reg [ao 6 (.call 39 []),
mv 7 0,
ao 8 (.bin .sub .no (.t 7) (.c (.int .i64 1))),
ao 9 (.indexSl 1 (.t 6) (.t 8)),
ao 10 (.load false 1 (.t 9)),
mv 2 10])
.ret))) }
def w21 : WF := { nt := 11, results := [(2, none)], code :=
(.seq (.reg [ao 2 (.mov (.c (.int .i64 0)))])
(.seq (.reg [ao 4 (.call 40 []),
mv 5 0,
ao 6 (.call 41 [(.t 5)]),
ao 7 (.rd (.lookup .str (.int .i64 0) false) [(.t 4), (.t 6)]),
mv 3 7])
(.seq (.seq (.reg [mv 8 3,
ao 9 (.call 42 [(.t 8)])])
(.cond (.t 9)
(.seq (.reg [ao 2 (.mov (.c (.int .i64 0)))])
.ret)
.skip))
(.seq (.reg [mv 10 3,
mv 2 10])
.ret)))) }
def w22 : WF := { nt := 4, results := [(2, none)], code :=
(.seq (.reg [ao 2 (.mov (.c (.int .i64 0)))])
(.seq (.seq (.reg [mv 3 0])
(.cond (.t 3)
(.seq (.reg [ao 2 (.mov (.c (.int .i64 (-1))))])
.ret)
.skip))
(.seq (.reg [ao 2 (.mov (.c (.int .i64 0)))])
.ret))) }
def w28 : WF := { nt := 11, results := [(2, none)], code :=
(.seq (.reg [ao 2 (.mov (.c (.bool false)))])
(.seq (.reg [mv 3 0,
ao 4 (.bin .geq .no (.t 3) (.c (.int .i64 1))),
mv 5 4,
ag 6 (.mov (.t 0)) 5 true,
ag 7 (.call 39 []) 5 true,
ag 8 (.len (.t 7)) 5 true,
ag 9 (.bin .leq .no (.t 6) (.t 8)) 5 true,
ao 10 (.pick (.t 5) (.t 9) (.c (.bool false))),
mv 2 10])
.ret)) }
def w29 : WF := { nt := 15, results := [(0, none)], code :=
(.seq (.reg [ao 0 (.mov (.c .nilmap))])
(.seq (.reg [ao 1 (.mem .makeMap []),
ao 2 (.call 54 [(.c (.fn (.func 55) [] []))]),
an (.mem (.mapPut .str) [(.t 1), (.c (.str ⟨#[68, 85, 80]⟩)), (.t 2)]),
ao 3 (.call 54 [(.c (.fn (.func 57) [] []))]),
an (.mem (.mapPut .str) [(.t 1), (.c (.str ⟨#[68, 82, 79, 80]⟩)), (.t 3)]),
ao 4 (.call 58 [(.c (.fn (.func 59) [] []))]),
an (.mem (.mapPut .str) [(.t 1), (.c (.str ⟨#[83, 87, 65, 80]⟩)), (.t 4)]),
ao 5 (.call 58 [(.c (.fn (.func 60) [] []))]),
an (.mem (.mapPut .str) [(.t 1), (.c (.str ⟨#[79, 86, 69, 82]⟩)), (.t 5)]),
ao 6 (.call 61 [(.c (.fn (.func 62) [] []))]),
an (.mem (.mapPut .str) [(.t 1), (.c (.str ⟨#[82, 79, 84]⟩)), (.t 6)]),
ao 7 (.call 58 [(.c (.fn (.func 63) [] []))]),
an (.mem (.mapPut .str) [(.t 1), (.c (.str ⟨#[78, 73, 80]⟩)), (.t 7)]),
ao 8 (.call 58 [(.c (.fn (.func 64) [] []))]),
an (.mem (.mapPut .str) [(.t 1), (.c (.str ⟨#[84, 85, 67, 75]⟩)), (.t 8)]),
ao 9 (.call 58 [(.c (.fn (.func 65) [] []))]),
an (.mem (.mapPut .str) [(.t 1), (.c (.str ⟨#[50, 68, 85, 80]⟩)), (.t 9)]),
ao 10 (.call 58 [(.c (.fn (.func 66) [] []))]),
an (.mem (.mapPut .str) [(.t 1), (.c (.str ⟨#[50, 68, 82, 79, 80]⟩)), (.t 10)]),
ao 11 (.call 67 [(.c (.fn (.func 68) [] []))]),
an (.mem (.mapPut .str) [(.t 1), (.c (.str ⟨#[50, 83, 87, 65, 80]⟩)), (.t 11)]),
ao 12 (.call 67 [(.c (.fn (.func 69) [] []))]),
an (.mem (.mapPut .str) [(.t 1), (.c (.str ⟨#[50, 79, 86, 69, 82]⟩)), (.t 12)]),
ao 13 (.call 54 [(.c (.fn (.func 70) [] []))]),
an (.mem (.mapPut .str) [(.t 1), (.c (.str ⟨#[63, 68, 85, 80]⟩)), (.t 13)]),
an (.mem (.mapPut .str) [(.t 1), (.c (.str ⟨#[80, 73, 67, 75]⟩)), (.c (.fn (.func 71) [] []))]),
an (.mem (.mapPut .str) [(.t 1), (.c (.str ⟨#[82, 79, 76, 76]⟩)), (.c (.fn (.func 76) [] []))]),
an (.mem (.mapPut .str) [(.t 1), (.c (.str ⟨#[68, 69, 80, 84, 72]⟩)), (.c (.fn (.func 78) [] []))]),
an (.mem (.mapPut .str) [(.t 1), (.c (.str ⟨#[84, 82, 85, 69]⟩)), (.c (.fn (.func 79) [] []))]),
an (.mem (.mapPut .str) [(.t 1), (.c (.str ⟨#[70, 65, 76, 83, 69]⟩)), (.c (.fn (.func 80) [] []))]),
mv 14 1,
mv 0 14])
.ret)) }
def w30 : WF := { nt := 27, results := [(0, none)], code :=
(.seq (.reg [ao 0 (.mov (.c .nilmap))])
(.seq (.reg [ao 1 (.mem .makeMap []),
ao 2 (.call 58 [(.c (.fn (.func 81) [] []))]),
an (.mem (.mapPut .str) [(.t 1), (.c (.str ⟨#[43]⟩)), (.t 2)]),
ao 3 (.call 58 [(.c (.fn (.func 82) [] []))]),
an (.mem (.mapPut .str) [(.t 1), (.c (.str ⟨#[45]⟩)), (.t 3)]),
ao 4 (.call 58 [(.c (.fn (.func 83) [] []))]),
an (.mem (.mapPut .str) [(.t 1), (.c (.str ⟨#[42]⟩)), (.t 4)]),
ao 5 (.call 84 [(.c (.fn (.func 85) [] []))]),
an (.mem (.mapPut .str) [(.t 1), (.c (.str ⟨#[47]⟩)), (.t 5)]),
ao 6 (.call 84 [(.c (.fn (.func 86) [] []))]),
an (.mem (.mapPut .str) [(.t 1), (.c (.str ⟨#[77, 79, 68]⟩)), (.t 6)]),
ao 7 (.call 84 [(.c (.fn (.func 87) [] []))]),
an (.mem (.mapPut .str) [(.t 1), (.c (.str ⟨#[47, 77, 79, 68]⟩)), (.t 7)]),
ao 8 (.call 88 [(.c (.fn (.func 85) [] []))]),
an (.mem (.mapPut .str) [(.t 1), (.c (.str ⟨#[42, 47]⟩)), (.t 8)]),
ao 9 (.call 88 [(.c (.fn (.func 87) [] []))]),
an (.mem (.mapPut .str) [(.t 1), (.c (.str ⟨#[42, 47, 77, 79, 68]⟩)), (.t 9)]),
ao 10 (.call 54 [(.c (.fn (.func 89) [] []))]),
an (.mem (.mapPut .str) [(.t 1), (.c (.str ⟨#[49, 43]⟩)), (.t 10)]),
ao 11 (.call 54 [(.c (.fn (.func 90) [] []))]),
an (.mem (.mapPut .str) [(.t 1), (.c (.str ⟨#[49, 45]⟩)), (.t 11)]),
ao 12 (.call 54 [(.c (.fn (.func 91) [] []))]),
an (.mem (.mapPut .str) [(.t 1), (.c (.str ⟨#[50, 42]⟩)), (.t 12)]),
ao 13 (.call 54 [(.c (.fn (.func 92) [] []))]),
an (.mem (.mapPut .str) [(.t 1), (.c (.str ⟨#[50, 47]⟩)), (.t 13)]),
ao 14 (.call 54 [(.c (.fn (.func 93) [] []))]),
an (.mem (.mapPut .str) [(.t 1), (.c (.str ⟨#[78, 69, 71, 65, 84, 69]⟩)), (.t 14)]),
ao 15 (.call 54 [(.c (.fn (.func 94) [] []))]),
an (.mem (.mapPut .str) [(.t 1), (.c (.str ⟨#[65, 66, 83]⟩)), (.t 15)]),
ao 16 (.call 58 [(.c (.fn (.func 95) [] []))]),
an (.mem (.mapPut .str) [(.t 1), (.c (.str ⟨#[77, 73, 78]⟩)), (.t 16)]),
ao 17 (.call 58 [(.c (.fn (.func 96) [] []))]),
an (.mem (.mapPut .str) [(.t 1), (.c (.str ⟨#[77, 65, 88]⟩)), (.t 17)]),
ao 18 (.call 58 [(.c (.fn (.func 97) [] []))]),
an (.mem (.mapPut .str) [(.t 1), (.c (.str ⟨#[65, 78, 68]⟩)), (.t 18)]),
ao 19 (.call 58 [(.c (.fn (.func 98) [] []))]),
an (.mem (.mapPut .str) [(.t 1), (.c (.str ⟨#[79, 82]⟩)), (.t 19)]),
ao 20 (.call 58 [(.c (.fn (.func 99) [] []))]),
an (.mem (.mapPut .str) [(.t 1), (.c (.str ⟨#[88, 79, 82]⟩)), (.t 20)]),
ao 21 (.call 54 [(.c (.fn (.func 100) [] []))]),
an (.mem (.mapPut .str) [(.t 1), (.c (.str ⟨#[73, 78, 86, 69, 82, 84]⟩)), (.t 21)]),
ao 22 (.call 58 [(.c (.fn (.func 101) [] []))]),
an (.mem (.mapPut .str) [(.t 1), (.c (.str ⟨#[76, 83, 72, 73, 70, 84]⟩)), (.t 22)]),
ao 23 (.call 58 [(.c (.fn (.func 103) [] []))]),
an (.mem (.mapPut .str) [(.t 1), (.c (.str ⟨#[82, 83, 72, 73, 70, 84]⟩)), (.t 23)]),
ao 24 (.call 54 [(.c (.fn (.func 105) [] []))]),
an (.mem (.mapPut .str) [(.t 1), (.c (.str ⟨#[67, 69, 76, 76, 83]⟩)), (.t 24)]),
ao 25 (.call 54 [(.c (.fn (.func 106) [] []))]),
an (.mem (.mapPut .str) [(.t 1), (.c (.str ⟨#[67, 69, 76, 76, 43]⟩)), (.t 25)]),
mv 26 1,
mv 0 26])
.ret)) }
def w31 : WF := { nt := 15, results := [(0, none)], code :=
(.seq (.reg [ao 0 (.mov (.c .nilmap))])
(.seq (.reg [ao 1 (.mem .makeMap []),
ao 2 (.call 58 [(.c (.fn (.func 107) [] []))]),
an (.mem (.mapPut .str) [(.t 1), (.c (.str ⟨#[61]⟩)), (.t 2)]),
ao 3 (.call 58 [(.c (.fn (.func 109) [] []))]),
an (.mem (.mapPut .str) [(.t 1), (.c (.str ⟨#[60, 62]⟩)), (.t 3)]),
ao 4 (.call 58 [(.c (.fn (.func 110) [] []))]),
an (.mem (.mapPut .str) [(.t 1), (.c (.str ⟨#[60]⟩)), (.t 4)]),
ao 5 (.call 58 [(.c (.fn (.func 111) [] []))]),
an (.mem (.mapPut .str) [(.t 1), (.c (.str ⟨#[62]⟩)), (.t 5)]),
ao 6 (.call 58 [(.c (.fn (.func 112) [] []))]),
an (.mem (.mapPut .str) [(.t 1), (.c (.str ⟨#[85, 60]⟩)), (.t 6)]),
ao 7 (.call 54 [(.c (.fn (.func 114) [] []))]),
an (.mem (.mapPut .str) [(.t 1), (.c (.str ⟨#[48, 61]⟩)), (.t 7)]),
ao 8 (.call 54 [(.c (.fn (.func 115) [] []))]),
an (.mem (.mapPut .str) [(.t 1), (.c (.str ⟨#[48, 60]⟩)), (.t 8)]),
ao 9 (.call 54 [(.c (.fn (.func 116) [] []))]),
an (.mem (.mapPut .str) [(.t 1), (.c (.str ⟨#[48, 60, 62]⟩)), (.t 9)]),
ao 10 (.call 54 [(.c (.fn (.func 117) [] []))]),
an (.mem (.mapPut .str) [(.t 1), (.c (.str ⟨#[48, 62]⟩)), (.t 10)]),
ao 11 (.call 61 [(.c (.fn (.func 118) [] []))]),
an (.mem (.mapPut .str) [(.t 1), (.c (.str ⟨#[87, 73, 84, 72, 73, 78]⟩)), (.t 11)]),
ao 12 (.call 58 [(.c (.fn (.func 120) [] []))]),
an (.mem (.mapPut .str) [(.t 1), (.c (.str ⟨#[70, 60]⟩)), (.t 12)]),
ao 13 (.call 58 [(.c (.fn (.func 122) [] []))]),
an (.mem (.mapPut .str) [(.t 1), (.c (.str ⟨#[70, 61]⟩)), (.t 13)]),
mv 14 1,
mv 0 14])
.ret)) }
def w32 : WF := { nt := 27, results := [(0, none)], code :=
(.seq (.reg [ao 0 (.mov (.c .nilmap))])
(.seq (.reg [ao 1 (.mov (.c (.fn (.func 124) [] [])))])
(.seq (.reg [ao 2 (.mov (.c (.fn (.func 127) [] [])))])
(.seq (.reg [ao 3 (.mem .makeMap []),
mv 4 1,
ao 5 (.callv (.t 4) [(.c (.int .u8 43))]),
an (.mem (.mapPut .str) [(.t 3), (.c (.str ⟨#[70, 43]⟩)), (.t 5)]),
mv 6 1,
ao 7 (.callv (.t 6) [(.c (.int .u8 45))]),
an (.mem (.mapPut .str) [(.t 3), (.c (.str ⟨#[70, 45]⟩)), (.t 7)]),
mv 8 1,
ao 9 (.callv (.t 8) [(.c (.int .u8 42))]),
an (.mem (.mapPut .str) [(.t 3), (.c (.str ⟨#[70, 42]⟩)), (.t 9)]),
mv 10 1,
ao 11 (.callv (.t 10) [(.c (.int .u8 47))]),
an (.mem (.mapPut .str) [(.t 3), (.c (.str ⟨#[70, 47]⟩)), (.t 11)]),
mv 12 1,
ao 13 (.callv (.t 12) [(.c (.int .u8 109))]),
an (.mem (.mapPut .str) [(.t 3), (.c (.str ⟨#[70, 77, 73, 78]⟩)), (.t 13)]),
mv 14 1,
ao 15 (.callv (.t 14) [(.c (.int .u8 77))]),
an (.mem (.mapPut .str) [(.t 3), (.c (.str ⟨#[70, 77, 65, 88]⟩)), (.t 15)]),
mv 16 2,
ao 17 (.callv (.t 16) [(.c (.int .u8 110))]),
an (.mem (.mapPut .str) [(.t 3), (.c (.str ⟨#[70, 78, 69, 71, 65, 84, 69]⟩)), (.t 17)]),
mv 18 2,
ao 19 (.callv (.t 18) [(.c (.int .u8 97))]),
an (.mem (.mapPut .str) [(.t 3), (.c (.str ⟨#[70, 65, 66, 83]⟩)), (.t 19)]),
mv 20 2,
ao 21 (.callv (.t 20) [(.c (.int .u8 115))]),
an (.mem (.mapPut .str) [(.t 3), (.c (.str ⟨#[70, 83, 81, 82, 84]⟩)), (.t 21)]),
mv 22 2,
ao 23 (.callv (.t 22) [(.c (.int .u8 102))]),
an (.mem (.mapPut .str) [(.t 3), (.c (.str ⟨#[70, 76, 79, 79, 82]⟩)), (.t 23)]),
ao 24 (.call 54 [(.c (.fn (.func 130) [] []))]),
an (.mem (.mapPut .str) [(.t 3), (.c (.str ⟨#[83, 62, 70]⟩)), (.t 24)]),
ao 25 (.call 54 [(.c (.fn (.func 132) [] []))]),
an (.mem (.mapPut .str) [(.t 3), (.c (.str ⟨#[70, 62, 83]⟩)), (.t 25)]),
mv 26 3,
mv 0 26])
.ret)))) }
def w33 : WF := { nt := 12, results := [], rcv := some 5, code :=
(.block 0 (.seq (.reg [ao 7 (.pur (.isNilI true) [(.t 5)])])
(.cond (.t 7)
(.reg [mv 2 5])
(.seq (.reg [ao 8 (.pur (.assert 67 (some (.int .i64 0))) [(.t 5)]),
ao 9 (.extract 1 (.t 8)),
ao 10 (.extract 0 (.t 8))])
(.cond (.t 9)
(.seq (.reg [mv 3 10])
(.reg [mv 11 3,
an (.store 1 (.t 0) (.c (.list [] true))),
an (.store 1 (.t 1) (.t 11))]))
(.seq (.reg [mv 4 5])
(.reg [mv 6 4,
an (.panic (.t 6))]))))))) }
def w34 : WF := { nt := 8, results := [], code :=
(.seq (.reg [mv 4 0,
ao 5 (.un .not (.t 4))])
(.cond (.t 5)
(.reg [mv 6 1,
ao 7 (.call 74 [(.t 6)])])
.skip)) }
def w39 : WF := { nt := 2, results := [(0, none)], code :=
(.seq (.reg [ao 0 (.mov (.c (.list [] true)))])
(.seq (.reg [ao 1 (.call 143 [(.c (.str ⟨#[69, 88, 73, 84, 32, 40, 76, 73, 84, 41, 32, 40, 66, 82, 65, 78, 67, 72, 41, 32, 40, 48, 66, 82, 65, 78, 67, 72, 41, 32, 40, 68, 79, 41, 32, 40, 76, 79, 79, 80, 41, 32, 40, 43, 76, 79, 79, 80, 41, 32, 40, 86, 65, 82, 41, 32, 40, 68, 79, 69, 83, 41, 32, 40, 84, 69, 88, 84, 41, 32, 40, 77, 65, 82, 75, 41, 32, 67, 79, 77, 80, 73, 76, 69, 44, 32, 68, 85, 80, 32, 68, 82, 79, 80, 32, 83, 87, 65, 80, 32, 79, 86, 69, 82, 32, 82, 79, 84, 32, 78, 73, 80, 32, 84, 85, 67, 75, 32, 63, 68, 85, 80, 32, 50, 68, 85, 80, 32, 50, 68, 82, 79, 80, 32, 50, 83, 87, 65, 80, 32, 50, 79, 86, 69, 82, 32, 80, 73, 67, 75, 32, 82, 79, 76, 76, 32, 68, 69, 80, 84, 72, 32, 43, 32, 45, 32, 42, 32, 47, 32, 77, 79, 68, 32, 47, 77, 79, 68, 32, 42, 47, 32, 42, 47, 77, 79, 68, 32, 49, 43, 32, 49, 45, 32, 50, 42, 32, 50, 47, 32, 78, 69, 71, 65, 84, 69, 32, 65, 66, 83, 32, 77, 73, 78, 32, 77, 65, 88, 32, 65, 78, 68, 32, 79, 82, 32, 88, 79, 82, 32, 73, 78, 86, 69, 82, 84, 32, 76, 83, 72, 73, 70, 84, 32, 82, 83, 72, 73, 70, 84, 32, 61, 32, 60, 62, 32, 60, 32, 62, 32, 85, 60, 32, 48, 61, 32, 48, 60, 32, 48, 60, 62, 32, 48, 62, 32, 87, 73, 84, 72, 73, 78, 32, 84, 82, 85, 69, 32, 70, 65, 76, 83, 69, 32, 67, 69, 76, 76, 83, 32, 67, 69, 76, 76, 43, 32, 70, 43, 32, 70, 45, 32, 70, 42, 32, 70, 47, 32, 70, 77, 73, 78, 32, 70, 77, 65, 88, 32, 70, 78, 69, 71, 65, 84, 69, 32, 70, 65, 66, 83, 32, 70, 83, 81, 82, 84, 32, 70, 76, 79, 79, 82, 32, 70, 60, 32, 70, 61, 32, 83, 62, 70, 32, 70, 62, 83, 32, 64, 32, 33, 32, 43, 33, 32, 67, 64, 32, 67, 33, 32, 72, 69, 82, 69, 32, 65, 76, 76, 79, 84, 32, 44, 32, 67, 44, 32, 65, 76, 73, 71, 78, 32, 66, 65, 83, 69, 32, 68, 69, 67, 73, 77, 65, 76, 32, 72, 69, 88, 32, 62, 82, 32, 82, 62, 32, 82, 64, 32, 73, 32, 74, 32, 85, 78, 76, 79, 79, 80, 32, 76, 69, 65, 86, 69, 32, 73, 70, 32, 69, 76, 83, 69, 32, 84, 72, 69, 78, 32, 66, 69, 71, 73, 78, 32, 65, 71, 65, 73, 78, 32, 85, 78, 84, 73, 76, 32, 87, 72, 73, 76, 69, 32, 82, 69, 80, 69, 65, 84, 32, 68, 79, 32, 76, 79, 79, 80, 32, 43, 76, 79, 79, 80, 32, 82, 69, 67, 85, 82, 83, 69, 32, 58, 32, 59, 32, 73, 77, 77, 69, 68, 73, 65, 84, 69, 32, 67, 79, 78, 83, 84, 65, 78, 84, 32, 86, 65, 82, 73, 65, 66, 76, 69, 32, 67, 82, 69, 65, 84, 69, 32, 68, 79, 69, 83, 62, 32, 77, 65, 82, 75, 69, 82, 32, 39, 32, 91, 39, 93, 32, 76, 73, 84, 69, 82, 65, 76, 32, 80, 79, 83, 84, 80, 79, 78, 69, 32, 91, 32, 93, 32, 69, 88, 69, 67, 85, 84, 69, 32, 67, 72, 65, 82, 32, 91, 67, 72, 65, 82, 93, 32, 40, 32, 92, 32, 46, 34, 32, 69, 77, 73, 84, 32, 67, 82, 32, 83, 80, 65, 67, 69, 32, 46, 32, 84, 89, 80, 69, 32, 75, 69, 89, 32, 84, 72, 82, 79, 87, 32, 65, 66, 79, 82, 84]⟩))]),
mv 0 1])
.ret)) }
def w40 : WF := { nt := 18, results := [(0, none)], code :=
(.seq (.reg [ao 0 (.mov (.c .nilmap))])
(.seq (.reg [ao 4 (.mem .makeMap []),
mv 1 4])
(.seq (.seq (.reg [ao 5 (.call 39 []),
ao 6 (.len (.t 5)),
ao 7 (.mov (.c (.int .i64 0)))])
(.block 0 (.loop (.seq (.reg [ao 8 (.bin .lss .no (.t 7) (.t 6))])
(.seq (.cond (.t 8)
.skip
(.exit 0))
(.seq (.block 1 (.seq (.reg [mv 9 7,
ao 10 (.indexSl 1 (.t 5) (.t 7)),
ao 11 (.load false 1 (.t 10)),
mv 2 9,
mv 3 11])
(.reg [mv 12 1,
mv 13 3,
mv 14 2,
ao 15 (.bin .add .no (.t 14) (.c (.int .i64 1))),
an (.mem (.mapPut .str) [(.t 12), (.t 13), (.t 15)])])))
(.reg [ao 16 (.bin .add .no (.t 7) (.c (.int .i64 1))),
mv 7 16])))))))
(.seq (.reg [mv 17 1,
mv 0 17])
.ret)))) }
def w42 : WF := { nt := 16, results := [(2, none)], code :=
(.seq (.reg [ao 2 (.mov (.c (.bool false)))])
(.seq (.reg [mv 3 0,
ao 4 (.call 28 [(.t 3)]),
mv 5 4,
ag 6 (.mov (.t 0)) 5 true,
ag 7 (.call 17 [(.t 6)]) 5 true,
ag 8 (.lenS (.t 7)) 5 true,
ag 9 (.bin .gtr .no (.t 8) (.c (.int .i64 1))) 5 true,
ao 10 (.pick (.t 5) (.t 9) (.c (.bool false))),
mv 11 10,
ag 12 (.mov (.t 0)) 11 true,
ag 13 (.call 17 [(.t 12)]) 11 true,
ag 14 (.call 147 [(.t 13), (.c (.str ⟨#[40]⟩))]) 11 true,
ao 15 (.pick (.t 11) (.t 14) (.c (.bool false))),
mv 2 15])
.ret)) }
def w54 : WF := { nt := 4, results := [(2, none)], code :=
(.seq (.reg [ao 1 (.box (.t 0)),
ao 2 (.mov (.c .nilfn))])
(.seq (.reg [ao 3 (.makeFunc (.func 162) [] [(.t 1)]),
mv 2 3])
.ret)) }
def w55 : WF := { nt := 7, results := [(2, none)], code :=
(.seq (.reg [ao 2 (.mov (.c (.list [] true)))])
(.seq (.reg [mv 3 0,
mv 4 0,
ao 5 (.buildSlice 1 2 [(.int .i64 0)] [(0, 1, (.t 3)), (1, 1, (.t 4))]),
ao 6 (.call 56 [(.t 5)]),
mv 2 6])
.ret)) }
def w56 : WF := { nt := 4, results := [(2, none)], code :=
(.seq (.reg [ao 2 (.mov (.c (.list [] true)))])
(.seq (.reg [mv 3 0,
mv 2 3])
.ret)) }
def w57 : WF := { nt := 3, results := [(2, none)], code :=
(.seq (.reg [ao 2 (.mov (.c (.list [] true)))])
(.seq (.reg [ao 2 (.mov (.c (.list [] true)))])
.ret)) }
def w58 : WF := { nt := 4, results := [(2, none)], code :=
(.seq (.reg [ao 1 (.box (.t 0)),
ao 2 (.mov (.c .nilfn))])
(.seq (.reg [ao 3 (.makeFunc (.func 163) [] [(.t 1)]),
mv 2 3])
.ret)) }
def w59 : WF := { nt := 9, results := [(4, none)], code :=
(.seq (.reg [ao 4 (.mov (.c (.list [] true)))])
(.seq (.reg [mv 5 1,
mv 6 0,
ao 7 (.buildSlice 1 2 [(.int .i64 0)] [(0, 1, (.t 5)), (1, 1, (.t 6))]),
ao 8 (.call 56 [(.t 7)]),
mv 4 8])
.ret)) }
def w60 : WF := { nt := 10, results := [(4, none)], code :=
(.seq (.reg [ao 4 (.mov (.c (.list [] true)))])
(.seq (.reg [mv 5 0,
mv 6 1,
mv 7 0,
ao 8 (.buildSlice 1 3 [(.int .i64 0)] [(0, 1, (.t 5)), (1, 1, (.t 6)), (2, 1, (.t 7))]),
ao 9 (.call 56 [(.t 8)]),
mv 4 9])
.ret)) }
def w61 : WF := { nt := 4, results := [(2, none)], code :=
(.seq (.reg [ao 1 (.box (.t 0)),
ao 2 (.mov (.c .nilfn))])
(.seq (.reg [ao 3 (.makeFunc (.func 165) [] [(.t 1)]),
mv 2 3])
.ret)) }
def w62 : WF := { nt := 12, results := [(6, none)], code :=
(.seq (.reg [ao 6 (.mov (.c (.list [] true)))])
(.seq (.reg [mv 7 1,
mv 8 2,
mv 9 0,
ao 10 (.buildSlice 1 3 [(.int .i64 0)] [(0, 1, (.t 7)), (1, 1, (.t 8)), (2, 1, (.t 9))]),
ao 11 (.call 56 [(.t 10)]),
mv 6 11])
.ret)) }
def w63 : WF := { nt := 8, results := [(4, none)], code :=
(.seq (.reg [ao 4 (.mov (.c (.list [] true)))])
(.seq (.reg [mv 5 1,
ao 6 (.buildSlice 1 1 [(.int .i64 0)] [(0, 1, (.t 5))]),
ao 7 (.call 56 [(.t 6)]),
mv 4 7])
.ret)) }
def w64 : WF := { nt := 10, results := [(4, none)], code :=
(.seq (.reg [ao 4 (.mov (.c (.list [] true)))])
(.seq (.reg [mv 5 1,
mv 6 0,
mv 7 1,
ao 8 (.buildSlice 1 3 [(.int .i64 0)] [(0, 1, (.t 5)), (1, 1, (.t 6)), (2, 1, (.t 7))]),
ao 9 (.call 56 [(.t 8)]),
mv 4 9])
.ret)) }
def w65 : WF := { nt := 11, results := [(4, none)], code :=
(.seq (.reg [ao 4 (.mov (.c (.list [] true)))])
(.seq (.reg [mv 5 0,
mv 6 1,
mv 7 0,
mv 8 1,
ao 9 (.buildSlice 1 4 [(.int .i64 0)] [(0, 1, (.t 5)), (1, 1, (.t 6)), (2, 1, (.t 7)), (3, 1, (.t 8))]),
ao 10 (.call 56 [(.t 9)]),
mv 4 10])
.ret)) }
def w66 : WF := { nt := 5, results := [(4, none)], code :=
(.seq (.reg [ao 4 (.mov (.c (.list [] true)))])
(.seq (.reg [ao 4 (.mov (.c (.list [] true)))])
.ret)) }
def w67 : WF := { nt := 4, results := [(2, none)], code :=
(.seq (.reg [ao 1 (.box (.t 0)),
ao 2 (.mov (.c .nilfn))])
(.seq (.reg [ao 3 (.makeFunc (.func 166) [] [(.t 1)]),
mv 2 3])
.ret)) }
def w68 : WF := { nt := 15, results := [(8, none)], code :=
(.seq (.reg [ao 8 (.mov (.c (.list [] true)))])
(.seq (.reg [mv 9 2,
mv 10 3,
mv 11 0,
mv 12 1,
ao 13 (.buildSlice 1 4 [(.int .i64 0)] [(0, 1, (.t 9)), (1, 1, (.t 10)), (2, 1, (.t 11)), (3, 1, (.t 12))]),
ao 14 (.call 56 [(.t 13)]),
mv 8 14])
.ret)) }
def w69 : WF := { nt := 17, results := [(8, none)], code :=
(.seq (.reg [ao 8 (.mov (.c (.list [] true)))])
(.seq (.reg [mv 9 0,
mv 10 1,
mv 11 2,
mv 12 3,
mv 13 0,
mv 14 1,
ao 15 (.buildSlice 1 6 [(.int .i64 0)] [(0, 1, (.t 9)), (1, 1, (.t 10)), (2, 1, (.t 11)), (3, 1, (.t 12)), (4, 1, (.t 13)), (5, 1, (.t 14))]),
ao 16 (.call 56 [(.t 15)]),
mv 8 16])
.ret)) }
def w70 : WF := { nt := 11, results := [(2, none)], code :=
(.seq (.reg [ao 2 (.mov (.c (.list [] true)))])
(.seq (.seq (.reg [mv 3 0,
ao 4 (.bin .eql .no (.t 3) (.c (.int .i64 0)))])
(.cond (.t 4)
(.seq (.reg [ao 5 (.buildSlice 1 1 [(.int .i64 0)] [(0, 1, (.c (.int .i64 0)))]),
ao 6 (.call 56 [(.t 5)]),
mv 2 6])
.ret)
.skip))
(.seq (.reg [mv 7 0,
mv 8 0,
ao 9 (.buildSlice 1 2 [(.int .i64 0)] [(0, 1, (.t 7)), (1, 1, (.t 8))]),
ao 10 (.call 56 [(.t 9)]),
mv 2 10])
.ret))) }
def w71 : WF := { nt := 22, results := [], code :=
(.seq (.reg [mv 5 0,
ao 6 (.call 72 [(.t 5)]),
mv 2 6])
(.seq (.reg [mv 8 0,
ao 9 (.nilCheck (.t 8)),
ao 10 (.fieldAddr 0 (.t 9)),
ao 11 (.load false 1 (.t 10)),
mv 12 2,
ao 13 (.call 73 [(.t 11), (.t 12)]),
mv 7 13,
ao 14 (.extract 0 (.t 7)),
ao 15 (.extract 1 (.t 7)),
mv 3 14,
mv 4 15])
(.seq (.reg [mv 16 4,
ao 17 (.call 74 [(.t 16)])])
(.reg [mv 18 0,
mv 19 3,
ao 20 (.buildSlice 1 1 [(.int .i64 0)] [(0, 1, (.t 19))]),
ao 21 (.call 75 [(.t 18), (.t 20)])])))) }
def w72 : WF := { nt := 24, results := [(2, none)], code :=
(.seq (.reg [ao 2 (.mov (.c (.int .i64 0)))])
(.seq (.reg [mv 7 0,
ao 8 (.nilCheck (.t 7)),
ao 9 (.fieldAddr 0 (.t 8)),
ao 10 (.load false 1 (.t 9)),
ao 11 (.call 167 [(.t 10), (.c (.int .i64 1))]),
mv 6 11,
ao 12 (.extract 0 (.t 6)),
ao 13 (.extract 1 (.t 6)),
ao 14 (.extract 2 (.t 6)),
mv 3 12,
mv 4 13,
mv 5 14])
(.seq (.reg [mv 15 5,
ao 16 (.call 74 [(.t 15)])])
(.seq (.reg [mv 17 0,
mv 18 3,
ao 19 (.nilCheck (.t 17)),
ao 20 (.fieldAddr 0 (.t 19)),
an (.store 1 (.t 20) (.t 18))])
(.seq (.reg [mv 21 4,
ao 22 (.indexSl 1 (.t 21) (.c (.int .i64 0))),
ao 23 (.load false 1 (.t 22)),
mv 2 23])
.ret))))) }
def w73 : WF := { nt := 21, results := [(4, none), (5, none)], code :=
(.seq (.reg [ao 4 (.mov (.c (.int .i64 0))),
ao 5 (.mov (.c (.int .i64 0)))])
(.seq (.reg [mv 9 0,
mv 10 1,
ao 11 (.call 168 [(.t 9), (.t 10)]),
mv 8 11,
ao 12 (.extract 0 (.t 8)),
ao 13 (.extract 1 (.t 8)),
mv 6 12,
mv 7 13])
(.seq (.seq (.reg [mv 14 7,
ao 15 (.bin .neq .no (.t 14) (.c (.int .i64 0)))])
(.cond (.t 15)
(.seq (.reg [mv 16 7,
ao 4 (.mov (.c (.int .i64 0))),
mv 5 16])
.ret)
.skip))
(.seq (.reg [mv 17 0,
mv 18 6,
ao 19 (.indexSl 1 (.t 17) (.t 18)),
ao 20 (.load false 1 (.t 19)),
mv 4 20,
ao 5 (.mov (.c (.int .i64 0)))])
.ret)))) }
def w74 : WF := { nt := 6, results := [], code :=
(.seq (.reg [mv 2 0,
ao 3 (.bin .neq .no (.t 2) (.c (.int .i64 0)))])
(.cond (.t 3)
(.reg [mv 4 0,
ao 5 (.makeIface 67 (.t 4)),
an (.panic (.t 5))])
.skip)) }
def w75 : WF := { nt := 24, results := [], code :=
(.calm [mv 4 0,
mv 5 0,
⟨(some 6), .nilCheck (.t 5), none, [1], false⟩,
⟨(some 7), .fieldAddr 0 (.t 6), none, [2], false⟩,
⟨(some 8), .load false 1 (.t 7), none, [3], false⟩,
mv 9 0,
⟨(some 10), .nilCheck (.t 9), none, [5], false⟩,
⟨(some 11), .fieldAddr 0 (.t 10), none, [6], false⟩,
⟨(some 12), .load false 1 (.t 11), none, [7], false⟩,
⟨(some 13), .len (.t 12), none, [8], false⟩,
mv 14 0,
⟨(some 15), .nilCheck (.t 14), none, [10], false⟩,
⟨(some 16), .fieldAddr 0 (.t 15), none, [11], false⟩,
⟨(some 17), .load false 1 (.t 16), none, [12], false⟩,
⟨(some 18), .len (.t 17), none, [13], false⟩,
⟨(some 19), .slice (.sl 1) (.t 8) none (some (.t 13)) (some (.t 18)), none, [4, 9, 14], false⟩,
mv 20 1,
⟨(some 21), .append 1 8 none (.t 19) (.t 20), none, [15, 16], true⟩,
⟨(some 22), .nilCheck (.t 4), none, [0, 0, 1, 2, 3, 4, 5, 6, 7, 8, 9, 10, 11, 12, 13, 14, 15, 16, 17], false⟩,
⟨(some 23), .fieldAddr 0 (.t 22), none, [18, 0, 1, 2, 3, 4, 5, 6, 7, 8, 9, 10, 11, 12, 13, 14, 15, 16, 17], false⟩,
⟨none, .store 1 (.t 23) (.t 21), none, [19, 17, 17, 0, 1, 2, 3, 4, 5, 6, 7, 8, 9, 10, 11, 12, 13, 14, 15, 16, 17], true⟩]) }
def w76 : WF := { nt := 22, results := [], code :=
(.seq (.reg [mv 5 0,
ao 6 (.call 72 [(.t 5)]),
mv 2 6])
(.seq (.reg [mv 8 0,
ao 9 (.nilCheck (.t 8)),
ao 10 (.fieldAddr 0 (.t 9)),
ao 11 (.load false 1 (.t 10)),
mv 12 2,
ao 13 (.call 77 [(.t 11), (.t 12)]),
mv 7 13,
ao 14 (.extract 0 (.t 7)),
ao 15 (.extract 1 (.t 7)),
mv 3 14,
mv 4 15])
(.seq (.reg [mv 16 4,
ao 17 (.call 74 [(.t 16)])])
(.reg [mv 18 0,
mv 19 3,
ao 20 (.nilCheck (.t 18)),
ao 21 (.fieldAddr 0 (.t 20)),
an (.store 1 (.t 21) (.t 19))])))) }
def w77 : WF := { nt := 31, results := [(4, none), (5, none)], code :=
(.seq (.reg [ao 4 (.mov (.c (.list [] true))),
ao 5 (.mov (.c (.int .i64 0)))])
(.seq (.reg [mv 9 0,
mv 10 1,
ao 11 (.call 168 [(.t 9), (.t 10)]),
mv 8 11,
ao 12 (.extract 0 (.t 8)),
ao 13 (.extract 1 (.t 8)),
mv 6 12,
mv 7 13])
(.seq (.seq (.reg [mv 14 7,
ao 15 (.bin .neq .no (.t 14) (.c (.int .i64 0)))])
(.cond (.t 15)
(.seq (.reg [mv 16 7,
ao 4 (.mov (.c (.list [] true))),
mv 5 16])
.ret)
.skip))
(.seq (.calm [mv 17 0,
mv 18 6,
⟨(some 19), .slice (.sl 1) (.t 17) none (some (.t 18)) none, none, [0, 1], false⟩,
mv 20 0,
mv 21 6,
⟨(some 22), .bin .add .no (.t 21) (.c (.int .i64 1)), none, [4], false⟩,
⟨(some 23), .slice (.sl 1) (.t 20) (some (.t 22)) none none, none, [3, 5], false⟩,
mv 24 0,
mv 25 6,
mv 26 6,
⟨(some 27), .bin .add .no (.t 26) (.c (.int .i64 1)), none, [9], false⟩,
⟨(some 28), .slice (.sl 1) (.t 24) (some (.t 25)) (some (.t 27)) none, none, [7, 8, 10], false⟩,
⟨(some 29), .pur (.lst 1 3 [(.list [] true)] [(0, 1), (1, 1), (2, 1)]) [(.t 19), (.t 23), (.t 28)], none, [2, 6, 11], false⟩,
⟨(some 30), .call 169 [(.t 29)], none, [12], true⟩,
⟨(some 4), .mov (.t 30), none, [13, 13, 0, 1, 2, 3, 4, 5, 6, 7, 8, 9, 10, 11, 12, 13], false⟩,
⟨(some 5), .mov (.c (.int .i64 0)), none, [14, 0, 1, 2, 3, 4, 5, 6, 7, 8, 9, 10, 11, 12, 13, 14], false⟩])
.ret)))) }
def w78 : WF := { nt := 10, results := [], code :=
(.reg [mv 2 0,
mv 3 0,
ao 4 (.nilCheck (.t 3)),
ao 5 (.fieldAddr 0 (.t 4)),
ao 6 (.load false 1 (.t 5)),
ao 7 (.len (.t 6)),
ao 8 (.buildSlice 1 1 [(.int .i64 0)] [(0, 1, (.t 7))]),
ao 9 (.call 75 [(.t 2), (.t 8)])]) }
def w79 : WF := { nt := 5, results := [], code :=
(.reg [mv 2 0,
ao 3 (.buildSlice 1 1 [(.int .i64 0)] [(0, 1, (.c (.int .i64 (-1))))]),
ao 4 (.call 75 [(.t 2), (.t 3)])]) }
def w80 : WF := { nt := 5, results := [], code :=
(.reg [mv 2 0,
ao 3 (.buildSlice 1 1 [(.int .i64 0)] [(0, 1, (.c (.int .i64 0)))]),
ao 4 (.call 75 [(.t 2), (.t 3)])]) }
def w81 : WF := { nt := 10, results := [(4, none)], code :=
(.seq (.reg [ao 4 (.mov (.c (.list [] true)))])
(.seq (.reg [mv 5 0,
mv 6 1,
ao 7 (.bin .add .no (.t 5) (.t 6)),
ao 8 (.buildSlice 1 1 [(.int .i64 0)] [(0, 1, (.t 7))]),
ao 9 (.call 56 [(.t 8)]),
mv 4 9])
.ret)) }
def w82 : WF := { nt := 10, results := [(4, none)], code :=
(.seq (.reg [ao 4 (.mov (.c (.list [] true)))])
(.seq (.reg [mv 5 0,
mv 6 1,
ao 7 (.bin .sub .no (.t 5) (.t 6)),
ao 8 (.buildSlice 1 1 [(.int .i64 0)] [(0, 1, (.t 7))]),
ao 9 (.call 56 [(.t 8)]),
mv 4 9])
.ret)) }
def w83 : WF := { nt := 10, results := [(4, none)], code :=
(.seq (.reg [ao 4 (.mov (.c (.list [] true)))])
(.seq (.reg [mv 5 0,
mv 6 1,
ao 7 (.bin .mul .no (.t 5) (.t 6)),
ao 8 (.buildSlice 1 1 [(.int .i64 0)] [(0, 1, (.t 7))]),
ao 9 (.call 56 [(.t 8)]),
mv 4 9])
.ret)) }
def w84 : WF := { nt := 5, results := [(2, none)], code :=
(.seq (.reg [ao 1 (.box (.t 0)),
ao 2 (.mov (.c .nilfn))])
(.seq (.reg [ao 3 (.makeFunc (.func 170) [] [(.t 1)]),
ao 4 (.call 58 [(.t 3)]),
mv 2 4])
.ret)) }
def w85 : WF := { nt := 8, results := [(4, none)], code :=
(.seq (.reg [ao 4 (.mov (.c (.list [] true)))])
(.seq (.reg [mv 5 0,
ao 6 (.buildSlice 1 1 [(.int .i64 0)] [(0, 1, (.t 5))]),
ao 7 (.call 56 [(.t 6)]),
mv 4 7])
.ret)) }
def w86 : WF := { nt := 8, results := [(4, none)], code :=
(.seq (.reg [ao 4 (.mov (.c (.list [] true)))])
(.seq (.reg [mv 5 1,
ao 6 (.buildSlice 1 1 [(.int .i64 0)] [(0, 1, (.t 5))]),
ao 7 (.call 56 [(.t 6)]),
mv 4 7])
.ret)) }
def w87 : WF := { nt := 9, results := [(4, none)], code :=
(.seq (.reg [ao 4 (.mov (.c (.list [] true)))])
(.seq (.reg [mv 5 1,
mv 6 0,
ao 7 (.buildSlice 1 2 [(.int .i64 0)] [(0, 1, (.t 5)), (1, 1, (.t 6))]),
ao 8 (.call 56 [(.t 7)]),
mv 4 8])
.ret)) }
def w88 : WF := { nt := 5, results := [(2, none)], code :=
(.seq (.reg [ao 1 (.box (.t 0)),
ao 2 (.mov (.c .nilfn))])
(.seq (.reg [ao 3 (.makeFunc (.func 173) [] [(.t 1)]),
ao 4 (.call 61 [(.t 3)]),
mv 2 4])
.ret)) }
def w89 : WF := { nt := 7, results := [(2, none)], code :=
(.seq (.reg [ao 2 (.mov (.c (.list [] true)))])
(.seq (.reg [mv 3 0,
ao 4 (.bin .add .no (.t 3) (.c (.int .i64 1))),
ao 5 (.buildSlice 1 1 [(.int .i64 0)] [(0, 1, (.t 4))]),
ao 6 (.call 56 [(.t 5)]),
mv 2 6])
.ret)) }
def w90 : WF := { nt := 7, results := [(2, none)], code :=
(.seq (.reg [ao 2 (.mov (.c (.list [] true)))])
(.seq (.reg [mv 3 0,
ao 4 (.bin .sub .no (.t 3) (.c (.int .i64 1))),
ao 5 (.buildSlice 1 1 [(.int .i64 0)] [(0, 1, (.t 4))]),
ao 6 (.call 56 [(.t 5)]),
mv 2 6])
.ret)) }
def w91 : WF := { nt := 7, results := [(2, none)], code :=
(.seq (.reg [ao 2 (.mov (.c (.list [] true)))])
(.seq (.reg [mv 3 0,
ao 4 (.bin .mul .no (.t 3) (.c (.int .i64 2))),
ao 5 (.buildSlice 1 1 [(.int .i64 0)] [(0, 1, (.t 4))]),
ao 6 (.call 56 [(.t 5)]),
mv 2 6])
.ret)) }
def w92 : WF := { nt := 7, results := [(2, none)], code :=
(.seq (.reg [ao 2 (.mov (.c (.list [] true)))])
(.seq (.reg [mv 3 0,
ao 4 (.bin .shr .no (.t 3) (.c (.int .u64 1))),
ao 5 (.buildSlice 1 1 [(.int .i64 0)] [(0, 1, (.t 4))]),
ao 6 (.call 56 [(.t 5)]),
mv 2 6])
.ret)) }
def w93 : WF := { nt := 7, results := [(2, none)], code :=
(.seq (.reg [ao 2 (.mov (.c (.list [] true)))])
(.seq (.reg [mv 3 0,
ao 4 (.un .neg (.t 3)),
ao 5 (.buildSlice 1 1 [(.int .i64 0)] [(0, 1, (.t 4))]),
ao 6 (.call 56 [(.t 5)]),
mv 2 6])
.ret)) }
def w94 : WF := { nt := 9, results := [(2, none)], code :=
(.seq (.reg [ao 2 (.mov (.c (.list [] true)))])
(.seq (.reg [mv 3 0,
mv 4 0,
ao 5 (.un .neg (.t 4)),
ao 6 (.max [(.t 3), (.t 5)]),
ao 7 (.buildSlice 1 1 [(.int .i64 0)] [(0, 1, (.t 6))]),
ao 8 (.call 56 [(.t 7)]),
mv 2 8])
.ret)) }
def w95 : WF := { nt := 10, results := [(4, none)], code :=
(.seq (.reg [ao 4 (.mov (.c (.list [] true)))])
(.seq (.reg [mv 5 0,
mv 6 1,
ao 7 (.min [(.t 5), (.t 6)]),
ao 8 (.buildSlice 1 1 [(.int .i64 0)] [(0, 1, (.t 7))]),
ao 9 (.call 56 [(.t 8)]),
mv 4 9])
.ret)) }
def w96 : WF := { nt := 10, results := [(4, none)], code :=
(.seq (.reg [ao 4 (.mov (.c (.list [] true)))])
(.seq (.reg [mv 5 0,
mv 6 1,
ao 7 (.max [(.t 5), (.t 6)]),
ao 8 (.buildSlice 1 1 [(.int .i64 0)] [(0, 1, (.t 7))]),
ao 9 (.call 56 [(.t 8)]),
mv 4 9])
.ret)) }
def w97 : WF := { nt := 10, results := [(4, none)], code :=
(.seq (.reg [ao 4 (.mov (.c (.list [] true)))])
(.seq (.reg [mv 5 0,
mv 6 1,
ao 7 (.bin .and .no (.t 5) (.t 6)),
ao 8 (.buildSlice 1 1 [(.int .i64 0)] [(0, 1, (.t 7))]),
ao 9 (.call 56 [(.t 8)]),
mv 4 9])
.ret)) }
def w98 : WF := { nt := 10, results := [(4, none)], code :=
(.seq (.reg [ao 4 (.mov (.c (.list [] true)))])
(.seq (.reg [mv 5 0,
mv 6 1,
ao 7 (.bin .or .no (.t 5) (.t 6)),
ao 8 (.buildSlice 1 1 [(.int .i64 0)] [(0, 1, (.t 7))]),
ao 9 (.call 56 [(.t 8)]),
mv 4 9])
.ret)) }
def w99 : WF := { nt := 10, results := [(4, none)], code :=
(.seq (.reg [ao 4 (.mov (.c (.list [] true)))])
(.seq (.reg [mv 5 0,
mv 6 1,
ao 7 (.bin .xor .no (.t 5) (.t 6)),
ao 8 (.buildSlice 1 1 [(.int .i64 0)] [(0, 1, (.t 7))]),
ao 9 (.call 56 [(.t 8)]),
mv 4 9])
.ret)) }
def w100 : WF := { nt := 7, results := [(2, none)], code :=
(.seq (.reg [ao 2 (.mov (.c (.list [] true)))])
(.seq (.reg [mv 3 0,
ao 4 (.un .xor (.t 3)),
ao 5 (.buildSlice 1 1 [(.int .i64 0)] [(0, 1, (.t 4))]),
ao 6 (.call 56 [(.t 5)]),
mv 2 6])
.ret)) }
def w101 : WF := { nt := 10, results := [(4, none)], code :=
(.seq (.reg [ao 4 (.mov (.c (.list [] true)))])
(.seq (.reg [mv 5 0,
mv 6 1,
ao 7 (.call 102 [(.t 5), (.t 6)]),
ao 8 (.buildSlice 1 1 [(.int .i64 0)] [(0, 1, (.t 7))]),
ao 9 (.call 56 [(.t 8)]),
mv 4 9])
.ret)) }
def w102 : WF := { nt := 11, results := [(4, none)], code :=
(.seq (.reg [ao 4 (.mov (.c (.int .i64 0)))])
(.seq (.reg [mv 5 0,
ao 6 (.conv (.int .u64) (.t 5)),
mv 7 1,
ao 8 (.conv (.int .u64) (.t 7)),
ao 9 (.bin .shl .no (.t 6) (.t 8)),
ao 10 (.conv (.int .i64) (.t 9)),
mv 4 10])
.ret)) }
def w103 : WF := { nt := 10, results := [(4, none)], code :=
(.seq (.reg [ao 4 (.mov (.c (.list [] true)))])
(.seq (.reg [mv 5 0,
mv 6 1,
ao 7 (.call 104 [(.t 5), (.t 6)]),
ao 8 (.buildSlice 1 1 [(.int .i64 0)] [(0, 1, (.t 7))]),
ao 9 (.call 56 [(.t 8)]),
mv 4 9])
.ret)) }
def w104 : WF := { nt := 11, results := [(4, none)], code :=
(.seq (.reg [ao 4 (.mov (.c (.int .i64 0)))])
(.seq (.reg [mv 5 0,
ao 6 (.conv (.int .u64) (.t 5)),
mv 7 1,
ao 8 (.conv (.int .u64) (.t 7)),
ao 9 (.bin .shr .no (.t 6) (.t 8)),
ao 10 (.conv (.int .i64) (.t 9)),
mv 4 10])
.ret)) }
def w105 : WF := { nt := 7, results := [(2, none)], code :=
(.seq (.reg [ao 2 (.mov (.c (.list [] true)))])
(.seq (.reg [mv 3 0,
ao 4 (.bin .mul .no (.t 3) (.c (.int .i64 8))),
ao 5 (.buildSlice 1 1 [(.int .i64 0)] [(0, 1, (.t 4))]),
ao 6 (.call 56 [(.t 5)]),
mv 2 6])
.ret)) }
def w106 : WF := { nt := 7, results := [(2, none)], code :=
(.seq (.reg [ao 2 (.mov (.c (.list [] true)))])
(.seq (.reg [mv 3 0,
ao 4 (.bin .add .no (.t 3) (.c (.int .i64 8))),
ao 5 (.buildSlice 1 1 [(.int .i64 0)] [(0, 1, (.t 4))]),
ao 6 (.call 56 [(.t 5)]),
mv 2 6])
.ret)) }
def w107 : WF := { nt := 9, results := [(4, none)], code :=
(.seq (.reg [ao 4 (.mov (.c (.list [] true)))])
(.seq (.reg [mv 5 0,
mv 6 1,
ao 7 (.bin .eql .no (.t 5) (.t 6)),
ao 8 (.call 108 [(.t 7)]),
mv 4 8])
.ret)) }
def w108 : WF := { nt := 7, results := [(2, none)], code :=
(.seq (.reg [ao 2 (.mov (.c (.list [] true)))])
(.seq (.reg [mv 3 0,
ao 4 (.call 22 [(.t 3)]),
ao 5 (.buildSlice 1 1 [(.int .i64 0)] [(0, 1, (.t 4))]),
ao 6 (.call 56 [(.t 5)]),
mv 2 6])
.ret)) }
def w109 : WF := { nt := 9, results := [(4, none)], code :=
(.seq (.reg [ao 4 (.mov (.c (.list [] true)))])
(.seq (.reg [mv 5 0,
mv 6 1,
ao 7 (.bin .neq .no (.t 5) (.t 6)),
ao 8 (.call 108 [(.t 7)]),
mv 4 8])
.ret)) }
def w110 : WF := { nt := 9, results := [(4, none)], code :=
(.seq (.reg [ao 4 (.mov (.c (.list [] true)))])
(.seq (.reg [mv 5 0,
mv 6 1,
ao 7 (.bin .lss .no (.t 5) (.t 6)),
ao 8 (.call 108 [(.t 7)]),
mv 4 8])
.ret)) }
def w111 : WF := { nt := 9, results := [(4, none)], code :=
(.seq (.reg [ao 4 (.mov (.c (.list [] true)))])
(.seq (.reg [mv 5 0,
mv 6 1,
ao 7 (.bin .gtr .no (.t 5) (.t 6)),
ao 8 (.call 108 [(.t 7)]),
mv 4 8])
.ret)) }
def w112 : WF := { nt := 9, results := [(4, none)], code :=
(.seq (.reg [ao 4 (.mov (.c (.list [] true)))])
(.seq (.reg [mv 5 0,
mv 6 1,
ao 7 (.call 113 [(.t 5), (.t 6)]),
ao 8 (.call 108 [(.t 7)]),
mv 4 8])
.ret)) }
def w113 : WF := { nt := 10, results := [(4, none)], code :=
(.seq (.reg [ao 4 (.mov (.c (.bool false)))])
(.seq (.reg [mv 5 0,
ao 6 (.conv (.int .u64) (.t 5)),
mv 7 1,
ao 8 (.conv (.int .u64) (.t 7)),
ao 9 (.bin .lss .no (.t 6) (.t 8)),
mv 4 9])
.ret)) }
def w114 : WF := { nt := 6, results := [(2, none)], code :=
(.seq (.reg [ao 2 (.mov (.c (.list [] true)))])
(.seq (.reg [mv 3 0,
ao 4 (.bin .eql .no (.t 3) (.c (.int .i64 0))),
ao 5 (.call 108 [(.t 4)]),
mv 2 5])
.ret)) }
def w115 : WF := { nt := 6, results := [(2, none)], code :=
(.seq (.reg [ao 2 (.mov (.c (.list [] true)))])
(.seq (.reg [mv 3 0,
ao 4 (.bin .lss .no (.t 3) (.c (.int .i64 0))),
ao 5 (.call 108 [(.t 4)]),
mv 2 5])
.ret)) }
def w116 : WF := { nt := 6, results := [(2, none)], code :=
(.seq (.reg [ao 2 (.mov (.c (.list [] true)))])
(.seq (.reg [mv 3 0,
ao 4 (.bin .neq .no (.t 3) (.c (.int .i64 0))),
ao 5 (.call 108 [(.t 4)]),
mv 2 5])
.ret)) }
def w117 : WF := { nt := 6, results := [(2, none)], code :=
(.seq (.reg [ao 2 (.mov (.c (.list [] true)))])
(.seq (.reg [mv 3 0,
ao 4 (.bin .gtr .no (.t 3) (.c (.int .i64 0))),
ao 5 (.call 108 [(.t 4)]),
mv 2 5])
.ret)) }
def w118 : WF := { nt := 12, results := [(6, none)], code :=
(.seq (.reg [ao 6 (.mov (.c (.list [] true)))])
(.seq (.reg [mv 7 0,
mv 8 1,
mv 9 2,
ao 10 (.call 119 [(.t 7), (.t 8), (.t 9)]),
ao 11 (.call 108 [(.t 10)]),
mv 6 11])
.ret)) }
def w119 : WF := { nt := 14, results := [(6, none)], code :=
(.seq (.reg [ao 6 (.mov (.c (.bool false)))])
(.seq (.reg [mv 7 0,
mv 8 1,
ao 9 (.bin .sub .no (.t 7) (.t 8)),
mv 10 2,
mv 11 1,
ao 12 (.bin .sub .no (.t 10) (.t 11)),
ao 13 (.call 113 [(.t 9), (.t 12)]),
mv 6 13])
.ret)) }
def w120 : WF := { nt := 9, results := [(4, none)], code :=
(.seq (.reg [ao 4 (.mov (.c (.list [] true)))])
(.seq (.reg [mv 5 0,
mv 6 1,
ao 7 (.call 121 [(.t 5), (.t 6)]),
ao 8 (.call 108 [(.t 7)]),
mv 4 8])
.ret)) }
def w121 : WF := { nt := 10, results := [(4, none)], code :=
(.seq (.reg [ao 4 (.mov (.c (.bool false)))])
(.seq (.reg [mv 5 0,
ao 6 (.call 175 [(.t 5)]),
mv 7 1,
ao 8 (.call 175 [(.t 7)]),
ao 9 (.bin .lss .no (.t 6) (.t 8)),
mv 4 9])
.ret)) }
def w122 : WF := { nt := 9, results := [(4, none)], code :=
(.seq (.reg [ao 4 (.mov (.c (.list [] true)))])
(.seq (.reg [mv 5 0,
mv 6 1,
ao 7 (.call 123 [(.t 5), (.t 6)]),
ao 8 (.call 108 [(.t 7)]),
mv 4 8])
.ret)) }
def w123 : WF := { nt := 10, results := [(4, none)], code :=
(.seq (.reg [ao 4 (.mov (.c (.bool false)))])
(.seq (.reg [mv 5 0,
ao 6 (.call 175 [(.t 5)]),
mv 7 1,
ao 8 (.call 175 [(.t 7)]),
ao 9 (.bin .eql .no (.t 6) (.t 8)),
mv 4 9])
.ret)) }
def w124 : WF := { nt := 5, results := [(2, none)], code :=
(.seq (.reg [ao 1 (.box (.t 0)),
ao 2 (.mov (.c .nilfn))])
(.seq (.reg [ao 3 (.makeFunc (.func 125) [] [(.t 1)]),
ao 4 (.call 58 [(.t 3)]),
mv 2 4])
.ret)) }
def w125 : WF := { nt := 18, results := [(5, none)], code :=
(.seq (.reg [ao 5 (.mov (.c (.list [] true)))])
(.seq (.reg [ao 9 (.load false 1 (.t 2)),
mv 10 0,
mv 11 1,
ao 12 (.call 126 [(.t 9), (.t 10), (.t 11)]),
mv 8 12,
ao 13 (.extract 0 (.t 8)),
ao 14 (.extract 1 (.t 8)),
mv 6 13,
mv 7 14])
(.seq (.reg [mv 15 6,
ao 16 (.buildSlice 1 1 [(.int .i64 0)] [(0, 1, (.t 15))]),
ao 17 (.call 56 [(.t 16)]),
mv 5 17])
.ret))) }
def w126 : WF := { nt := 35, results := [(6, none), (7, none)], code :=
(.seq (.reg [ao 6 (.mov (.c (.int .i64 0))),
ao 7 (.mov (.c (.bool false)))])
(.seq (.reg [ao 11 (.call 176 []),
mv 12 0,
ao 13 (.rd (.lookup .int .nilfn false) [(.t 11), (.t 12)]),
mv 8 13])
(.seq (.reg [mv 14 1,
ao 15 (.call 175 [(.t 14)]),
mv 16 2,
ao 17 (.call 175 [(.t 16)]),
mv 9 15,
mv 10 17])
(.seq (.block 0 (.seq (.reg [mv 19 8,
ao 20 (.bin .eql .func (.t 19) (.c .nilfn)),
mv 18 20])
(.cond (.t 18)
(.seq (.reg [ao 6 (.mov (.c (.int .i64 0))),
ao 7 (.mov (.c (.bool false)))])
.ret)
(.seq (.reg [mv 22 9,
mv 23 9,
ao 24 (.bin .neq .no (.t 22) (.t 23)),
mv 25 24,
ag 26 (.mov (.t 10)) 25 false,
ag 27 (.mov (.t 10)) 25 false,
ag 28 (.bin .neq .no (.t 26) (.t 27)) 25 false,
ao 29 (.pick (.t 25) (.c (.bool true)) (.t 28)),
mv 21 29])
(.cond (.t 21)
(.seq (.reg [ao 6 (.mov (.c (.int .i64 9221120237041090560))),
ao 7 (.mov (.c (.bool true)))])
.ret)
.skip)))))
(.seq (.reg [mv 30 8,
mv 31 9,
mv 32 10,
ao 33 (.callv (.t 30) [(.t 31), (.t 32)]),
ao 34 (.call 177 [(.t 33)]),
mv 6 34,
ao 7 (.mov (.c (.bool true)))])
.ret))))) }
def w127 : WF := { nt := 5, results := [(2, none)], code :=
(.seq (.reg [ao 1 (.box (.t 0)),
ao 2 (.mov (.c .nilfn))])
(.seq (.reg [ao 3 (.makeFunc (.func 128) [] [(.t 1)]),
ao 4 (.call 54 [(.t 3)]),
mv 2 4])
.ret)) }
def w128 : WF := { nt := 15, results := [(3, none)], code :=
(.seq (.reg [ao 3 (.mov (.c (.list [] true)))])
(.seq (.reg [ao 7 (.load false 1 (.t 1)),
mv 8 0,
ao 9 (.call 129 [(.t 7), (.t 8)]),
mv 6 9,
ao 10 (.extract 0 (.t 6)),
ao 11 (.extract 1 (.t 6)),
mv 4 10,
mv 5 11])
(.seq (.reg [mv 12 4,
ao 13 (.buildSlice 1 1 [(.int .i64 0)] [(0, 1, (.t 12))]),
ao 14 (.call 56 [(.t 13)]),
mv 3 14])
.ret))) }
def w129 : WF := { nt := 25, results := [(4, none), (5, none)], code :=
(.seq (.reg [ao 4 (.mov (.c (.int .i64 0))),
ao 5 (.mov (.c (.bool false)))])
(.seq (.reg [ao 8 (.mem .makeMap []),
an (.mem (.mapPut .int) [(.t 8), (.c (.int .u8 110)), (.c (.fn (.func 178) [] []))]),
an (.mem (.mapPut .int) [(.t 8), (.c (.int .u8 97)), (.c (.fn (.func 179) [] []))]),
an (.mem (.mapPut .int) [(.t 8), (.c (.int .u8 115)), (.c (.fn (.func 180) [] []))]),
an (.mem (.mapPut .int) [(.t 8), (.c (.int .u8 102)), (.c (.fn (.func 181) [] []))]),
mv 9 8,
mv 10 0,
ao 11 (.rd (.lookup .int .nilfn false) [(.t 9), (.t 10)]),
mv 6 11])
(.seq (.reg [mv 12 1,
ao 13 (.call 175 [(.t 12)]),
mv 7 13])
(.seq (.block 0 (.seq (.reg [mv 15 6,
ao 16 (.bin .eql .func (.t 15) (.c .nilfn)),
mv 14 16])
(.cond (.t 14)
(.seq (.reg [ao 4 (.mov (.c (.int .i64 0))),
ao 5 (.mov (.c (.bool false)))])
.ret)
(.seq (.reg [mv 18 7,
mv 19 7,
ao 20 (.bin .neq .no (.t 18) (.t 19)),
mv 17 20])
(.cond (.t 17)
(.seq (.reg [ao 4 (.mov (.c (.int .i64 9221120237041090560))),
ao 5 (.mov (.c (.bool true)))])
.ret)
.skip)))))
(.seq (.reg [mv 21 6,
mv 22 7,
ao 23 (.callv (.t 21) [(.t 22)]),
ao 24 (.call 177 [(.t 23)]),
mv 4 24,
ao 5 (.mov (.c (.bool true)))])
.ret))))) }
def w130 : WF := { nt := 7, results := [(2, none)], code :=
(.seq (.reg [ao 2 (.mov (.c (.list [] true)))])
(.seq (.reg [mv 3 0,
ao 4 (.call 131 [(.t 3)]),
ao 5 (.buildSlice 1 1 [(.int .i64 0)] [(0, 1, (.t 4))]),
ao 6 (.call 56 [(.t 5)]),
mv 2 6])
.ret)) }
def w131 : WF := { nt := 6, results := [(2, none)], code :=
(.seq (.reg [ao 2 (.mov (.c (.int .i64 0)))])
(.seq (.reg [mv 3 0,
ao 4 (.pur (.i2f .f64) [(.t 3)]),
ao 5 (.call 177 [(.t 4)]),
mv 2 5])
.ret)) }
def w132 : WF := { nt := 15, results := [(2, none)], code :=
(.seq (.reg [ao 2 (.mov (.c (.list [] true)))])
(.seq (.reg [mv 6 0,
ao 7 (.call 133 [(.t 6)]),
mv 5 7,
ao 8 (.extract 0 (.t 5)),
ao 9 (.extract 1 (.t 5)),
mv 3 8,
mv 4 9])
(.seq (.reg [mv 10 4,
ao 11 (.call 34 [(.t 10), (.c (.int .i64 (-11)))])])
(.seq (.reg [mv 12 3,
ao 13 (.buildSlice 1 1 [(.int .i64 0)] [(0, 1, (.t 12))]),
ao 14 (.call 56 [(.t 13)]),
mv 2 14])
.ret)))) }
def w133 : WF := { nt := 16, results := [(2, none), (3, none)], code :=
(.seq (.reg [ao 2 (.mov (.c (.int .i64 0))),
ao 3 (.mov (.c (.bool false)))])
(.seq (.reg [mv 5 0,
ao 6 (.call 175 [(.t 5)]),
mv 4 6])
(.seq (.seq (.reg [mv 7 4,
ao 8 (.bin .geq .no (.t 7) (.c (.float .f64 14114281232179134464))),
mv 9 8,
ag 10 (.mov (.t 4)) 9 true,
ag 11 (.bin .lss .no (.t 10) (.c (.float .f64 4890909195324358656))) 9 true,
ao 12 (.pick (.t 9) (.t 11) (.c (.bool false))),
ao 13 (.un .not (.t 12))])
(.cond (.t 13)
(.seq (.reg [ao 2 (.mov (.c (.int .i64 0))),
ao 3 (.mov (.c (.bool false)))])
.ret)
.skip))
(.seq (.reg [mv 14 4,
ao 15 (.pur (.f2i .i64) [(.t 14)]),
mv 2 15,
ao 3 (.mov (.c (.bool true)))])
.ret)))) }
def w143 : WF := { nt := 106, results := [(2, none)], code :=
(.seq (.reg [ao 2 (.mov (.c (.list [] true)))])
(.seq (.reg [ao 3 (.mov (.c (.int .i64 0)))])
(.seq (.reg [ao 4 (.mov (.c (.int .i64 1)))])
(.seq (.reg [ao 5 (.mov (.c (.int .u8 0)))])
(.seq (.seq (.reg [ao 6 (.mov (.c (.int .i64 0)))])
(.block 0 (.loop (.seq (.seq (.reg [mv 13 6,
mv 14 0,
ao 15 (.lenS (.t 14)),
ao 16 (.bin .lss .no (.t 13) (.t 15))])
(.cond (.t 16)
.skip
(.exit 0)))
(.seq (.block 1 (.seq (.reg [mv 19 0,
mv 20 6,
ao 21 (.indexStr (.t 19) (.t 20)),
mv 7 21])
(.seq (.reg [mv 22 5,
mv 23 7,
ao 24 (.bin .or .no (.t 22) (.t 23)),
mv 5 24])
(.seq (.reg [mv 25 7,
ao 26 (.indexPA 256 1 (.c glA) (.t 25)),
ao 27 (.load false 1 (.t 26)),
ao 28 (.conv (.int .i64) (.t 27)),
mv 8 28])
(.seq (.reg [mv 29 3,
mv 30 4,
mv 31 8,
ao 32 (.un .xor (.t 31)),
ao 33 (.bin .and .no (.t 30) (.t 32)),
ao 34 (.bin .add .no (.t 29) (.t 33)),
mv 3 34])
(.reg [mv 35 8,
mv 4 35]))))))
(.reg [mv 17 6,
ao 18 (.bin .add .no (.t 17) (.c (.int .i64 1))),
mv 6 18]))))))
(.seq (.seq (.reg [mv 36 5,
ao 37 (.bin .geq .no (.t 36) (.c (.int .u8 128)))])
(.cond (.t 37)
(.seq (.reg [mv 38 0,
ao 39 (.call 193 [(.t 38), (.c (.fn (.func 194) [] []))]),
mv 2 39])
.ret)
.skip))
(.seq (.reg [mv 40 3,
ao 41 (.makeSlice 1 16 [(.str ⟨#[]⟩)] (.t 40) (.t 40)),
mv 9 41])
(.seq (.reg [ao 10 (.mov (.c (.int .i64 0)))])
(.seq (.reg [ao 11 (.mov (.c (.int .i64 0)))])
(.seq (.reg [ao 12 (.mov (.c (.int .i64 0)))])
(.seq (.block 2 (.loop (.seq (.seq (.reg [mv 42 12,
mv 43 0,
ao 44 (.lenS (.t 43)),
ao 45 (.bin .lss .no (.t 42) (.t 44)),
mv 46 45,
ag 47 (.mov (.t 0)) 46 true,
ag 48 (.mov (.t 12)) 46 true,
ag 49 (.indexStr (.t 47) (.t 48)) 46 true,
ag 50 (.indexPA 256 1 (.c glA) (.t 49)) 46 true,
ag 51 (.load false 1 (.t 50)) 46 true,
ag 52 (.bin .neq .no (.t 51) (.c (.int .u8 0))) 46 true,
ao 53 (.pick (.t 46) (.t 52) (.c (.bool false)))])
(.cond (.t 53)
.skip
(.exit 2)))
(.block 3 (.reg [mv 54 12,
ao 55 (.bin .add .no (.t 54) (.c (.int .i64 1))),
mv 12 55])))))
(.seq (.reg [mv 56 12,
mv 11 56])
(.seq (.block 4 (.loop (.seq (.seq (.reg [mv 57 12,
mv 58 0,
ao 59 (.lenS (.t 58)),
ao 60 (.bin .lss .no (.t 57) (.t 59))])
(.cond (.t 60)
.skip
(.exit 4)))
(.block 5 (.seq (.seq (.reg [mv 61 0,
mv 62 12,
ao 63 (.indexStr (.t 61) (.t 62)),
ao 64 (.indexPA 256 1 (.c glA) (.t 63)),
ao 65 (.load false 1 (.t 64)),
ao 66 (.bin .eql .no (.t 65) (.c (.int .u8 0)))])
(.cond (.t 66)
(.seq (.reg [mv 67 12,
ao 68 (.bin .add .no (.t 67) (.c (.int .i64 1))),
mv 12 68])
(.exit 5))
.skip))
(.seq (.reg [mv 69 9,
mv 70 10,
mv 71 0,
mv 72 11,
mv 73 12,
ao 74 (.slice .str (.t 71) (some (.t 72)) (some (.t 73)) none),
ao 75 (.indexSl 1 (.t 69) (.t 70)),
an (.store 1 (.t 75) (.t 74))])
(.seq (.reg [mv 76 10,
ao 77 (.bin .add .no (.t 76) (.c (.int .i64 1))),
mv 10 77])
(.seq (.reg [mv 78 12,
ao 79 (.bin .add .no (.t 78) (.c (.int .i64 1))),
mv 12 79])
(.seq (.block 6 (.loop (.seq (.seq (.reg [mv 80 12,
mv 81 0,
ao 82 (.lenS (.t 81)),
ao 83 (.bin .lss .no (.t 80) (.t 82)),
mv 84 83,
ag 85 (.mov (.t 0)) 84 true,
ag 86 (.mov (.t 12)) 84 true,
ag 87 (.indexStr (.t 85) (.t 86)) 84 true,
ag 88 (.indexPA 256 1 (.c glA) (.t 87)) 84 true,
ag 89 (.load false 1 (.t 88)) 84 true,
ag 90 (.bin .neq .no (.t 89) (.c (.int .u8 0))) 84 true,
ao 91 (.pick (.t 84) (.t 90) (.c (.bool false)))])
(.cond (.t 91)
.skip
(.exit 6)))
(.block 7 (.reg [mv 92 12,
ao 93 (.bin .add .no (.t 92) (.c (.int .i64 1))),
mv 12 93])))))
(.reg [mv 94 12,
mv 11 94]))))))))))
(.seq (.seq (.reg [mv 95 11,
mv 96 0,
ao 97 (.lenS (.t 96)),
ao 98 (.bin .lss .no (.t 95) (.t 97))])
(.cond (.t 98)
(.reg [mv 99 9,
mv 100 10,
mv 101 0,
mv 102 11,
ao 103 (.slice .str (.t 101) (some (.t 102)) none none),
ao 104 (.indexSl 1 (.t 99) (.t 100)),
an (.store 1 (.t 104) (.t 103))])
.skip))
(.seq (.reg [mv 105 9,
mv 2 105])
.ret))))))))))))))) }
def w147 : WF := { nt := 8, results := [(4, none)], code :=
(.seq (.reg [ao 4 (.mov (.c (.bool false)))])
(.seq (.reg [mv 5 0,
mv 6 1,
ao 7 (.call 196 [(.t 5), (.t 6)]),
mv 4 7])
.ret)) }
def w162 : WF := { nt := 9, results := [], code :=
(.same [mv 3 0,
ao 4 (.load false 1 (.t 1)),
mv 5 0,
⟨(some 6), .call 72 [(.t 5)], none, [2], true⟩,
⟨(some 7), .callv (.t 4) [(.t 6)], none, [1, 3, 3], true⟩,
⟨(some 8), .call 75 [(.t 3), (.t 7)], none, [0, 4, 4], true⟩]) }
def w163 : WF := { nt := 15, results := [], code :=
(.seq (.reg [mv 4 0,
ao 5 (.call 164 [(.t 4), (.c (.int .i64 2))])])
(.seq (.reg [mv 6 0,
ao 7 (.call 72 [(.t 6)]),
mv 3 7])
(.same [mv 8 0,
ao 9 (.load false 1 (.t 1)),
mv 10 0,
⟨(some 11), .call 72 [(.t 10)], none, [2], true⟩,
mv 12 3,
⟨(some 13), .callv (.t 9) [(.t 11), (.t 12)], none, [1, 3, 4, 3], true⟩,
⟨(some 14), .call 75 [(.t 8), (.t 13)], none, [0, 5, 5], true⟩]))) }
def w164 : WF := { nt := 12, results := [], code :=
(.reg [mv 4 0,
ao 5 (.nilCheck (.t 4)),
ao 6 (.fieldAddr 0 (.t 5)),
ao 7 (.load false 1 (.t 6)),
ao 8 (.len (.t 7)),
mv 9 1,
ao 10 (.bin .geq .no (.t 8) (.t 9)),
ao 11 (.call 34 [(.t 10), (.c (.int .i64 (-4)))])]) }
def w165 : WF := { nt := 19, results := [], code :=
(.seq (.reg [mv 5 0,
ao 6 (.call 164 [(.t 5), (.c (.int .i64 3))])])
(.seq (.reg [mv 7 0,
ao 8 (.call 72 [(.t 7)]),
mv 9 0,
ao 10 (.call 72 [(.t 9)]),
mv 3 8,
mv 4 10])
(.same [mv 11 0,
ao 12 (.load false 1 (.t 1)),
mv 13 0,
⟨(some 14), .call 72 [(.t 13)], none, [2], true⟩,
mv 15 4,
mv 16 3,
⟨(some 17), .callv (.t 12) [(.t 14), (.t 15), (.t 16)], none, [1, 3, 4, 5, 3], true⟩,
⟨(some 18), .call 75 [(.t 11), (.t 17)], none, [0, 6, 6], true⟩]))) }
def w166 : WF := { nt := 23, results := [], code :=
(.seq (.reg [mv 6 0,
ao 7 (.call 164 [(.t 6), (.c (.int .i64 4))])])
(.seq (.reg [mv 8 0,
ao 9 (.call 72 [(.t 8)]),
mv 10 0,
ao 11 (.call 72 [(.t 10)]),
mv 12 0,
ao 13 (.call 72 [(.t 12)]),
mv 3 9,
mv 4 11,
mv 5 13])
(.same [mv 14 0,
ao 15 (.load false 1 (.t 1)),
mv 16 0,
⟨(some 17), .call 72 [(.t 16)], none, [2], true⟩,
mv 18 5,
mv 19 4,
mv 20 3,
⟨(some 21), .callv (.t 15) [(.t 17), (.t 18), (.t 19), (.t 20)], none, [1, 3, 4, 5, 6, 3], true⟩,
⟨(some 22), .call 75 [(.t 14), (.t 21)], none, [0, 7, 7], true⟩]))) }
def w167 : WF := { nt := 29, results := [(4, none), (5, none), (6, none)], code :=
(.seq (.reg [ao 4 (.mov (.c (.list [] true))),
ao 5 (.mov (.c (.list [] true))),
ao 6 (.mov (.c (.int .i64 0)))])
(.seq (.reg [mv 8 0,
ao 9 (.len (.t 8)),
mv 10 1,
ao 11 (.bin .sub .no (.t 9) (.t 10)),
mv 7 11])
(.seq (.seq (.reg [mv 12 1,
ao 13 (.bin .lss .no (.t 12) (.c (.int .i64 0))),
mv 14 13,
ag 15 (.mov (.t 7)) 14 false,
ag 16 (.bin .lss .no (.t 15) (.c (.int .i64 0))) 14 false,
ao 17 (.pick (.t 14) (.c (.bool true)) (.t 16))])
(.cond (.t 17)
(.seq (.reg [ao 4 (.mov (.c (.list [] true))),
ao 5 (.mov (.c (.list [] true))),
ao 6 (.mov (.c (.int .i64 (-4))))])
.ret)
.skip))
(.seq (.calm [mv 18 0,
mv 19 7,
mv 20 7,
⟨(some 21), .slice (.sl 1) (.t 18) none (some (.t 19)) (some (.t 20)), none, [0, 1, 2], false⟩,
mv 22 0,
mv 23 7,
mv 24 0,
⟨(some 25), .len (.t 24), none, [6], false⟩,
mv 26 0,
⟨(some 27), .len (.t 26), none, [8], false⟩,
⟨(some 28), .slice (.sl 1) (.t 22) (some (.t 23)) (some (.t 25)) (some (.t 27)), none, [4, 5, 7, 9], false⟩,
⟨(some 4), .mov (.t 21), none, [3, 0, 1, 2, 3], false⟩,
⟨(some 5), .mov (.t 28), none, [10, 11, 0, 1, 2, 3, 4, 5, 6, 7, 8, 9, 10, 11], false⟩,
⟨(some 6), .mov (.c (.int .i64 0)), none, [12, 0, 1, 2, 3, 4, 5, 6, 7, 8, 9, 10, 11, 12], false⟩])
.ret)))) }
def w168 : WF := { nt := 16, results := [(4, none), (5, none)], code :=
(.seq (.reg [ao 2 (.box (.t 0)),
ao 3 (.box (.t 1)),
ao 4 (.mov (.c (.int .i64 0))),
ao 5 (.mov (.c (.int .i64 0)))])
(.seq (.reg [ao 7 (.makeFunc (.func 308) [] [(.t 3), (.t 2)]),
mv 6 7])
(.seq (.seq (.reg [mv 8 6,
ao 9 (.callv (.t 8) []),
ao 10 (.un .not (.t 9))])
(.cond (.t 10)
(.seq (.reg [ao 4 (.mov (.c (.int .i64 0))),
ao 5 (.mov (.c (.int .i64 (-4))))])
.ret)
.skip))
(.seq (.reg [ao 11 (.load false 1 (.t 2)),
ao 12 (.len (.t 11)),
ao 13 (.bin .sub .no (.t 12) (.c (.int .i64 1))),
ao 14 (.load false 1 (.t 3)),
ao 15 (.bin .sub .no (.t 13) (.t 14)),
mv 4 15,
ao 5 (.mov (.c (.int .i64 0)))])
.ret)))) }
def w169 : WF := { nt := 36, results := [(2, none)], code :=
(.seq (.reg [ao 2 (.mov (.c (.list [] true)))])
(.seq (.reg [ao 3 (.mov (.c (.int .i64 0)))])
(.seq (.seq (.reg [mv 9 0,
ao 10 (.len (.t 9)),
ao 11 (.mov (.c (.int .i64 0)))])
(.block 0 (.loop (.seq (.reg [ao 12 (.bin .lss .no (.t 11) (.t 10))])
(.seq (.cond (.t 12)
.skip
(.exit 0))
(.seq (.block 1 (.seq (.reg [ao 13 (.indexSl 1 (.t 9) (.t 11)),
ao 14 (.load false 1 (.t 13)),
mv 5 14])
(.seq (.reg [mv 15 3,
mv 16 5,
ao 17 (.len (.t 16)),
ao 18 (.bin .add .no (.t 15) (.t 17)),
mv 3 18])
(.seq (.reg [mv 19 3,
ao 20 (.bin .lss .no (.t 19) (.c (.int .i64 0)))])
(.cond (.t 20)
(.reg [ao 21 (.makeIface 9 (.c (.str ⟨#[108, 101, 110, 32, 111, 117, 116, 32, 111, 102, 32, 114, 97, 110, 103, 101]⟩))),
an (.panic (.t 21))])
.skip)))))
(.reg [ao 22 (.bin .add .no (.t 11) (.c (.int .i64 1))),
mv 11 22])))))))
(.seq (.reg [mv 23 3,
ao 24 (.call 309 [(.c (.list [] true)), (.t 23)]),
mv 6 24])
(.seq (.seq (.reg [mv 25 0,
ao 26 (.len (.t 25)),
ao 27 (.mov (.c (.int .i64 0)))])
(.block 2 (.loop (.seq (.reg [ao 28 (.bin .lss .no (.t 27) (.t 26))])
(.seq (.cond (.t 28)
.skip
(.exit 2))
(.seq (.block 3 (.seq (.reg [ao 29 (.indexSl 1 (.t 25) (.t 27)),
ao 30 (.load false 1 (.t 29)),
mv 8 30])
(.reg [mv 31 6,
mv 32 8,
ao 33 (.append 1 8 none (.t 31) (.t 32)),
mv 6 33])))
(.reg [ao 34 (.bin .add .no (.t 27) (.c (.int .i64 1))),
mv 27 34])))))))
(.seq (.reg [mv 35 6,
mv 2 35])
.ret)))))) }
def w170 : WF := { nt := 22, results := [(5, none)], code :=
(.seq (.reg [ao 5 (.mov (.c (.list [] true)))])
(.seq (.reg [mv 10 0,
mv 11 1,
ao 12 (.call 171 [(.t 10), (.t 11)]),
mv 9 12,
ao 13 (.extract 0 (.t 9)),
ao 14 (.extract 1 (.t 9)),
ao 15 (.extract 2 (.t 9)),
mv 6 13,
mv 7 14,
mv 8 15])
(.seq (.reg [mv 16 6,
mv 17 7,
mv 18 8,
mv 19 1,
ao 20 (.load false 1 (.t 2)),
ao 21 (.call 172 [(.t 16), (.t 17), (.t 18), (.t 19), (.t 20)]),
mv 5 21])
.ret))) }
def w171 : WF := { nt := 38, results := [(4, none), (5, none), (6, none)], code :=
(.seq (.reg [ao 4 (.mov (.c (.int .i64 0))),
ao 5 (.mov (.c (.int .i64 0))),
ao 6 (.mov (.c (.bool false)))])
(.seq (.seq (.reg [mv 9 1])
(.block 0 (.seq (.reg [ao 11 (.bin .eql .no (.t 9) (.c (.int .i64 0))),
mv 10 11])
(.cond (.t 10)
(.seq (.reg [ao 4 (.mov (.c (.int .i64 0))),
ao 5 (.mov (.c (.int .i64 0))),
ao 6 (.mov (.c (.bool false)))])
.ret)
(.seq (.reg [ao 13 (.bin .eql .no (.t 9) (.c (.int .i64 (-1)))),
mv 12 13])
(.cond (.t 12)
(.seq (.reg [mv 14 0,
ao 15 (.un .neg (.t 14)),
mv 4 15,
ao 5 (.mov (.c (.int .i64 0))),
ao 6 (.mov (.c (.bool true)))])
.ret)
.skip))))))
(.seq (.calm [mv 16 0,
mv 17 1,
⟨(some 18), .bin .quo .no (.t 16) (.t 17), none, [0, 1], false⟩,
mv 19 0,
mv 20 1,
⟨(some 21), .bin .rem .no (.t 19) (.t 20), none, [3, 4], false⟩,
⟨(some 7), .mov (.t 18), none, [2, 0, 1, 2], false⟩,
⟨(some 8), .mov (.t 21), none, [5, 6, 0, 1, 2, 3, 4, 5, 6], false⟩])
(.seq (.seq (.reg [mv 22 8,
ao 23 (.bin .neq .no (.t 22) (.c (.int .i64 0))),
mv 24 23,
ag 25 (.mov (.t 8)) 24 true,
ag 26 (.bin .lss .no (.t 25) (.c (.int .i64 0))) 24 true,
ag 27 (.mov (.t 1)) 24 true,
ag 28 (.bin .lss .no (.t 27) (.c (.int .i64 0))) 24 true,
ag 29 (.bin .neq .bool (.t 26) (.t 28)) 24 true,
ao 30 (.pick (.t 24) (.t 29) (.c (.bool false)))])
(.cond (.t 30)
(.reg [mv 31 7,
ao 32 (.bin .sub .no (.t 31) (.c (.int .i64 1))),
mv 33 8,
mv 34 1,
ao 35 (.bin .add .no (.t 33) (.t 34)),
mv 7 32,
mv 8 35])
.skip))
(.seq (.reg [mv 36 7,
mv 37 8,
mv 4 36,
mv 5 37,
ao 6 (.mov (.c (.bool true)))])
.ret))))) }
def w172 : WF := { nt := 20, results := [(10, none)], code :=
(.seq (.reg [ao 10 (.mov (.c (.list [] true)))])
(.seq (.reg [mv 11 3,
ao 12 (.bin .neq .no (.t 11) (.c (.int .i64 0))),
ao 13 (.call 34 [(.t 12), (.c (.int .i64 (-10)))])])
(.seq (.reg [mv 14 2,
ao 15 (.call 34 [(.t 14), (.c (.int .i64 (-11)))])])
(.seq (.reg [mv 16 4,
mv 17 0,
mv 18 1,
ao 19 (.callv (.t 16) [(.t 17), (.t 18)]),
mv 10 19])
.ret)))) }
def w173 : WF := { nt := 25, results := [(7, none)], code :=
(.seq (.reg [ao 7 (.mov (.c (.list [] true)))])
(.seq (.reg [mv 12 0,
mv 13 1,
mv 14 2,
ao 15 (.call 174 [(.t 12), (.t 13), (.t 14)]),
mv 11 15,
ao 16 (.extract 0 (.t 11)),
ao 17 (.extract 1 (.t 11)),
ao 18 (.extract 2 (.t 11)),
mv 8 16,
mv 9 17,
mv 10 18])
(.seq (.reg [mv 19 8,
mv 20 9,
mv 21 10,
mv 22 2,
ao 23 (.load false 1 (.t 3)),
ao 24 (.call 172 [(.t 19), (.t 20), (.t 21), (.t 22), (.t 23)]),
mv 7 24])
.ret))) }
def w174 : WF := { nt := 112, results := [(6, none), (7, none), (8, none)], code :=
(.seq (.reg [ao 6 (.mov (.c (.int .i64 0))),
ao 7 (.mov (.c (.int .i64 0))),
ao 8 (.mov (.c (.bool false)))])
(.seq (.reg [ao 9 (.alloc [(.int .u64 0), (.int .u64 0)])])
(.seq (.reg [mv 20 0,
ao 21 (.call 311 [(.t 20)]),
mv 22 1,
ao 23 (.call 311 [(.t 22)]),
ao 24 (.call 310 [(.t 21), (.t 23)]),
mv 19 24,
ao 25 (.extract 0 (.t 19)),
ao 26 (.extract 1 (.t 19)),
ao 27 (.indexPA 2 1 (.t 9) (.c (.int .i64 0))),
an (.store 1 (.t 27) (.t 25)),
ao 28 (.indexPA 2 1 (.t 9) (.c (.int .i64 1))),
an (.store 1 (.t 28) (.t 26))])
(.seq (.reg [mv 29 2,
ao 30 (.call 311 [(.t 29)]),
ao 10 (.alloc [(.int .u64 0)]),
an (.store 1 (.t 10) (.t 30))])
(.seq (.seq (.reg [mv 31 2,
ao 32 (.bin .eql .no (.t 31) (.c (.int .i64 0))),
mv 33 32,
ag 34 (.indexPA 2 1 (.t 9) (.c (.int .i64 0))) 33 false,
ag 35 (.load false 1 (.t 34)) 33 false,
ag 36 (.load false 1 (.t 10)) 33 false,
ag 37 (.bin .geq .no (.t 35) (.t 36)) 33 false,
ao 38 (.pick (.t 33) (.c (.bool true)) (.t 37))])
(.cond (.t 38)
(.seq (.reg [ao 6 (.mov (.c (.int .i64 0))),
ao 7 (.mov (.c (.int .i64 0))),
ao 8 (.mov (.c (.bool false)))])
.ret)
.skip))
(.seq (.reg [ao 40 (.indexPA 2 1 (.t 9) (.c (.int .i64 0))),
ao 41 (.load false 1 (.t 40)),
ao 42 (.indexPA 2 1 (.t 9) (.c (.int .i64 1))),
ao 43 (.load false 1 (.t 42)),
ao 44 (.load false 1 (.t 10)),
ao 45 (.call 312 [(.t 41), (.t 43), (.t 44)]),
mv 39 45,
ao 46 (.extract 0 (.t 39)),
ao 47 (.extract 1 (.t 39)),
ao 11 (.alloc [(.int .u64 0)]),
ao 12 (.alloc [(.int .u64 0)]),
an (.store 1 (.t 11) (.t 46)),
an (.store 1 (.t 12) (.t 47))])
(.seq (.reg [mv 48 0,
ao 49 (.bin .lss .no (.t 48) (.c (.int .i64 0))),
mv 50 1,
ao 51 (.bin .lss .no (.t 50) (.c (.int .i64 0))),
ao 52 (.bin .neq .bool (.t 49) (.t 51)),
mv 53 52,
ag 54 (.indexPA 2 1 (.t 9) (.c (.int .i64 0))) 53 true,
ag 55 (.load false 1 (.t 54)) 53 true,
ag 56 (.bin .neq .no (.t 55) (.c (.int .u64 0))) 53 true,
ag 57 (.mov (.t 56)) 53 true,
ag 58 (.indexPA 2 1 (.t 9) (.c (.int .i64 1))) 57 false,
ag 59 (.load false 1 (.t 58)) 57 false,
ag 60 (.bin .neq .no (.t 59) (.c (.int .u64 0))) 57 false,
ag 61 (.pick (.t 57) (.c (.bool true)) (.t 60)) 53 true,
ao 62 (.pick (.t 53) (.t 61) (.c (.bool false))),
mv 13 62])
(.seq (.reg [mv 63 13,
mv 64 2,
ao 65 (.bin .lss .no (.t 64) (.c (.int .i64 0))),
ao 66 (.bin .neq .bool (.t 63) (.t 65)),
mv 67 66,
ag 68 (.load false 1 (.t 11)) 67 true,
ag 69 (.bin .neq .no (.t 68) (.c (.int .u64 0))) 67 true,
ag 70 (.mov (.t 69)) 67 true,
ag 71 (.load false 1 (.t 12)) 70 false,
ag 72 (.bin .neq .no (.t 71) (.c (.int .u64 0))) 70 false,
ag 73 (.pick (.t 70) (.c (.bool true)) (.t 72)) 67 true,
ao 74 (.pick (.t 67) (.t 73) (.c (.bool false))),
ao 14 (.alloc [(.bool false)]),
an (.store 1 (.t 14) (.t 74))])
(.seq (.reg [ao 75 (.makeFunc (.func 313) [] [(.t 14), (.t 12), (.t 11), (.t 10)]),
mv 15 75])
(.seq (.reg [mv 77 15,
ao 78 (.callv (.t 77) []),
mv 76 78,
ao 79 (.extract 0 (.t 76)),
ao 80 (.extract 1 (.t 76)),
ao 81 (.extract 2 (.t 76)),
mv 16 79,
mv 17 80,
mv 18 81])
(.seq (.block 0 (.seq (.reg [mv 83 18,
ao 84 (.un .not (.t 83)),
mv 85 84,
ag 86 (.load false 1 (.t 14)) 85 false,
ag 87 (.mov (.t 86)) 85 false,
ag 88 (.mov (.t 16)) 87 true,
ag 89 (.bin .gtr .no (.t 88) (.c (.int .u64 9223372036854775808))) 87 true,
ag 90 (.pick (.t 87) (.t 89) (.c (.bool false))) 85 false,
ao 91 (.pick (.t 85) (.c (.bool true)) (.t 90)),
mv 92 91,
ag 93 (.load false 1 (.t 14)) 92 false,
ag 94 (.un .not (.t 93)) 92 false,
ag 95 (.mov (.t 94)) 92 false,
ag 96 (.mov (.t 16)) 95 true,
ag 97 (.bin .geq .no (.t 96) (.c (.int .u64 9223372036854775808))) 95 true,
ag 98 (.pick (.t 95) (.t 97) (.c (.bool false))) 92 false,
ao 99 (.pick (.t 92) (.c (.bool true)) (.t 98)),
mv 82 99])
(.cond (.t 82)
(.seq (.reg [ao 6 (.mov (.c (.int .i64 0))),
ao 7 (.mov (.c (.int .i64 0))),
ao 8 (.mov (.c (.bool false)))])
.ret)
(.seq (.reg [ao 101 (.load false 1 (.t 14)),
mv 100 101])
(.cond (.t 100)
(.reg [mv 102 16,
ao 103 (.un .neg (.t 102)),
mv 16 103])
.skip)))))
(.seq (.seq (.reg [mv 104 2,
ao 105 (.bin .lss .no (.t 104) (.c (.int .i64 0)))])
(.cond (.t 105)
(.reg [mv 106 17,
ao 107 (.un .neg (.t 106)),
mv 17 107])
.skip))
(.seq (.reg [mv 108 16,
ao 109 (.conv (.int .i64) (.t 108)),
mv 110 17,
ao 111 (.conv (.int .i64) (.t 110)),
mv 6 109,
mv 7 111,
ao 8 (.mov (.c (.bool true)))])
.ret))))))))))))) }
def w175 : WF := { nt := 6, results := [(2, none)], code :=
(.seq (.reg [ao 2 (.mov (.c (.float .f64 0)))])
(.seq (.reg [mv 3 0,
ao 4 (.conv (.int .u64) (.t 3)),
ao 5 (.call 184 [(.t 4)]),
mv 2 5])
.ret)) }
def w176 : WF := { nt := 3, results := [(0, none)], code :=
(.seq (.reg [ao 0 (.mov (.c .nilmap))])
(.seq (.reg [ao 1 (.mem .makeMap []),
an (.mem (.mapPut .int) [(.t 1), (.c (.int .u8 43)), (.c (.fn (.func 314) [] []))]),
an (.mem (.mapPut .int) [(.t 1), (.c (.int .u8 45)), (.c (.fn (.func 315) [] []))]),
an (.mem (.mapPut .int) [(.t 1), (.c (.int .u8 42)), (.c (.fn (.func 316) [] []))]),
an (.mem (.mapPut .int) [(.t 1), (.c (.int .u8 47)), (.c (.fn (.func 317) [] []))]),
an (.mem (.mapPut .int) [(.t 1), (.c (.int .u8 109)), (.c (.fn (.func 318) [] []))]),
an (.mem (.mapPut .int) [(.t 1), (.c (.int .u8 77)), (.c (.fn (.func 319) [] []))]),
mv 2 1,
mv 0 2])
.ret)) }
def w177 : WF := { nt := 8, results := [(2, none)], code :=
(.seq (.reg [ao 2 (.mov (.c (.int .i64 0)))])
(.seq (.seq (.reg [mv 3 0,
ao 4 (.call 320 [(.t 3)])])
(.cond (.t 4)
(.seq (.reg [ao 2 (.mov (.c (.int .i64 9221120237041090560)))])
.ret)
.skip))
(.seq (.reg [mv 5 0,
ao 6 (.call 321 [(.t 5)]),
ao 7 (.conv (.int .i64) (.t 6)),
mv 2 7])
.ret))) }
def w178 : WF := { nt := 5, results := [(2, none)], code :=
(.seq (.reg [ao 2 (.mov (.c (.float .f64 0)))])
(.seq (.reg [mv 3 0,
ao 4 (.un .neg (.t 3)),
mv 2 4])
.ret)) }
def w179 : WF := { nt := 7, results := [(2, none)], code :=
(.seq (.reg [ao 2 (.mov (.c (.float .f64 0)))])
(.seq (.reg [mv 3 0,
ao 4 (.call 321 [(.t 3)]),
ao 5 (.bin .andNot .no (.t 4) (.c (.int .u64 9223372036854775808))),
ao 6 (.call 184 [(.t 5)]),
mv 2 6])
.ret)) }
def w180 : WF := { nt := 5, results := [(2, none)], code :=
(.seq (.reg [ao 2 (.mov (.c (.float .f64 0)))])
(.seq (.reg [mv 3 0,
ao 4 (.call 322 [(.t 3)]),
mv 2 4])
.ret)) }
def w181 : WF := { nt := 7, results := [(2, none)], code :=
(.seq (.reg [ao 2 (.mov (.c (.float .f64 0)))])
(.seq (.cond (.c (.bool true))
(.seq (.reg [mv 3 0,
ao 4 (.call 323 [(.t 3)]),
mv 2 4])
.ret)
.skip)
(.seq (.reg [mv 5 0,
ao 6 (.call 324 [(.t 5)]),
mv 2 6])
.ret))) }
def w185 : WF := { nt := 7, results := [(2, none)], code :=
(.seq (.reg [ao 2 (.mov (.c (.float .f64 0)))])
(.seq (.cond (.c (.bool true))
(.seq (.reg [mv 3 0,
ao 4 (.call 328 [(.t 3)]),
mv 2 4])
.ret)
.skip)
(.seq (.reg [mv 5 0,
ao 6 (.call 329 [(.t 5)]),
mv 2 6])
.ret))) }
def w196 : WF := { nt := 18, results := [(4, none)], code :=
(.seq (.reg [ao 4 (.mov (.c (.bool false)))])
(.seq (.reg [mv 5 0,
ao 6 (.lenS (.t 5)),
mv 7 1,
ao 8 (.lenS (.t 7)),
ao 9 (.bin .geq .no (.t 6) (.t 8)),
mv 10 9,
ag 11 (.mov (.t 0)) 10 true,
ag 12 (.mov (.t 1)) 10 true,
ag 13 (.lenS (.t 12)) 10 true,
ag 14 (.slice .str (.t 11) none (some (.t 13)) none) 10 true,
ag 15 (.mov (.t 1)) 10 true,
ag 16 (.bin .eql .no (.t 14) (.t 15)) 10 true,
ao 17 (.pick (.t 10) (.t 16) (.c (.bool false))),
mv 4 17])
.ret)) }
def w308 : WF := { nt := 11, results := [(2, none)], code :=
(.seq (.reg [ao 2 (.mov (.c (.bool false)))])
(.seq (.reg [ao 3 (.load false 1 (.t 0)),
ao 4 (.bin .geq .no (.t 3) (.c (.int .i64 0))),
mv 5 4,
ag 6 (.load false 1 (.t 0)) 5 true,
ag 7 (.load false 1 (.t 1)) 5 true,
ag 8 (.len (.t 7)) 5 true,
ag 9 (.bin .lss .no (.t 6) (.t 8)) 5 true,
ao 10 (.pick (.t 5) (.t 9) (.c (.bool false))),
mv 2 10])
.ret)) }
def w309 : WF := { nt := 27, results := [(4, none)], code :=
(.seq (.reg [ao 4 (.mov (.c (.list [] true)))])
(.seq (.seq (.reg [mv 5 1,
ao 6 (.bin .lss .no (.t 5) (.c (.int .i64 0)))])
(.cond (.t 6)
(.reg [ao 7 (.makeIface 9 (.c (.str ⟨#[99, 97, 110, 110, 111, 116, 32, 98, 101, 32, 110, 101, 103, 97, 116, 105, 118, 101]⟩))),
an (.panic (.t 7))])
.skip))
(.seq (.seq (.reg [mv 8 1,
mv 9 0,
ao 10 (.cap (.t 9)),
mv 11 0,
ao 12 (.len (.t 11)),
ao 13 (.bin .sub .no (.t 10) (.t 12)),
ao 14 (.bin .sub .no (.t 8) (.t 13)),
mv 1 14])
(.seq (.reg [mv 15 1,
ao 16 (.bin .gtr .no (.t 15) (.c (.int .i64 0)))])
(.cond (.t 16)
(.reg [mv 17 0,
mv 18 0,
ao 19 (.cap (.t 18)),
ao 20 (.slice (.sl 1) (.t 17) none (some (.t 19)) none),
mv 21 1,
ao 22 (.append 1 8 (some [(.int .i64 0)]) (.t 20) (.t 21)),
mv 23 0,
ao 24 (.len (.t 23)),
ao 25 (.slice (.sl 1) (.t 22) none (some (.t 24)) none),
mv 0 25])
.skip)))
(.seq (.reg [mv 26 0,
mv 4 26])
.ret)))) }
def w310 : WF := { nt := 51, results := [(4, none), (5, none)], code :=
(.seq (.reg [ao 4 (.mov (.c (.int .u64 0))),
ao 5 (.mov (.c (.int .u64 0)))])
(.seq (.reg [mv 14 0,
ao 15 (.bin .and .no (.t 14) (.c (.int .u64 4294967295))),
mv 6 15])
(.seq (.reg [mv 16 0,
ao 17 (.bin .shr .no (.t 16) (.c (.int .u64 32))),
mv 7 17])
(.seq (.reg [mv 18 1,
ao 19 (.bin .and .no (.t 18) (.c (.int .u64 4294967295))),
mv 8 19])
(.seq (.reg [mv 20 1,
ao 21 (.bin .shr .no (.t 20) (.c (.int .u64 32))),
mv 9 21])
(.seq (.reg [mv 22 6,
mv 23 8,
ao 24 (.bin .mul .no (.t 22) (.t 23)),
mv 10 24])
(.seq (.reg [mv 25 7,
mv 26 8,
ao 27 (.bin .mul .no (.t 25) (.t 26)),
mv 28 10,
ao 29 (.bin .shr .no (.t 28) (.c (.int .u64 32))),
ao 30 (.bin .add .no (.t 27) (.t 29)),
mv 11 30])
(.seq (.reg [mv 31 11,
ao 32 (.bin .and .no (.t 31) (.c (.int .u64 4294967295))),
mv 12 32])
(.seq (.reg [mv 33 11,
ao 34 (.bin .shr .no (.t 33) (.c (.int .u64 32))),
mv 13 34])
(.seq (.reg [mv 35 12,
mv 36 6,
mv 37 9,
ao 38 (.bin .mul .no (.t 36) (.t 37)),
ao 39 (.bin .add .no (.t 35) (.t 38)),
mv 12 39])
(.seq (.reg [mv 40 7,
mv 41 9,
ao 42 (.bin .mul .no (.t 40) (.t 41)),
mv 43 13,
ao 44 (.bin .add .no (.t 42) (.t 43)),
mv 45 12,
ao 46 (.bin .shr .no (.t 45) (.c (.int .u64 32))),
ao 47 (.bin .add .no (.t 44) (.t 46)),
mv 4 47])
(.seq (.reg [mv 48 0,
mv 49 1,
ao 50 (.bin .mul .no (.t 48) (.t 49)),
mv 5 50])
.ret)))))))))))) }
def w311 : WF := { nt := 10, results := [(2, none)], code :=
(.seq (.reg [ao 2 (.mov (.c (.int .u64 0)))])
(.seq (.seq (.reg [mv 3 0,
ao 4 (.bin .lss .no (.t 3) (.c (.int .i64 0)))])
(.cond (.t 4)
(.seq (.reg [mv 5 0,
ao 6 (.conv (.int .u64) (.t 5)),
ao 7 (.un .neg (.t 6)),
mv 2 7])
.ret)
.skip))
(.seq (.reg [mv 8 0,
ao 9 (.conv (.int .u64) (.t 8)),
mv 2 9])
.ret))) }
def w312 : WF := { nt := 135, results := [(6, none), (7, none)], code :=
(.seq (.reg [ao 6 (.mov (.c (.int .u64 0))),
ao 7 (.mov (.c (.int .u64 0)))])
(.seq (.seq (.reg [mv 19 2,
ao 20 (.bin .eql .no (.t 19) (.c (.int .u64 0)))])
(.cond (.t 20)
(.reg [ao 21 (.load false 1 (.c .any)),
an (.panic (.t 21))])
.skip))
(.seq (.seq (.reg [mv 22 2,
mv 23 0,
ao 24 (.bin .leq .no (.t 22) (.t 23))])
(.cond (.t 24)
(.reg [ao 25 (.load false 1 (.c .any)),
an (.panic (.t 25))])
.skip))
(.seq (.seq (.reg [mv 26 0,
ao 27 (.bin .eql .no (.t 26) (.c (.int .u64 0)))])
(.cond (.t 27)
(.seq (.calm [mv 28 1,
mv 29 2,
⟨(some 30), .bin .quo .no (.t 28) (.t 29), none, [0, 1], false⟩,
mv 31 1,
mv 32 2,
⟨(some 33), .bin .rem .no (.t 31) (.t 32), none, [3, 4], false⟩,
⟨(some 6), .mov (.t 30), none, [2, 0, 1, 2], false⟩,
⟨(some 7), .mov (.t 33), none, [5, 6, 0, 1, 2, 3, 4, 5, 6], false⟩])
.ret)
.skip))
(.seq (.reg [mv 34 2,
ao 35 (.call 355 [(.t 34)]),
ao 36 (.conv (.int .u64) (.t 35)),
mv 8 36])
(.seq (.reg [mv 37 2,
mv 38 8,
ao 39 (.bin .shl .no (.t 37) (.t 38)),
mv 2 39])
(.seq (.reg [mv 40 2,
ao 41 (.bin .shr .no (.t 40) (.c (.int .u64 32))),
mv 9 41])
(.seq (.reg [mv 42 2,
ao 43 (.bin .and .no (.t 42) (.c (.int .u64 4294967295))),
mv 10 43])
(.seq (.reg [mv 44 0,
mv 45 8,
ao 46 (.bin .shl .no (.t 44) (.t 45)),
mv 47 1,
mv 48 8,
ao 49 (.bin .sub .no (.c (.int .u64 64)) (.t 48)),
ao 50 (.bin .shr .no (.t 47) (.t 49)),
ao 51 (.bin .or .no (.t 46) (.t 50)),
mv 11 51])
(.seq (.reg [mv 52 1,
mv 53 8,
ao 54 (.bin .shl .no (.t 52) (.t 53)),
mv 12 54])
(.seq (.reg [mv 55 12,
ao 56 (.bin .shr .no (.t 55) (.c (.int .u64 32))),
mv 13 56])
(.seq (.reg [mv 57 12,
ao 58 (.bin .and .no (.t 57) (.c (.int .u64 4294967295))),
mv 14 58])
(.seq (.reg [mv 59 11,
mv 60 9,
ao 61 (.bin .quo .no (.t 59) (.t 60)),
mv 15 61])
(.seq (.reg [mv 62 11,
mv 63 15,
mv 64 9,
ao 65 (.bin .mul .no (.t 63) (.t 64)),
ao 66 (.bin .sub .no (.t 62) (.t 65)),
mv 16 66])
(.seq (.block 0 (.loop (.seq (.seq (.reg [mv 67 15,
ao 68 (.bin .geq .no (.t 67) (.c (.int .u64 4294967296))),
mv 69 68,
ag 70 (.mov (.t 15)) 69 false,
ag 71 (.mov (.t 10)) 69 false,
ag 72 (.bin .mul .no (.t 70) (.t 71)) 69 false,
ag 73 (.mov (.t 16)) 69 false,
ag 74 (.bin .mul .no (.c (.int .u64 4294967296)) (.t 73)) 69 false,
ag 75 (.mov (.t 13)) 69 false,
ag 76 (.bin .add .no (.t 74) (.t 75)) 69 false,
ag 77 (.bin .gtr .no (.t 72) (.t 76)) 69 false,
ao 78 (.pick (.t 69) (.c (.bool true)) (.t 77))])
(.cond (.t 78)
.skip
(.exit 0)))
(.block 1 (.seq (.reg [mv 79 15,
ao 80 (.bin .sub .no (.t 79) (.c (.int .u64 1))),
mv 15 80])
(.seq (.reg [mv 81 16,
mv 82 9,
ao 83 (.bin .add .no (.t 81) (.t 82)),
mv 16 83])
(.seq (.reg [mv 84 16,
ao 85 (.bin .geq .no (.t 84) (.c (.int .u64 4294967296)))])
(.cond (.t 85)
(.exit 0)
.skip))))))))
(.seq (.reg [mv 86 11,
ao 87 (.bin .mul .no (.t 86) (.c (.int .u64 4294967296))),
mv 88 13,
ao 89 (.bin .add .no (.t 87) (.t 88)),
mv 90 15,
mv 91 2,
ao 92 (.bin .mul .no (.t 90) (.t 91)),
ao 93 (.bin .sub .no (.t 89) (.t 92)),
mv 17 93])
(.seq (.reg [mv 94 17,
mv 95 9,
ao 96 (.bin .quo .no (.t 94) (.t 95)),
mv 18 96])
(.seq (.reg [mv 97 17,
mv 98 18,
mv 99 9,
ao 100 (.bin .mul .no (.t 98) (.t 99)),
ao 101 (.bin .sub .no (.t 97) (.t 100)),
mv 16 101])
(.seq (.block 2 (.loop (.seq (.seq (.reg [mv 102 18,
ao 103 (.bin .geq .no (.t 102) (.c (.int .u64 4294967296))),
mv 104 103,
ag 105 (.mov (.t 18)) 104 false,
ag 106 (.mov (.t 10)) 104 false,
ag 107 (.bin .mul .no (.t 105) (.t 106)) 104 false,
ag 108 (.mov (.t 16)) 104 false,
ag 109 (.bin .mul .no (.c (.int .u64 4294967296)) (.t 108)) 104 false,
ag 110 (.mov (.t 14)) 104 false,
ag 111 (.bin .add .no (.t 109) (.t 110)) 104 false,
ag 112 (.bin .gtr .no (.t 107) (.t 111)) 104 false,
ao 113 (.pick (.t 104) (.c (.bool true)) (.t 112))])
(.cond (.t 113)
.skip
(.exit 2)))
(.block 3 (.seq (.reg [mv 114 18,
ao 115 (.bin .sub .no (.t 114) (.c (.int .u64 1))),
mv 18 115])
(.seq (.reg [mv 116 16,
mv 117 9,
ao 118 (.bin .add .no (.t 116) (.t 117)),
mv 16 118])
(.seq (.reg [mv 119 16,
ao 120 (.bin .geq .no (.t 119) (.c (.int .u64 4294967296)))])
(.cond (.t 120)
(.exit 2)
.skip))))))))
(.seq (.reg [mv 121 15,
ao 122 (.bin .mul .no (.t 121) (.c (.int .u64 4294967296))),
mv 123 18,
ao 124 (.bin .add .no (.t 122) (.t 123)),
mv 125 17,
ao 126 (.bin .mul .no (.t 125) (.c (.int .u64 4294967296))),
mv 127 14,
ao 128 (.bin .add .no (.t 126) (.t 127)),
mv 129 18,
mv 130 2,
ao 131 (.bin .mul .no (.t 129) (.t 130)),
ao 132 (.bin .sub .no (.t 128) (.t 131)),
mv 133 8,
ao 134 (.bin .shr .no (.t 132) (.t 133)),
mv 6 124,
mv 7 134])
.ret)))))))))))))))))))) }
def w313 : WF := { nt := 21, results := [(4, none), (5, none), (6, none)], code :=
(.seq (.reg [ao 4 (.mov (.c (.int .u64 0))),
ao 5 (.mov (.c (.int .u64 0))),
ao 6 (.mov (.c (.bool false)))])
(.seq (.seq (.reg [ao 7 (.load false 1 (.t 0)),
mv 8 7,
ag 9 (.load false 1 (.t 1)) 8 true,
ag 10 (.bin .neq .no (.t 9) (.c (.int .u64 0))) 8 true,
ao 11 (.pick (.t 8) (.t 10) (.c (.bool false)))])
(.cond (.t 11)
(.seq (.calm [ao 12 (.load false 1 (.t 2)),
⟨(some 13), .bin .add .no (.t 12) (.c (.int .u64 1)), none, [0], false⟩,
ao 14 (.load false 1 (.t 3)),
ao 15 (.load false 1 (.t 1)),
⟨(some 16), .bin .sub .no (.t 14) (.t 15), none, [2, 3], false⟩,
ao 17 (.load false 1 (.t 2)),
⟨(some 18), .bin .neq .no (.t 17) (.c (.int .u64 18446744073709551615)), none, [5], false⟩,
⟨(some 4), .mov (.t 13), none, [1, 0, 1], false⟩,
⟨(some 5), .mov (.t 16), none, [4, 7, 0, 1, 2, 3, 4, 7], false⟩,
⟨(some 6), .mov (.t 18), none, [6, 8, 0, 1, 2, 3, 4, 5, 6, 7, 8], false⟩])
.ret)
.skip))
(.seq (.calm [ao 19 (.load false 1 (.t 2)),
ao 20 (.load false 1 (.t 1)),
⟨(some 4), .mov (.t 19), none, [0, 0], false⟩,
⟨(some 5), .mov (.t 20), none, [1, 2, 0, 1, 2], false⟩,
⟨(some 6), .mov (.c (.bool true)), none, [3, 0, 1, 2, 3], false⟩])
.ret))) }
def w314 : WF := { nt := 8, results := [(4, none)], code :=
(.seq (.reg [ao 4 (.mov (.c (.float .f64 0)))])
(.seq (.reg [mv 5 0,
mv 6 1,
ao 7 (.bin .add .no (.t 5) (.t 6)),
mv 4 7])
.ret)) }
def w315 : WF := { nt := 8, results := [(4, none)], code :=
(.seq (.reg [ao 4 (.mov (.c (.float .f64 0)))])
(.seq (.reg [mv 5 0,
mv 6 1,
ao 7 (.bin .sub .no (.t 5) (.t 6)),
mv 4 7])
.ret)) }
def w316 : WF := { nt := 8, results := [(4, none)], code :=
(.seq (.reg [ao 4 (.mov (.c (.float .f64 0)))])
(.seq (.reg [mv 5 0,
mv 6 1,
ao 7 (.bin .mul .no (.t 5) (.t 6)),
mv 4 7])
.ret)) }
def w317 : WF := { nt := 8, results := [(4, none)], code :=
(.seq (.reg [ao 4 (.mov (.c (.float .f64 0)))])
(.seq (.reg [mv 5 0,
mv 6 1,
ao 7 (.bin .quo .no (.t 5) (.t 6)),
mv 4 7])
.ret)) }
def w318 : WF := { nt := 19, results := [(4, none)], code :=
(.seq (.reg [ao 4 (.mov (.c (.float .f64 0)))])
(.seq (.seq (.reg [mv 5 0,
mv 6 1,
ao 7 (.bin .lss .no (.t 5) (.t 6)),
mv 8 7,
ag 9 (.mov (.t 0)) 8 false,
ag 10 (.mov (.t 1)) 8 false,
ag 11 (.bin .eql .no (.t 9) (.t 10)) 8 false,
ag 12 (.mov (.t 11)) 8 false,
ag 13 (.mov (.t 0)) 12 true,
ag 14 (.call 356 [(.t 13)]) 12 true,
ag 15 (.pick (.t 12) (.t 14) (.c (.bool false))) 8 false,
ao 16 (.pick (.t 8) (.c (.bool true)) (.t 15))])
(.cond (.t 16)
(.seq (.reg [mv 17 0,
mv 4 17])
.ret)
.skip))
(.seq (.reg [mv 18 1,
mv 4 18])
.ret))) }
def w319 : WF := { nt := 11, results := [(4, none)], code :=
(.seq (.reg [ao 4 (.mov (.c (.float .f64 0)))])
(.seq (.reg [mv 5 0,
ao 6 (.un .neg (.t 5)),
mv 7 1,
ao 8 (.un .neg (.t 7)),
ao 9 (.call 318 [(.t 6), (.t 8)]),
ao 10 (.un .neg (.t 9)),
mv 4 10])
.ret)) }
def w320 : WF := { nt := 6, results := [(2, none)], code :=
(.seq (.reg [ao 2 (.mov (.c (.bool false)))])
(.seq (.reg [mv 3 0,
mv 4 0,
ao 5 (.bin .neq .no (.t 3) (.t 4)),
mv 2 5])
.ret)) }
def w324 : WF := { nt := 38, results := [(2, none)], code :=
(.seq (.reg [ao 2 (.mov (.c (.float .f64 0)))])
(.seq (.seq (.reg [mv 7 0,
ao 8 (.bin .eql .no (.t 7) (.c (.float .f64 0))),
mv 9 8,
ag 10 (.mov (.t 0)) 9 false,
ag 11 (.call 320 [(.t 10)]) 9 false,
ao 12 (.pick (.t 9) (.c (.bool true)) (.t 11)),
mv 13 12,
ag 14 (.mov (.t 0)) 13 false,
ag 15 (.call 357 [(.t 14), (.c (.int .i64 0))]) 13 false,
ao 16 (.pick (.t 13) (.c (.bool true)) (.t 15))])
(.cond (.t 16)
(.seq (.reg [mv 17 0,
mv 2 17])
.ret)
.skip))
(.seq (.seq (.reg [mv 18 0,
ao 19 (.bin .lss .no (.t 18) (.c (.float .f64 0)))])
(.cond (.t 19)
(.seq (.reg [mv 21 0,
ao 22 (.un .neg (.t 21)),
ao 23 (.call 358 [(.t 22)]),
mv 20 23,
ao 24 (.extract 0 (.t 20)),
ao 25 (.extract 1 (.t 20)),
mv 3 24,
mv 4 25])
(.seq (.seq (.reg [mv 26 4,
ao 27 (.bin .neq .no (.t 26) (.c (.float .f64 0)))])
(.cond (.t 27)
(.reg [mv 28 3,
ao 29 (.bin .add .no (.t 28) (.c (.float .f64 4607182418800017408))),
mv 3 29])
.skip))
(.seq (.reg [mv 30 3,
ao 31 (.un .neg (.t 30)),
mv 2 31])
.ret)))
.skip))
(.seq (.reg [mv 33 0,
ao 34 (.call 358 [(.t 33)]),
mv 32 34,
ao 35 (.extract 0 (.t 32)),
ao 36 (.extract 1 (.t 32)),
mv 5 35,
mv 6 36])
(.seq (.reg [mv 37 5,
mv 2 37])
.ret))))) }
def w329 : WF := { nt := 26, results := [(2, none)], code :=
(.seq (.reg [ao 2 (.mov (.c (.float .f64 0)))])
(.seq (.seq (.reg [mv 5 0,
ao 6 (.call 179 [(.t 5)]),
ao 7 (.bin .lss .no (.t 6) (.c (.float .f64 4607182418800017408)))])
(.cond (.t 7)
(.seq (.reg [mv 8 0,
ao 9 (.call 359 [(.c (.float .f64 0)), (.t 8)]),
mv 2 9])
.ret)
.skip))
(.seq (.reg [mv 10 0,
ao 11 (.call 321 [(.t 10)]),
mv 3 11])
(.seq (.reg [mv 12 3,
ao 13 (.bin .shr .no (.t 12) (.c (.int .u64 52))),
ao 14 (.bin .and .no (.t 13) (.c (.int .u64 2047))),
ao 15 (.bin .sub .no (.t 14) (.c (.int .u64 1023))),
mv 4 15])
(.seq (.seq (.reg [mv 16 4,
ao 17 (.bin .lss .no (.t 16) (.c (.int .u64 52)))])
(.cond (.t 17)
(.reg [mv 18 3,
mv 19 4,
ao 20 (.bin .sub .no (.c (.int .u64 52)) (.t 19)),
ao 21 (.bin .shl .no (.c (.int .u64 1)) (.t 20)),
ao 22 (.bin .sub .no (.t 21) (.c (.int .u64 1))),
ao 23 (.bin .andNot .no (.t 18) (.t 22)),
mv 3 23])
.skip))
(.seq (.reg [mv 24 3,
ao 25 (.call 184 [(.t 24)]),
mv 2 25])
.ret)))))) }
def w355 : WF := { nt := 6, results := [(2, none)], code :=
(.seq (.reg [ao 2 (.mov (.c (.int .i64 0)))])
(.seq (.reg [mv 3 0,
ao 4 (.call 372 [(.t 3)]),
ao 5 (.bin .sub .no (.c (.int .i64 64)) (.t 4)),
mv 2 5])
.ret)) }
def w356 : WF := { nt := 7, results := [(2, none)], code :=
(.seq (.reg [ao 2 (.mov (.c (.bool false)))])
(.seq (.reg [mv 3 0,
ao 4 (.call 321 [(.t 3)]),
ao 5 (.conv (.int .i64) (.t 4)),
ao 6 (.bin .lss .no (.t 5) (.c (.int .i64 0))),
mv 2 6])
.ret)) }
def w357 : WF := { nt := 15, results := [(4, none)], code :=
(.seq (.reg [ao 4 (.mov (.c (.bool false)))])
(.seq (.seq (.reg [mv 5 1,
ao 6 (.bin .eql .no (.t 5) (.c (.int .i64 0)))])
(.cond (.t 6)
(.reg [mv 7 0,
ao 8 (.call 179 [(.t 7)]),
mv 0 8])
(.seq (.reg [mv 9 1,
ao 10 (.bin .lss .no (.t 9) (.c (.int .i64 0)))])
(.cond (.t 10)
(.reg [mv 11 0,
ao 12 (.un .neg (.t 11)),
mv 0 12])
.skip))))
(.seq (.reg [mv 13 0,
ao 14 (.bin .gtr .no (.t 13) (.c (.float .f64 9218868437227405311))),
mv 4 14])
.ret))) }
def w358 : WF := { nt := 11, results := [(2, none), (3, none)], code :=
(.seq (.reg [ao 2 (.mov (.c (.float .f64 0))),
ao 3 (.mov (.c (.float .f64 0)))])
(.seq (.reg [mv 4 0,
ao 5 (.call 185 [(.t 4)]),
mv 2 5])
(.seq (.reg [mv 6 0,
mv 7 2,
ao 8 (.bin .sub .no (.t 6) (.t 7)),
mv 9 0,
ao 10 (.call 359 [(.t 8), (.t 9)]),
mv 3 10])
.ret))) }
def w359 : WF := { nt := 13, results := [(4, none)], code :=
(.seq (.reg [ao 4 (.mov (.c (.float .f64 0)))])
(.seq (.reg [mv 5 0,
ao 6 (.call 321 [(.t 5)]),
ao 7 (.bin .andNot .no (.t 6) (.c (.int .u64 9223372036854775808))),
mv 8 1,
ao 9 (.call 321 [(.t 8)]),
ao 10 (.bin .and .no (.t 9) (.c (.int .u64 9223372036854775808))),
ao 11 (.bin .or .no (.t 7) (.t 10)),
ao 12 (.call 184 [(.t 11)]),
mv 4 12])
.ret)) }
def w372 : WF := { nt := 25, results := [(2, none)], code :=
(.seq (.reg [ao 2 (.mov (.c (.int .i64 0)))])
(.seq (.seq (.reg [mv 3 0,
ao 4 (.bin .geq .no (.t 3) (.c (.int .u64 4294967296)))])
(.cond (.t 4)
(.seq (.reg [mv 5 0,
ao 6 (.bin .shr .no (.t 5) (.c (.int .u64 32))),
mv 0 6])
(.reg [ao 2 (.mov (.c (.int .i64 32)))]))
.skip))
(.seq (.seq (.reg [mv 7 0,
ao 8 (.bin .geq .no (.t 7) (.c (.int .u64 65536)))])
(.cond (.t 8)
(.seq (.reg [mv 9 0,
ao 10 (.bin .shr .no (.t 9) (.c (.int .u64 16))),
mv 0 10])
(.reg [mv 11 2,
ao 12 (.bin .add .no (.t 11) (.c (.int .i64 16))),
mv 2 12]))
.skip))
(.seq (.seq (.reg [mv 13 0,
ao 14 (.bin .geq .no (.t 13) (.c (.int .u64 256)))])
(.cond (.t 14)
(.seq (.reg [mv 15 0,
ao 16 (.bin .shr .no (.t 15) (.c (.int .u64 8))),
mv 0 16])
(.reg [mv 17 2,
ao 18 (.bin .add .no (.t 17) (.c (.int .i64 8))),
mv 2 18]))
.skip))
(.seq (.reg [mv 19 2,
mv 20 0,
ao 21 (.conv (.int .u8) (.t 20)),
ao 22 (.indexStr (.c (.str ⟨#[0, 1, 2, 2, 3, 3, 3, 3, 4, 4, 4, 4, 4, 4, 4, 4, 5, 5, 5, 5, 5, 5, 5, 5, 5, 5, 5, 5, 5, 5, 5, 5, 6, 6, 6, 6, 6, 6, 6, 6, 6, 6, 6, 6, 6, 6, 6, 6, 6, 6, 6, 6, 6, 6, 6, 6, 6, 6, 6, 6, 6, 6, 6, 6, 7, 7, 7, 7, 7, 7, 7, 7, 7, 7, 7, 7, 7, 7, 7, 7, 7, 7, 7, 7, 7, 7, 7, 7, 7, 7, 7, 7, 7, 7, 7, 7, 7, 7, 7, 7, 7, 7, 7, 7, 7, 7, 7, 7, 7, 7, 7, 7, 7, 7, 7, 7, 7, 7, 7, 7, 7, 7, 7, 7, 7, 7, 7, 7, 8, 8, 8, 8, 8, 8, 8, 8, 8, 8, 8, 8, 8, 8, 8, 8, 8, 8, 8, 8, 8, 8, 8, 8, 8, 8, 8, 8, 8, 8, 8, 8, 8, 8, 8, 8, 8, 8, 8, 8, 8, 8, 8, 8, 8, 8, 8, 8, 8, 8, 8, 8, 8, 8, 8, 8, 8, 8, 8, 8, 8, 8, 8, 8, 8, 8, 8, 8, 8, 8, 8, 8, 8, 8, 8, 8, 8, 8, 8, 8, 8, 8, 8, 8, 8, 8, 8, 8, 8, 8, 8, 8, 8, 8, 8, 8, 8, 8, 8, 8, 8, 8, 8, 8, 8, 8, 8, 8, 8, 8, 8, 8, 8, 8, 8, 8, 8, 8, 8, 8, 8, 8, 8, 8, 8, 8, 8, 8]⟩)) (.t 21)),
ao 23 (.conv (.int .i64) (.t 22)),
ao 24 (.bin .add .no (.t 19) (.t 23)),
mv 2 24])
.ret))))) }
def tab : List (Nat × AFun) := [(4, w4.toA), (7, w7.toA), (13, w13.toA), (14, w14.toA), (16, w16.toA), (17, w17.toA), (21, w21.toA), (22, w22.toA), (28, w28.toA), (29, w29.toA), (30, w30.toA), (31, w31.toA), (32, w32.toA), (33, w33.toA), (34, w34.toA), (39, w39.toA), (40, w40.toA), (42, w42.toA), (54, w54.toA), (55, w55.toA), (56, w56.toA), (57, w57.toA), (58, w58.toA), (59, w59.toA), (60, w60.toA), (61, w61.toA), (62, w62.toA), (63, w63.toA), (64, w64.toA), (65, w65.toA), (66, w66.toA), (67, w67.toA), (68, w68.toA), (69, w69.toA), (70, w70.toA), (71, w71.toA), (72, w72.toA), (73, w73.toA), (74, w74.toA), (75, w75.toA), (76, w76.toA), (77, w77.toA), (78, w78.toA), (79, w79.toA), (80, w80.toA), (81, w81.toA), (82, w82.toA), (83, w83.toA), (84, w84.toA), (85, w85.toA), (86, w86.toA), (87, w87.toA), (88, w88.toA), (89, w89.toA), (90, w90.toA), (91, w91.toA), (92, w92.toA), (93, w93.toA), (94, w94.toA), (95, w95.toA), (96, w96.toA), (97, w97.toA), (98, w98.toA), (99, w99.toA), (100, w100.toA), (101, w101.toA), (102, w102.toA), (103, w103.toA), (104, w104.toA), (105, w105.toA), (106, w106.toA), (107, w107.toA), (108, w108.toA), (109, w109.toA), (110, w110.toA), (111, w111.toA), (112, w112.toA), (113, w113.toA), (114, w114.toA), (115, w115.toA), (116, w116.toA), (117, w117.toA), (118, w118.toA), (119, w119.toA), (120, w120.toA), (121, w121.toA), (122, w122.toA), (123, w123.toA), (124, w124.toA), (125, w125.toA), (126, w126.toA), (127, w127.toA), (128, w128.toA), (129, w129.toA), (130, w130.toA), (131, w131.toA), (132, w132.toA), (133, w133.toA), (143, w143.toA), (147, w147.toA), (162, w162.toA), (163, w163.toA), (164, w164.toA), (165, w165.toA), (166, w166.toA), (167, w167.toA), (168, w168.toA), (169, w169.toA), (170, w170.toA), (171, w171.toA), (172, w172.toA), (173, w173.toA), (174, w174.toA), (175, w175.toA), (176, w176.toA), (177, w177.toA), (178, w178.toA), (179, w179.toA), (180, w180.toA), (181, w181.toA), (185, w185.toA), (196, w196.toA), (308, w308.toA), (309, w309.toA), (310, w310.toA), (311, w311.toA), (312, w312.toA), (313, w313.toA), (314, w314.toA), (315, w315.toA), (316, w316.toA), (317, w317.toA), (318, w318.toA), (319, w319.toA), (320, w320.toA), (324, w324.toA), (329, w329.toA), (355, w355.toA), (356, w356.toA), (357, w357.toA), (358, w358.toA), (359, w359.toA), (372, w372.toA)]
def okT (x : Nat × AFun) : Prop := cFun Tryz.prog x.1 = some x.2.erase
theorem okT_c {a : Nat × AFun} {l : List (Nat × AFun)} (h : okT a) (hl : ∀ x ∈ l, okT x) : ∀ x ∈ a :: l, okT x := List.forall_mem_cons.2 ⟨h, hl⟩
theorem okT_n : ∀ x ∈ ([] : List (Nat × AFun)), okT x := fun _ h => by cases h
theorem kc4 : okT (4, w4.toA) := by
  show cFun Tryz.prog 4 = some w4.toA.erase
  kernel_rfl
theorem kc7 : okT (7, w7.toA) := by
  show cFun Tryz.prog 7 = some w7.toA.erase
  kernel_rfl
theorem kc13 : okT (13, w13.toA) := by
  show cFun Tryz.prog 13 = some w13.toA.erase
  kernel_rfl
theorem kc14 : okT (14, w14.toA) := by
  show cFun Tryz.prog 14 = some w14.toA.erase
  kernel_rfl
theorem kc16 : okT (16, w16.toA) := by
  show cFun Tryz.prog 16 = some w16.toA.erase
  kernel_rfl
theorem kc17 : okT (17, w17.toA) := by
  show cFun Tryz.prog 17 = some w17.toA.erase
  kernel_rfl
theorem kc21 : okT (21, w21.toA) := by
  show cFun Tryz.prog 21 = some w21.toA.erase
  kernel_rfl
theorem kc22 : okT (22, w22.toA) := by
  show cFun Tryz.prog 22 = some w22.toA.erase
  kernel_rfl
theorem kc28 : okT (28, w28.toA) := by
  show cFun Tryz.prog 28 = some w28.toA.erase
  kernel_rfl
theorem kc29 : okT (29, w29.toA) := by
  show cFun Tryz.prog 29 = some w29.toA.erase
  kernel_rfl
theorem kc30 : okT (30, w30.toA) := by
  show cFun Tryz.prog 30 = some w30.toA.erase
  kernel_rfl
theorem kc31 : okT (31, w31.toA) := by
  show cFun Tryz.prog 31 = some w31.toA.erase
  kernel_rfl
theorem kc32 : okT (32, w32.toA) := by
  show cFun Tryz.prog 32 = some w32.toA.erase
  kernel_rfl
theorem kc33 : okT (33, w33.toA) := by
  show cFun Tryz.prog 33 = some w33.toA.erase
  kernel_rfl
theorem kc34 : okT (34, w34.toA) := by
  show cFun Tryz.prog 34 = some w34.toA.erase
  kernel_rfl
theorem kc39 : okT (39, w39.toA) := by
  show cFun Tryz.prog 39 = some w39.toA.erase
  kernel_rfl
theorem kc40 : okT (40, w40.toA) := by
  show cFun Tryz.prog 40 = some w40.toA.erase
  kernel_rfl
theorem kc42 : okT (42, w42.toA) := by
  show cFun Tryz.prog 42 = some w42.toA.erase
  kernel_rfl
theorem kc54 : okT (54, w54.toA) := by
  show cFun Tryz.prog 54 = some w54.toA.erase
  kernel_rfl
theorem kc55 : okT (55, w55.toA) := by
  show cFun Tryz.prog 55 = some w55.toA.erase
  kernel_rfl
theorem kc56 : okT (56, w56.toA) := by
  show cFun Tryz.prog 56 = some w56.toA.erase
  kernel_rfl
theorem kc57 : okT (57, w57.toA) := by
  show cFun Tryz.prog 57 = some w57.toA.erase
  kernel_rfl
theorem kc58 : okT (58, w58.toA) := by
  show cFun Tryz.prog 58 = some w58.toA.erase
  kernel_rfl
theorem kc59 : okT (59, w59.toA) := by
  show cFun Tryz.prog 59 = some w59.toA.erase
  kernel_rfl
theorem kc60 : okT (60, w60.toA) := by
  show cFun Tryz.prog 60 = some w60.toA.erase
  kernel_rfl
theorem kc61 : okT (61, w61.toA) := by
  show cFun Tryz.prog 61 = some w61.toA.erase
  kernel_rfl
theorem kc62 : okT (62, w62.toA) := by
  show cFun Tryz.prog 62 = some w62.toA.erase
  kernel_rfl
theorem kc63 : okT (63, w63.toA) := by
  show cFun Tryz.prog 63 = some w63.toA.erase
  kernel_rfl
theorem kc64 : okT (64, w64.toA) := by
  show cFun Tryz.prog 64 = some w64.toA.erase
  kernel_rfl
theorem kc65 : okT (65, w65.toA) := by
  show cFun Tryz.prog 65 = some w65.toA.erase
  kernel_rfl
theorem kc66 : okT (66, w66.toA) := by
  show cFun Tryz.prog 66 = some w66.toA.erase
  kernel_rfl
theorem kc67 : okT (67, w67.toA) := by
  show cFun Tryz.prog 67 = some w67.toA.erase
  kernel_rfl
theorem kc68 : okT (68, w68.toA) := by
  show cFun Tryz.prog 68 = some w68.toA.erase
  kernel_rfl
theorem kc69 : okT (69, w69.toA) := by
  show cFun Tryz.prog 69 = some w69.toA.erase
  kernel_rfl
theorem kc70 : okT (70, w70.toA) := by
  show cFun Tryz.prog 70 = some w70.toA.erase
  kernel_rfl
theorem kc71 : okT (71, w71.toA) := by
  show cFun Tryz.prog 71 = some w71.toA.erase
  kernel_rfl
theorem kc72 : okT (72, w72.toA) := by
  show cFun Tryz.prog 72 = some w72.toA.erase
  kernel_rfl
theorem kc73 : okT (73, w73.toA) := by
  show cFun Tryz.prog 73 = some w73.toA.erase
  kernel_rfl
theorem kc74 : okT (74, w74.toA) := by
  show cFun Tryz.prog 74 = some w74.toA.erase
  kernel_rfl
theorem kc75 : okT (75, w75.toA) := by
  show cFun Tryz.prog 75 = some w75.toA.erase
  kernel_rfl
theorem kc76 : okT (76, w76.toA) := by
  show cFun Tryz.prog 76 = some w76.toA.erase
  kernel_rfl
theorem kc77 : okT (77, w77.toA) := by
  show cFun Tryz.prog 77 = some w77.toA.erase
  kernel_rfl
theorem kc78 : okT (78, w78.toA) := by
  show cFun Tryz.prog 78 = some w78.toA.erase
  kernel_rfl
theorem kc79 : okT (79, w79.toA) := by
  show cFun Tryz.prog 79 = some w79.toA.erase
  kernel_rfl
theorem kc80 : okT (80, w80.toA) := by
  show cFun Tryz.prog 80 = some w80.toA.erase
  kernel_rfl
theorem kc81 : okT (81, w81.toA) := by
  show cFun Tryz.prog 81 = some w81.toA.erase
  kernel_rfl
theorem kc82 : okT (82, w82.toA) := by
  show cFun Tryz.prog 82 = some w82.toA.erase
  kernel_rfl
theorem kc83 : okT (83, w83.toA) := by
  show cFun Tryz.prog 83 = some w83.toA.erase
  kernel_rfl
theorem kc84 : okT (84, w84.toA) := by
  show cFun Tryz.prog 84 = some w84.toA.erase
  kernel_rfl
theorem kc85 : okT (85, w85.toA) := by
  show cFun Tryz.prog 85 = some w85.toA.erase
  kernel_rfl
theorem kc86 : okT (86, w86.toA) := by
  show cFun Tryz.prog 86 = some w86.toA.erase
  kernel_rfl
theorem kc87 : okT (87, w87.toA) := by
  show cFun Tryz.prog 87 = some w87.toA.erase
  kernel_rfl
theorem kc88 : okT (88, w88.toA) := by
  show cFun Tryz.prog 88 = some w88.toA.erase
  kernel_rfl
theorem kc89 : okT (89, w89.toA) := by
  show cFun Tryz.prog 89 = some w89.toA.erase
  kernel_rfl
theorem kc90 : okT (90, w90.toA) := by
  show cFun Tryz.prog 90 = some w90.toA.erase
  kernel_rfl
theorem kc91 : okT (91, w91.toA) := by
  show cFun Tryz.prog 91 = some w91.toA.erase
  kernel_rfl
theorem kc92 : okT (92, w92.toA) := by
  show cFun Tryz.prog 92 = some w92.toA.erase
  kernel_rfl
theorem kc93 : okT (93, w93.toA) := by
  show cFun Tryz.prog 93 = some w93.toA.erase
  kernel_rfl
theorem kc94 : okT (94, w94.toA) := by
  show cFun Tryz.prog 94 = some w94.toA.erase
  kernel_rfl
theorem kc95 : okT (95, w95.toA) := by
  show cFun Tryz.prog 95 = some w95.toA.erase
  kernel_rfl
theorem kc96 : okT (96, w96.toA) := by
  show cFun Tryz.prog 96 = some w96.toA.erase
  kernel_rfl
theorem kc97 : okT (97, w97.toA) := by
  show cFun Tryz.prog 97 = some w97.toA.erase
  kernel_rfl
theorem kc98 : okT (98, w98.toA) := by
  show cFun Tryz.prog 98 = some w98.toA.erase
  kernel_rfl
theorem kc99 : okT (99, w99.toA) := by
  show cFun Tryz.prog 99 = some w99.toA.erase
  kernel_rfl
theorem kc100 : okT (100, w100.toA) := by
  show cFun Tryz.prog 100 = some w100.toA.erase
  kernel_rfl
theorem kc101 : okT (101, w101.toA) := by
  show cFun Tryz.prog 101 = some w101.toA.erase
  kernel_rfl
theorem kc102 : okT (102, w102.toA) := by
  show cFun Tryz.prog 102 = some w102.toA.erase
  kernel_rfl
theorem kc103 : okT (103, w103.toA) := by
  show cFun Tryz.prog 103 = some w103.toA.erase
  kernel_rfl
theorem kc104 : okT (104, w104.toA) := by
  show cFun Tryz.prog 104 = some w104.toA.erase
  kernel_rfl
theorem kc105 : okT (105, w105.toA) := by
  show cFun Tryz.prog 105 = some w105.toA.erase
  kernel_rfl
theorem kc106 : okT (106, w106.toA) := by
  show cFun Tryz.prog 106 = some w106.toA.erase
  kernel_rfl
theorem kc107 : okT (107, w107.toA) := by
  show cFun Tryz.prog 107 = some w107.toA.erase
  kernel_rfl
theorem kc108 : okT (108, w108.toA) := by
  show cFun Tryz.prog 108 = some w108.toA.erase
  kernel_rfl
theorem kc109 : okT (109, w109.toA) := by
  show cFun Tryz.prog 109 = some w109.toA.erase
  kernel_rfl
theorem kc110 : okT (110, w110.toA) := by
  show cFun Tryz.prog 110 = some w110.toA.erase
  kernel_rfl
theorem kc111 : okT (111, w111.toA) := by
  show cFun Tryz.prog 111 = some w111.toA.erase
  kernel_rfl
theorem kc112 : okT (112, w112.toA) := by
  show cFun Tryz.prog 112 = some w112.toA.erase
  kernel_rfl
theorem kc113 : okT (113, w113.toA) := by
  show cFun Tryz.prog 113 = some w113.toA.erase
  kernel_rfl
theorem kc114 : okT (114, w114.toA) := by
  show cFun Tryz.prog 114 = some w114.toA.erase
  kernel_rfl
theorem kc115 : okT (115, w115.toA) := by
  show cFun Tryz.prog 115 = some w115.toA.erase
  kernel_rfl
theorem kc116 : okT (116, w116.toA) := by
  show cFun Tryz.prog 116 = some w116.toA.erase
  kernel_rfl
theorem kc117 : okT (117, w117.toA) := by
  show cFun Tryz.prog 117 = some w117.toA.erase
  kernel_rfl
theorem kc118 : okT (118, w118.toA) := by
  show cFun Tryz.prog 118 = some w118.toA.erase
  kernel_rfl
theorem kc119 : okT (119, w119.toA) := by
  show cFun Tryz.prog 119 = some w119.toA.erase
  kernel_rfl
theorem kc120 : okT (120, w120.toA) := by
  show cFun Tryz.prog 120 = some w120.toA.erase
  kernel_rfl
theorem kc121 : okT (121, w121.toA) := by
  show cFun Tryz.prog 121 = some w121.toA.erase
  kernel_rfl
theorem kc122 : okT (122, w122.toA) := by
  show cFun Tryz.prog 122 = some w122.toA.erase
  kernel_rfl
theorem kc123 : okT (123, w123.toA) := by
  show cFun Tryz.prog 123 = some w123.toA.erase
  kernel_rfl
theorem kc124 : okT (124, w124.toA) := by
  show cFun Tryz.prog 124 = some w124.toA.erase
  kernel_rfl
theorem kc125 : okT (125, w125.toA) := by
  show cFun Tryz.prog 125 = some w125.toA.erase
  kernel_rfl
theorem kc126 : okT (126, w126.toA) := by
  show cFun Tryz.prog 126 = some w126.toA.erase
  kernel_rfl
theorem kc127 : okT (127, w127.toA) := by
  show cFun Tryz.prog 127 = some w127.toA.erase
  kernel_rfl
theorem kc128 : okT (128, w128.toA) := by
  show cFun Tryz.prog 128 = some w128.toA.erase
  kernel_rfl
theorem kc129 : okT (129, w129.toA) := by
  show cFun Tryz.prog 129 = some w129.toA.erase
  kernel_rfl
theorem kc130 : okT (130, w130.toA) := by
  show cFun Tryz.prog 130 = some w130.toA.erase
  kernel_rfl
theorem kc131 : okT (131, w131.toA) := by
  show cFun Tryz.prog 131 = some w131.toA.erase
  kernel_rfl
theorem kc132 : okT (132, w132.toA) := by
  show cFun Tryz.prog 132 = some w132.toA.erase
  kernel_rfl
theorem kc133 : okT (133, w133.toA) := by
  show cFun Tryz.prog 133 = some w133.toA.erase
  kernel_rfl
theorem kc143 : okT (143, w143.toA) := by
  show cFun Tryz.prog 143 = some w143.toA.erase
  kernel_rfl
theorem kc147 : okT (147, w147.toA) := by
  show cFun Tryz.prog 147 = some w147.toA.erase
  kernel_rfl
theorem kc162 : okT (162, w162.toA) := by
  show cFun Tryz.prog 162 = some w162.toA.erase
  kernel_rfl
theorem kc163 : okT (163, w163.toA) := by
  show cFun Tryz.prog 163 = some w163.toA.erase
  kernel_rfl
theorem kc164 : okT (164, w164.toA) := by
  show cFun Tryz.prog 164 = some w164.toA.erase
  kernel_rfl
theorem kc165 : okT (165, w165.toA) := by
  show cFun Tryz.prog 165 = some w165.toA.erase
  kernel_rfl
theorem kc166 : okT (166, w166.toA) := by
  show cFun Tryz.prog 166 = some w166.toA.erase
  kernel_rfl
theorem kc167 : okT (167, w167.toA) := by
  show cFun Tryz.prog 167 = some w167.toA.erase
  kernel_rfl
theorem kc168 : okT (168, w168.toA) := by
  show cFun Tryz.prog 168 = some w168.toA.erase
  kernel_rfl
theorem kc169 : okT (169, w169.toA) := by
  show cFun Tryz.prog 169 = some w169.toA.erase
  kernel_rfl
theorem kc170 : okT (170, w170.toA) := by
  show cFun Tryz.prog 170 = some w170.toA.erase
  kernel_rfl
theorem kc171 : okT (171, w171.toA) := by
  show cFun Tryz.prog 171 = some w171.toA.erase
  kernel_rfl
theorem kc172 : okT (172, w172.toA) := by
  show cFun Tryz.prog 172 = some w172.toA.erase
  kernel_rfl
theorem kc173 : okT (173, w173.toA) := by
  show cFun Tryz.prog 173 = some w173.toA.erase
  kernel_rfl
theorem kc174 : okT (174, w174.toA) := by
  show cFun Tryz.prog 174 = some w174.toA.erase
  kernel_rfl
theorem kc175 : okT (175, w175.toA) := by
  show cFun Tryz.prog 175 = some w175.toA.erase
  kernel_rfl
theorem kc176 : okT (176, w176.toA) := by
  show cFun Tryz.prog 176 = some w176.toA.erase
  kernel_rfl
theorem kc177 : okT (177, w177.toA) := by
  show cFun Tryz.prog 177 = some w177.toA.erase
  kernel_rfl
theorem kc178 : okT (178, w178.toA) := by
  show cFun Tryz.prog 178 = some w178.toA.erase
  kernel_rfl
theorem kc179 : okT (179, w179.toA) := by
  show cFun Tryz.prog 179 = some w179.toA.erase
  kernel_rfl
theorem kc180 : okT (180, w180.toA) := by
  show cFun Tryz.prog 180 = some w180.toA.erase
  kernel_rfl
theorem kc181 : okT (181, w181.toA) := by
  show cFun Tryz.prog 181 = some w181.toA.erase
  kernel_rfl
theorem kc185 : okT (185, w185.toA) := by
  show cFun Tryz.prog 185 = some w185.toA.erase
  kernel_rfl
theorem kc196 : okT (196, w196.toA) := by
  show cFun Tryz.prog 196 = some w196.toA.erase
  kernel_rfl
theorem kc308 : okT (308, w308.toA) := by
  show cFun Tryz.prog 308 = some w308.toA.erase
  kernel_rfl
theorem kc309 : okT (309, w309.toA) := by
  show cFun Tryz.prog 309 = some w309.toA.erase
  kernel_rfl
theorem kc310 : okT (310, w310.toA) := by
  show cFun Tryz.prog 310 = some w310.toA.erase
  kernel_rfl
theorem kc311 : okT (311, w311.toA) := by
  show cFun Tryz.prog 311 = some w311.toA.erase
  kernel_rfl
theorem kc312 : okT (312, w312.toA) := by
  show cFun Tryz.prog 312 = some w312.toA.erase
  kernel_rfl
theorem kc313 : okT (313, w313.toA) := by
  show cFun Tryz.prog 313 = some w313.toA.erase
  kernel_rfl
theorem kc314 : okT (314, w314.toA) := by
  show cFun Tryz.prog 314 = some w314.toA.erase
  kernel_rfl
theorem kc315 : okT (315, w315.toA) := by
  show cFun Tryz.prog 315 = some w315.toA.erase
  kernel_rfl
theorem kc316 : okT (316, w316.toA) := by
  show cFun Tryz.prog 316 = some w316.toA.erase
  kernel_rfl
theorem kc317 : okT (317, w317.toA) := by
  show cFun Tryz.prog 317 = some w317.toA.erase
  kernel_rfl
theorem kc318 : okT (318, w318.toA) := by
  show cFun Tryz.prog 318 = some w318.toA.erase
  kernel_rfl
theorem kc319 : okT (319, w319.toA) := by
  show cFun Tryz.prog 319 = some w319.toA.erase
  kernel_rfl
theorem kc320 : okT (320, w320.toA) := by
  show cFun Tryz.prog 320 = some w320.toA.erase
  kernel_rfl
theorem kc324 : okT (324, w324.toA) := by
  show cFun Tryz.prog 324 = some w324.toA.erase
  kernel_rfl
theorem kc329 : okT (329, w329.toA) := by
  show cFun Tryz.prog 329 = some w329.toA.erase
  kernel_rfl
theorem kc355 : okT (355, w355.toA) := by
  show cFun Tryz.prog 355 = some w355.toA.erase
  kernel_rfl
theorem kc356 : okT (356, w356.toA) := by
  show cFun Tryz.prog 356 = some w356.toA.erase
  kernel_rfl
theorem kc357 : okT (357, w357.toA) := by
  show cFun Tryz.prog 357 = some w357.toA.erase
  kernel_rfl
theorem kc358 : okT (358, w358.toA) := by
  show cFun Tryz.prog 358 = some w358.toA.erase
  kernel_rfl
theorem kc359 : okT (359, w359.toA) := by
  show cFun Tryz.prog 359 = some w359.toA.erase
  kernel_rfl
theorem kc372 : okT (372, w372.toA) := by
  show cFun Tryz.prog 372 = some w372.toA.erase
  kernel_rfl
theorem tab_ok : ∀ x ∈ tab, cFun Tryz.prog x.1 = some x.2.erase :=
  okT_c kc4 <| okT_c kc7 <| okT_c kc13 <| okT_c kc14 <| okT_c kc16 <| okT_c kc17 <| okT_c kc21 <| okT_c kc22 <| okT_c kc28 <| okT_c kc29 <| okT_c kc30 <| okT_c kc31 <| okT_c kc32 <| okT_c kc33 <| okT_c kc34 <| okT_c kc39 <| okT_c kc40 <| okT_c kc42 <| okT_c kc54 <| okT_c kc55 <| okT_c kc56 <| okT_c kc57 <| okT_c kc58 <| okT_c kc59 <| okT_c kc60 <| okT_c kc61 <| okT_c kc62 <| okT_c kc63 <| okT_c kc64 <| okT_c kc65 <| okT_c kc66 <| okT_c kc67 <| okT_c kc68 <| okT_c kc69 <| okT_c kc70 <| okT_c kc71 <| okT_c kc72 <| okT_c kc73 <| okT_c kc74 <| okT_c kc75 <| okT_c kc76 <| okT_c kc77 <| okT_c kc78 <| okT_c kc79 <| okT_c kc80 <| okT_c kc81 <| okT_c kc82 <| okT_c kc83 <| okT_c kc84 <| okT_c kc85 <| okT_c kc86 <| okT_c kc87 <| okT_c kc88 <| okT_c kc89 <| okT_c kc90 <| okT_c kc91 <| okT_c kc92 <| okT_c kc93 <| okT_c kc94 <| okT_c kc95 <| okT_c kc96 <| okT_c kc97 <| okT_c kc98 <| okT_c kc99 <| okT_c kc100 <| okT_c kc101 <| okT_c kc102 <| okT_c kc103 <| okT_c kc104 <| okT_c kc105 <| okT_c kc106 <| okT_c kc107 <| okT_c kc108 <| okT_c kc109 <| okT_c kc110 <| okT_c kc111 <| okT_c kc112 <| okT_c kc113 <| okT_c kc114 <| okT_c kc115 <| okT_c kc116 <| okT_c kc117 <| okT_c kc118 <| okT_c kc119 <| okT_c kc120 <| okT_c kc121 <| okT_c kc122 <| okT_c kc123 <| okT_c kc124 <| okT_c kc125 <| okT_c kc126 <| okT_c kc127 <| okT_c kc128 <| okT_c kc129 <| okT_c kc130 <| okT_c kc131 <| okT_c kc132 <| okT_c kc133 <| okT_c kc143 <| okT_c kc147 <| okT_c kc162 <| okT_c kc163 <| okT_c kc164 <| okT_c kc165 <| okT_c kc166 <| okT_c kc167 <| okT_c kc168 <| okT_c kc169 <| okT_c kc170 <| okT_c kc171 <| okT_c kc172 <| okT_c kc173 <| okT_c kc174 <| okT_c kc175 <| okT_c kc176 <| okT_c kc177 <| okT_c kc178 <| okT_c kc179 <| okT_c kc180 <| okT_c kc181 <| okT_c kc185 <| okT_c kc196 <| okT_c kc308 <| okT_c kc309 <| okT_c kc310 <| okT_c kc311 <| okT_c kc312 <| okT_c kc313 <| okT_c kc314 <| okT_c kc315 <| okT_c kc316 <| okT_c kc317 <| okT_c kc318 <| okT_c kc319 <| okT_c kc320 <| okT_c kc324 <| okT_c kc329 <| okT_c kc355 <| okT_c kc356 <| okT_c kc357 <| okT_c kc358 <| okT_c kc359 <| okT_c kc372 <| okT_n
theorem k4 : okW w4.code = true := by kernel_rfl
theorem k7 : okW w7.code = true := by kernel_rfl
theorem k16 : okW w16.code = true := by kernel_rfl
theorem k17 : okW w17.code = true := by kernel_rfl
theorem k22 : okW w22.code = true := by kernel_rfl
theorem k28 : okW w28.code = true := by kernel_rfl
theorem k33 : okW w33.code = true := by kernel_rfl
theorem k34 : okW w34.code = true := by kernel_rfl
theorem k39 : okW w39.code = true := by kernel_rfl
theorem k55 : okW w55.code = true := by kernel_rfl
theorem k56 : okW w56.code = true := by kernel_rfl
theorem k57 : okW w57.code = true := by kernel_rfl
theorem k59 : okW w59.code = true := by kernel_rfl
theorem k60 : okW w60.code = true := by kernel_rfl
theorem k62 : okW w62.code = true := by kernel_rfl
theorem k65 : okW w65.code = true := by kernel_rfl
theorem k66 : okW w66.code = true := by kernel_rfl
theorem k68 : okW w68.code = true := by kernel_rfl
theorem k69 : okW w69.code = true := by kernel_rfl
theorem k70 : okW w70.code = true := by kernel_rfl
theorem k71 : okW w71.code = true := by kernel_rfl
theorem k72 : okW w72.code = true := by kernel_rfl
theorem k73 : okW w73.code = true := by kernel_rfl
theorem k74 : okW w74.code = true := by kernel_rfl
theorem k75 : okW w75.code = true := by kernel_rfl
theorem k76 : okW w76.code = true := by kernel_rfl
theorem k77 : okW w77.code = true := by kernel_rfl
theorem k78 : okW w78.code = true := by kernel_rfl
theorem k79 : okW w79.code = true := by kernel_rfl
theorem k80 : okW w80.code = true := by kernel_rfl
theorem k81 : okW w81.code = true := by kernel_rfl
theorem k82 : okW w82.code = true := by kernel_rfl
theorem k85 : okW w85.code = true := by kernel_rfl
theorem k86 : okW w86.code = true := by kernel_rfl
theorem k87 : okW w87.code = true := by kernel_rfl
theorem k93 : okW w93.code = true := by kernel_rfl
theorem k94 : okW w94.code = true := by kernel_rfl
theorem k95 : okW w95.code = true := by kernel_rfl
theorem k96 : okW w96.code = true := by kernel_rfl
theorem k97 : okW w97.code = true := by kernel_rfl
theorem k98 : okW w98.code = true := by kernel_rfl
theorem k99 : okW w99.code = true := by kernel_rfl
theorem k100 : okW w100.code = true := by kernel_rfl
theorem k101 : okW w101.code = true := by kernel_rfl
theorem k102 : okW w102.code = true := by kernel_rfl
theorem k103 : okW w103.code = true := by kernel_rfl
theorem k104 : okW w104.code = true := by kernel_rfl
theorem k107 : okW w107.code = true := by kernel_rfl
theorem k108 : okW w108.code = true := by kernel_rfl
theorem k109 : okW w109.code = true := by kernel_rfl
theorem k110 : okW w110.code = true := by kernel_rfl
theorem k111 : okW w111.code = true := by kernel_rfl
theorem k112 : okW w112.code = true := by kernel_rfl
theorem k113 : okW w113.code = true := by kernel_rfl
theorem k114 : okW w114.code = true := by kernel_rfl
theorem k115 : okW w115.code = true := by kernel_rfl
theorem k116 : okW w116.code = true := by kernel_rfl
theorem k117 : okW w117.code = true := by kernel_rfl
theorem k118 : okW w118.code = true := by kernel_rfl
theorem k119 : okW w119.code = true := by kernel_rfl
theorem k120 : okW w120.code = true := by kernel_rfl
theorem k121 : okW w121.code = true := by kernel_rfl
theorem k122 : okW w122.code = true := by kernel_rfl
theorem k123 : okW w123.code = true := by kernel_rfl
theorem k125 : okW w125.code = true := by kernel_rfl
theorem k126 : okW w126.code = true := by kernel_rfl
theorem k128 : okW w128.code = true := by kernel_rfl
theorem k129 : okW w129.code = true := by kernel_rfl
theorem k130 : okW w130.code = true := by kernel_rfl
theorem k131 : okW w131.code = true := by kernel_rfl
theorem k132 : okW w132.code = true := by kernel_rfl
theorem k133 : okW w133.code = true := by kernel_rfl
theorem k143 : okW w143.code = true := by kernel_rfl
theorem k164 : okW w164.code = true := by kernel_rfl
theorem k167 : okW w167.code = true := by kernel_rfl
theorem k168 : okW w168.code = true := by kernel_rfl
theorem k169 : okW w169.code = true := by kernel_rfl
theorem k170 : okW w170.code = true := by kernel_rfl
theorem k171 : okW w171.code = true := by kernel_rfl
theorem k172 : okW w172.code = true := by kernel_rfl
theorem k173 : okW w173.code = true := by kernel_rfl
theorem k175 : okW w175.code = true := by kernel_rfl
theorem k177 : okW w177.code = true := by kernel_rfl
theorem k178 : okW w178.code = true := by kernel_rfl
theorem k179 : okW w179.code = true := by kernel_rfl
theorem k180 : okW w180.code = true := by kernel_rfl
theorem k181 : okW w181.code = true := by kernel_rfl
theorem k308 : okW w308.code = true := by kernel_rfl
theorem k309 : okW w309.code = true := by kernel_rfl
theorem k311 : okW w311.code = true := by kernel_rfl
theorem k312 : okW w312.code = true := by kernel_rfl
theorem k313 : okW w313.code = true := by kernel_rfl
theorem k314 : okW w314.code = true := by kernel_rfl
theorem k315 : okW w315.code = true := by kernel_rfl
theorem k316 : okW w316.code = true := by kernel_rfl
theorem k317 : okW w317.code = true := by kernel_rfl
theorem k318 : okW w318.code = true := by kernel_rfl
theorem k319 : okW w319.code = true := by kernel_rfl
theorem k320 : okW w320.code = true := by kernel_rfl
theorem k355 : okW w355.code = true := by kernel_rfl
theorem k356 : okW w356.code = true := by kernel_rfl
theorem k372 : okW w372.code = true := by kernel_rfl
def bods (k : Nat) : Option ABody := none
theorem bods_ok (k : Nat) (ab : ABody) (h : bods k = some ab) : hasR ab.assign = false ∧ hasR ab.body = false := by
  unfold bods at h
  cases h
def lk : List (Nat × AFun) → FuncId → Option AFun
  | [], _ => none
  | (i, a) :: r, f => if f = i then some a else lk r f
theorem lk_mem : ∀ (t : List (Nat × AFun)) (f : FuncId) (a : AFun), lk t f = some a → (f, a) ∈ t
  | [], _, _, h => by cases h
  | (i, b) :: r, f, a, h => by
    unfold lk at h
    split at h
    · rename_i e; cases h; subst e; exact List.mem_cons_self ..
    · exact List.mem_cons_of_mem _ (lk_mem r f a h)
end Fz.D
set_option maxRecDepth 100000
namespace Fz.D
open Go Go.Proofs
def isInl (f : FuncId) : Bool := f == 33 || f == 34 || f == 47 || f == 48 || f == 71 || f == 72 || f == 74 || f == 75 || f == 76 || f == 78 || f == 79 || f == 80 || f == 125 || f == 128 || f == 132 || f == 143 || f == 157 || f == 158 || f == 159 || f == 160 || f == 162 || f == 163 || f == 164 || f == 165 || f == 166 || f == 170 || f == 172 || f == 173 || f == 251 || f == 252 || f == 254 || f == 255 || f == 256 || f == 257 || f == 258 || f == 259 || f == 260 || f == 262 || f == 263 || f == 270 || f == 273 || f == 274 || f == 278 || f == 289 || f == 290 || f == 291 || f == 292 || f == 295 || f == 296 || f == 304 || f == 308 || f == 309 || f == 313 || f == 338 || f == 339 || f == 340 || f == 354 || f == 363
def prim0 (f : FuncId) : Option (List V → List Ob → Option (V × List Ob)) := if f = 41 then some (liftP foldP) else if f = 378 then some (liftP idxP) else if f = 321 then some (liftP (primV .fbits)) else if f = 184 then some (liftP (primV .ffrom)) else if f = 322 then some (liftP (primV .sqrt)) else if f = 323 then some (liftP (primV (.integral .down))) else if f = 328 then some (liftP (primV (.integral .zero))) else none
def p0 : AP := { fn := lk tab, prim := prim0, inl := isInl, body := bods }
@[simp] theorem inl_eq0 (f : FuncId) : p0.inlY f = (f == 4000000000 || isInl f) := (rfl)
end Fz.D
set_option maxRecDepth 100000
namespace Fz.D
open Go Go.Proofs
theorem asc_all : ∀ b : Fin 256, asciiN[b.val]? = some (if isSp (UInt8.ofNat b.val) then 1 else 0) := by decide +kernel
theorem asc (b : UInt8) : asciiN[b.toNat]? = some (if isSp b then 1 else 0) := by
  have := asc_all ⟨b.toNat, b.toNat_lt⟩
  simpa using this
theorem asc_len : asciiN.length = 256 := by kernel_rfl
theorem asc1 (b : UInt8) : List.take 1 (List.drop b.toNat (asciiN.map (V.int .u8))) = [V.int .u8 (if isSp b then 1 else 0)] := by
  have h := asc b
  obtain ⟨h1, h2⟩ := List.getElem?_eq_some_iff.1 h
  rw [← List.map_drop, List.drop_eq_getElem_cons h1, h2]
  rfl
@[simp] theorem glA_pr (P : Nat → Nat → Prop) (R : List V → Prop) : wPR glA P R = R (asciiN.map (V.int .u8)) := (rfl)
theorem asc_ok (b : UInt8) : ((b.toNat : Int) < 256 ∧ b.toNat ≤ 256) ∧ 1 ≤ 256 - b.toNat := by
  have := b.toNat_lt
  omega
theorem u8_or (b : Int) (c : UInt8) (h0 : 0 ≤ b) (h1 : b < 128) (hc : c.toNat < 128) : 0 ≤ IntKind.u8.wrap ((((b % 2 ^ IntKind.u8.bits).toNat ||| c.toNat % 2 ^ IntKind.u8.bits) : Nat) : Int) ∧ IntKind.u8.wrap ((((b % 2 ^ IntKind.u8.bits).toNat ||| c.toNat % 2 ^ IntKind.u8.bits) : Nat) : Int) < 128 := by
  have e1 : (b % 2 ^ IntKind.u8.bits).toNat = b.toNat := by show (b % 256).toNat = _; omega
  have e2 : c.toNat % 2 ^ IntKind.u8.bits = c.toNat := by show c.toNat % 256 = _; omega
  have h2 : b.toNat ||| c.toNat < 2 ^ 7 := Nat.or_lt_two_pow (by omega) (by omega)
  rw [e1, e2]
  have : IntKind.u8.wrap ((b.toNat ||| c.toNat : Nat) : Int) = ((b.toNat ||| c.toNat : Nat) : Int) := by
    show ((b.toNat ||| c.toNat : Nat) : Int) % 256 = _
    omega
  rw [this]
  omega
theorem cntF_le : ∀ (l : List UInt8) (w : Bool), cntF l w ≤ l.length
  | [], _ => Nat.le_refl _
  | c :: r, w => by
    have := cntF_le r (isSp c)
    rw [cntF, List.length_cons]
    split <;> omega
theorem ext_list (l : List UInt8) (a b : Nat) : (ByteArray.mk l.toArray).extract a b = ⟨((l.drop a).take (b - a)).toArray⟩ := by
  apply ByteArray.ext
  rw [ByteArray.data_extract]
  simp
def wV (w : List UInt8) : V := .str ⟨w.toArray⟩
abbrev emp : V := .str ⟨#[]⟩
theorem tk_snoc {l : List UInt8} {fs i : Nat} (h1 : fs ≤ i) (h2 : i < l.length) : (l.drop fs).take (i + 1 - fs) = (l.drop fs).take (i - fs) ++ [l[i]] := by
  rw [show i + 1 - fs = i - fs + 1 from by omega, List.take_add_one]
  congr 1
  rw [List.getElem?_drop, show fs + (i - fs) = i from by omega, List.getElem?_eq_getElem h2]
  rfl
theorem words_no {c : UInt8} {r p : List UInt8} (h : isSp c = false) : wordsF (c :: r) p = wordsF r (p ++ [c]) := by
  rw [wordsF, if_neg (by rw [h]; exact Bool.false_ne_true)]
theorem words_sp {c : UInt8} {r p : List UInt8} (h : isSp c = true) (hp : p ≠ []) : wordsF (c :: r) p = p :: wordsF r [] := by
  cases p with
  | nil => exact absurd rfl hp
  | cons a p => rw [wordsF, if_pos h]; rfl
theorem fields_s {l : List UInt8} {n : Nat} (ha : ∀ c ∈ l, c.toNat < 128) (hs : l.length ≤ 100000) (hn : (wordsF l []).length = n) (hc : cntF l true = n) (hp : 0 < n) {Q : CR → List Ob → Prop}
    (hq : Q (.ret (.own 0 0 n 1)) [.live ((wordsF l []).map wV)]) : WFun p0 143 [.str ⟨l.toArray⟩] [] Q := by
  have hnl : n ≤ 100000 := by have := cntF_le l true; omega
  have hsz : (ByteArray.mk l.toArray).size = l.length := by simp [ByteArray.size]
  refine WFun_of w143 rfl rfl k143 ?_
  simp -dsimp [w143]
  refine xL_by (by kernel_rfl) (fun k e H => ∃ (i m : Nat) (w : Bool) (b : Int), i ≤ l.length ∧ k = l.length - i ∧ e 0 = .str ⟨l.toArray⟩ ∧ e 3 = .int .i64 m ∧ e 4 = .int .i64 (if w then 1 else 0) ∧ e 5 = .int .u8 b ∧ e 6 = .int .i64 i ∧ H = [] ∧ 0 ≤ b ∧ b < 128 ∧ m + cntF (l.drop i) w = n) l.length ?_ ?_
  · refine ⟨0, 0, true, 0, by omega, rfl, ?_⟩
    simp -dsimp [hc]
  · rintro k e H ⟨i, m, w, b, hi, hk, h0, h3, h4, h5, h6, rfl, hb0, hb1, hm⟩
    by_cases c1 : i < l.length
    · have hq1 := asc_ok l[i]
      have hq2 := asc1 l[i]
      have hor := u8_or b l[i] hb0 hb1 (ha _ (List.getElem_mem c1))
      generalize hd : IntKind.u8.wrap ((((b % 2 ^ IntKind.u8.bits).toNat ||| (l[i]).toNat % 2 ^ IntKind.u8.bits) : Nat) : Int) = d at hor
      rw [List.drop_eq_getElem_cons c1, cntF] at hm
      cases hsp : isSp l[i] <;> cases w <;> (rw [hsp] at hm hq2) <;> simp only [Bool.not_false, Bool.not_true, Bool.and_true, Bool.and_false, Bool.true_and, Bool.false_and, if_true, if_false, Bool.false_eq_true] at hm
      · simp -dsimp [h0, h3, h4, h5, h6, c1, hsz, asc_len, hq1, hq2, hsp]
        refine ⟨l.length - (i + 1), by omega, i + 1, m, false, d, by omega, rfl, ?_⟩
        simp -dsimp [h0, h3, h4, h5, h6, hd, hor]
        refine ⟨?_, rfl, Fz.w64 (by omega) (by omega), by omega⟩
        exact (Fz.w64 (by omega) (by omega) : IntKind.i64.wrap ((m : Int) + 0) = (m : Int) + 0).trans (by omega)
      · simp -dsimp [h0, h3, h4, h5, h6, c1, hsz, asc_len, hq1, hq2, hsp]
        refine ⟨l.length - (i + 1), by omega, i + 1, m + 1, false, d, by omega, rfl, ?_⟩
        simp -dsimp [h0, h3, h4, h5, h6, hd, hor]
        refine ⟨?_, rfl, Fz.w64 (by omega) (by omega), by omega⟩
        exact (Fz.w64 (by omega) (by omega) : IntKind.i64.wrap ((m : Int) + 1) = (m : Int) + 1)
      · simp -dsimp [h0, h3, h4, h5, h6, c1, hsz, asc_len, hq1, hq2, hsp]
        refine ⟨l.length - (i + 1), by omega, i + 1, m, true, d, by omega, rfl, ?_⟩
        simp -dsimp [h0, h3, h4, h5, h6, hd, hor]
        refine ⟨?_, rfl, Fz.w64 (by omega) (by omega), by omega⟩
        exact (Fz.w64 (by omega) (by omega) : IntKind.i64.wrap ((m : Int) + 0) = (m : Int) + 0).trans (by omega)
      · simp -dsimp [h0, h3, h4, h5, h6, c1, hsz, asc_len, hq1, hq2, hsp]
        refine ⟨l.length - (i + 1), by omega, i + 1, m, true, d, by omega, rfl, ?_⟩
        simp -dsimp [h0, h3, h4, h5, h6, hd, hor]
        refine ⟨?_, rfl, Fz.w64 (by omega) (by omega), by omega⟩
        exact (Fz.w64 (by omega) (by omega) : IntKind.i64.wrap ((m : Int) + 0) = (m : Int) + 0).trans (by omega)
    · have hii : i = l.length := by omega
      subst hii
      rw [List.drop_length, cntF, Nat.add_zero] at hm
      subst hm
      have c2 : ¬ (128 : Int) ≤ b := by omega
      simp -dsimp [h0, h3, h4, h5, h6, c1, hsz, c2]
      have hm0 : ¬ m = 0 := by omega
      refine ⟨by omega, ?_⟩
      rw [if_neg hm0]
      refine xL_by (by kernel_rfl) (fun k e H => ∃ (j : Nat), j ≤ l.length ∧ k = l.length - j ∧ e 0 = .str ⟨l.toArray⟩ ∧ e 9 = .own 0 0 m 1 ∧ e 10 = .int .i64 0 ∧ e 12 = .int .i64 j ∧ H = [.live (List.replicate m (.str ⟨#[]⟩))] ∧ wordsF (l.drop j) [] = wordsF l [] ∧ cntF (l.drop j) true = m) l.length ?_ ?_
      · refine ⟨0, by omega, rfl, ?_⟩
        simp -dsimp [h0, h3, hc]
      · rintro k e H ⟨j, hj, hk, h0, h9, h10, h12, rfl, hw, hcj⟩
        by_cases c3 : j < l.length
        · have hq1 := asc_ok l[j]
          have hq2 := asc1 l[j]
          cases hsp : isSp l[j]
          · rw [hsp] at hq2
            simp -dsimp [h0, h9, h10, h12, c3, hsz, asc_len, hq1, hq2, hsp]
            refine xL_by (by kernel_rfl) (fun k e H => ∃ (i fs : Nat) (acc : List (List UInt8)), fs ≤ i ∧ i ≤ l.length ∧ k = l.length - i ∧ e 0 = .str ⟨l.toArray⟩ ∧ e 9 = .own 0 0 m 1 ∧ e 10 = .int .i64 acc.length ∧ e 11 = .int .i64 fs ∧ e 12 = .int .i64 i ∧ H = [.live (acc.map wV ++ List.replicate (m - acc.length) emp)] ∧
              acc ++ wordsF (l.drop i) ((l.drop fs).take (i - fs)) = wordsF l [] ∧ acc.length + (if fs < i then 1 else 0) + cntF (l.drop i) (decide (fs = i)) = m ∧ (∀ h : i < l.length, fs = i → isSp l[i] = false)) (l.length - j) ?_ ?_
            · refine ⟨j, j, [], by omega, by omega, rfl, ?_⟩
              simp -dsimp [h0, h9, h10, h12, hw, hcj, hsp]
            rintro k e H ⟨i, fs, acc, hfi, hi, hk, h0, h9, h10, h11, h12, rfl, hw, hci, hst⟩
            by_cases c4 : i < l.length
            · have hq1 := asc_ok l[i]
              have hq2 := asc1 l[i]
              have hst := hst c4
              have hsub := List.drop_eq_getElem_cons c4
              cases hsp : isSp l[i]
              · rw [hsp] at hq2
                simp -dsimp [h0, h9, h10, h11, h12, c4, hsz, asc_len, hq1, hq2, hsp]
                refine ⟨l.length - (i + 1), by omega, i + 1, fs, acc, by omega, by omega, rfl, ?_⟩
                simp -dsimp [h0, h9, h10, h11, h12]
                rw [hsub, words_no hsp] at hw
                rw [hsub, cntF, hsp] at hci
                refine ⟨Fz.w64 (by omega) (by omega), by rw [tk_snoc hfi c4]; exact hw, ?_, by omega⟩
                rw [if_pos (by omega), decide_eq_false (by omega)]
                by_cases c5 : fs = i
                · rw [if_neg (by omega), decide_eq_true c5] at hci
                  simp at hci; omega
                · rw [if_pos (by omega), decide_eq_false c5] at hci
                  simp at hci; omega
              · rw [hsp] at hq2
                have hlt : fs < i := by
                  rcases Nat.lt_or_ge fs i with h | h
                  · exact h
                  · have := hst (by omega); rw [hsp] at this; cases this
                have hpne : (l.drop fs).take (i - fs) ≠ [] := by
                  intro h
                  have := congrArg List.length h
                  simp at this; omega
                rw [hsub, words_sp hsp hpne] at hw
                rw [hsub, cntF, hsp, if_pos hlt] at hci
                simp at hci
                have hac : acc.length < m := by omega
                have hrep : List.replicate (m - acc.length) emp = emp :: List.replicate (m - (acc.length + 1)) emp := by
                  rw [show m - acc.length = m - (acc.length + 1) + 1 from by omega]; rfl
                have w1 : IntKind.i64.wrap ((acc.length : Int) + 1) = (acc.length : Int) + 1 := Fz.w64 (by omega) (by omega)
                have w2 : IntKind.i64.wrap ((i : Int) + 1) = (i : Int) + 1 := Fz.w64 (by omega) (by omega)
                simp -dsimp [h0, h9, h10, h11, h12, c4, hsz, asc_len, hq1, hq2, hsp, w1, w2]
                refine ⟨⟨hfi, hi⟩, hac, by omega, ?_⟩
                refine xL_by (by kernel_rfl) (fun k e H => ∃ (q : Nat), i + 1 ≤ q ∧ q ≤ l.length ∧ k = l.length - q ∧ e 0 = .str ⟨l.toArray⟩ ∧ e 9 = .own 0 0 m 1 ∧ e 10 = .int .i64 ((acc.length : Int) + 1) ∧ e 12 = .int .i64 q ∧ H = [.live ((acc ++ [(l.drop fs).take (i - fs)]).map wV ++ List.replicate (m - (acc.length + 1)) emp)] ∧ wordsF (l.drop q) [] = wordsF (l.drop (i + 1)) [] ∧ cntF (l.drop q) true = cntF (l.drop (i + 1)) true) (l.length - (i + 1)) ?_ ?_
                · refine ⟨i + 1, by omega, by omega, rfl, ?_⟩
                  have hdrop : List.drop (acc.length + 1) (List.map wV acc ++ List.replicate (m - acc.length) emp) = List.replicate (m - (acc.length + 1)) emp := by
                    rw [List.drop_append, List.length_map, List.drop_eq_nil_of_le (by simp), List.nil_append, List.drop_replicate]
                    congr 1; omega
                  simp -dsimp [h0, h9, h10, h11, h12]
                  exact ⟨by rw [ext_list]; rfl, hdrop⟩
                rintro k e H ⟨q, hq, hql, hk, h0, h9, h10, h12, rfl, hwq, hcq⟩
                by_cases c6 : q < l.length
                · have hq1 := asc_ok l[q]
                  have hq2 := asc1 l[q]
                  cases hsp2 : isSp l[q]
                  · rw [hsp2] at hq2
                    simp -dsimp [h0, h9, h10, h12, c6, hsz, asc_len, hq1, hq2, hsp2]
                    refine ⟨l.length - q, by omega, q, q, acc ++ [(l.drop fs).take (i - fs)], by omega, by omega, rfl, ?_⟩
                    simp -dsimp [h0, h9, h10, h12]
                    refine ⟨?_, ?_, ?_⟩
                    · rw [hwq]; exact hw
                    · rw [hcq]; omega
                    · intro _; exact hsp2
                  · rw [hsp2] at hq2
                    rw [List.drop_eq_getElem_cons c6, cntF, hsp2] at hcq
                    rw [List.drop_eq_getElem_cons c6, wordsF, hsp2] at hwq
                    simp -dsimp [h0, h9, h10, h12, c6, hsz, asc_len, hq1, hq2, hsp2]
                    refine ⟨l.length - (q + 1), by omega, q + 1, by omega, by omega, rfl, ?_⟩
                    simp -dsimp [h0, h9, h10, h12]
                    refine ⟨Fz.w64 (by omega) (by omega), by simpa using hwq, by simpa using hcq⟩
                · simp -dsimp [h0, h9, h10, h12, c6, hsz]
                  refine ⟨l.length - q, by omega, q, q, acc ++ [(l.drop fs).take (i - fs)], by omega, by omega, rfl, ?_⟩
                  simp -dsimp [h0, h9, h10, h12]
                  refine ⟨?_, ?_, ?_⟩
                  · rw [hwq]; exact hw
                  · rw [hcq]; omega
                  · intro h; omega
            · have hii : i = l.length := by omega
              subst hii
              by_cases c5 : fs < l.length
              · rw [if_pos c5, List.drop_length, cntF] at hci
                have hpne : (l.drop fs).take (l.length - fs) ≠ [] := by
                  intro h
                  have := congrArg List.length h
                  simp at this; omega
                have hwe : wordsF [] ((l.drop fs).take (l.length - fs)) = [(l.drop fs).take (l.length - fs)] := by
                  cases hx : (l.drop fs).take (l.length - fs) with
                  | nil => exact absurd hx hpne
                  | cons a r => rfl
                rw [List.drop_length, hwe] at hw
                simp -dsimp [h0, h9, h10, h11, h12, c5, hsz]
                refine ⟨hfi, by omega, by omega, ?_⟩
                have hdrop : List.drop (acc.length + 1) (List.map wV acc ++ List.replicate (m - acc.length) emp) = [] := by
                  apply List.drop_eq_nil_of_le
                  simp; omega
                rw [hdrop, ext_list, show V.str ⟨((l.drop fs).take (l.length - fs)).toArray⟩ = wV ((l.drop fs).take (l.length - fs)) from rfl]
                rw [← hw] at hq
                simpa using hq
              · have hfe : fs = l.length := by omega
                subst hfe
                rw [if_neg (by omega), List.drop_length, cntF] at hci
                simp -dsimp [h0, h9, h10, h11, h12, c5, hsz]
                rw [List.drop_length] at hw
                rw [show m - acc.length = 0 from by omega]
                have hw' : acc = wordsF l [] := by simpa [wordsF] using hw
                rw [hw']
                simpa using hq
          · rw [hsp] at hq2
            rw [List.drop_eq_getElem_cons c3, cntF, hsp] at hcj
            rw [List.drop_eq_getElem_cons c3, wordsF, hsp] at hw
            simp -dsimp [h0, h9, h10, h12, c3, hsz, asc_len, hq1, hq2, hsp]
            refine ⟨l.length - (j + 1), by omega, j + 1, by omega, rfl, ?_⟩
            simp -dsimp [h0, h9, h10, h12]
            exact ⟨Fz.w64 (by omega) (by omega), by simpa using hw, by simpa using hcj⟩
        · obtain rfl : j = l.length := by omega
          rw [List.drop_length, cntF] at hcj
          omega
end Fz.D
set_option maxRecDepth 100000
namespace Fz.D
open Go Go.Proofs
def allB : List UInt8 := [69, 88, 73, 84, 32, 40, 76, 73, 84, 41, 32, 40, 66, 82, 65, 78, 67, 72, 41, 32, 40, 48, 66, 82, 65, 78, 67, 72, 41, 32, 40, 68, 79, 41, 32, 40, 76, 79, 79, 80, 41, 32, 40, 43, 76, 79, 79, 80, 41, 32, 40, 86, 65, 82, 41, 32, 40, 68, 79, 69, 83, 41, 32, 40, 84, 69, 88, 84, 41, 32, 40, 77, 65, 82, 75, 41, 32, 67, 79, 77, 80, 73, 76, 69, 44, 32, 68, 85, 80, 32, 68, 82, 79, 80, 32, 83, 87, 65, 80, 32, 79, 86, 69, 82, 32, 82, 79, 84, 32, 78, 73, 80, 32, 84, 85, 67, 75, 32, 63, 68, 85, 80, 32, 50, 68, 85, 80, 32, 50, 68, 82, 79, 80, 32, 50, 83, 87, 65, 80, 32, 50, 79, 86, 69, 82, 32, 80, 73, 67, 75, 32, 82, 79, 76, 76, 32, 68, 69, 80, 84, 72, 32, 43, 32, 45, 32, 42, 32, 47, 32, 77, 79, 68, 32, 47, 77, 79, 68, 32, 42, 47, 32, 42, 47, 77, 79, 68, 32, 49, 43, 32, 49, 45, 32, 50, 42, 32, 50, 47, 32, 78, 69, 71, 65, 84, 69, 32, 65, 66, 83, 32, 77, 73, 78, 32, 77, 65, 88, 32, 65, 78, 68, 32, 79, 82, 32, 88, 79, 82, 32, 73, 78, 86, 69, 82, 84, 32, 76, 83, 72, 73, 70, 84, 32, 82, 83, 72, 73, 70, 84, 32, 61, 32, 60, 62, 32, 60, 32, 62, 32, 85, 60, 32, 48, 61, 32, 48, 60, 32, 48, 60, 62, 32, 48, 62, 32, 87, 73, 84, 72, 73, 78, 32, 84, 82, 85, 69, 32, 70, 65, 76, 83, 69, 32, 67, 69, 76, 76, 83, 32, 67, 69, 76, 76, 43, 32, 70, 43, 32, 70, 45, 32, 70, 42, 32, 70, 47, 32, 70, 77, 73, 78, 32, 70, 77, 65, 88, 32, 70, 78, 69, 71, 65, 84, 69, 32, 70, 65, 66, 83, 32, 70, 83, 81, 82, 84, 32, 70, 76, 79, 79, 82, 32, 70, 60, 32, 70, 61, 32, 83, 62, 70, 32, 70, 62, 83, 32, 64, 32, 33, 32, 43, 33, 32, 67, 64, 32, 67, 33, 32, 72, 69, 82, 69, 32, 65, 76, 76, 79, 84, 32, 44, 32, 67, 44, 32, 65, 76, 73, 71, 78, 32, 66, 65, 83, 69, 32, 68, 69, 67, 73, 77, 65, 76, 32, 72, 69, 88, 32, 62, 82, 32, 82, 62, 32, 82, 64, 32, 73, 32, 74, 32, 85, 78, 76, 79, 79, 80, 32, 76, 69, 65, 86, 69, 32, 73, 70, 32, 69, 76, 83, 69, 32, 84, 72, 69, 78, 32, 66, 69, 71, 73, 78, 32, 65, 71, 65, 73, 78, 32, 85, 78, 84, 73, 76, 32, 87, 72, 73, 76, 69, 32, 82, 69, 80, 69, 65, 84, 32, 68, 79, 32, 76, 79, 79, 80, 32, 43, 76, 79, 79, 80, 32, 82, 69, 67, 85, 82, 83, 69, 32, 58, 32, 59, 32, 73, 77, 77, 69, 68, 73, 65, 84, 69, 32, 67, 79, 78, 83, 84, 65, 78, 84, 32, 86, 65, 82, 73, 65, 66, 76, 69, 32, 67, 82, 69, 65, 84, 69, 32, 68, 79, 69, 83, 62, 32, 77, 65, 82, 75, 69, 82, 32, 39, 32, 91, 39, 93, 32, 76, 73, 84, 69, 82, 65, 76, 32, 80, 79, 83, 84, 80, 79, 78, 69, 32, 91, 32, 93, 32, 69, 88, 69, 67, 85, 84, 69, 32, 67, 72, 65, 82, 32, 91, 67, 72, 65, 82, 93, 32, 40, 32, 92, 32, 46, 34, 32, 69, 77, 73, 84, 32, 67, 82, 32, 83, 80, 65, 67, 69, 32, 46, 32, 84, 89, 80, 69, 32, 75, 69, 89, 32, 84, 72, 82, 79, 87, 32, 65, 66, 79, 82, 84]
def ctlB : List UInt8 := [73, 70, 32, 69, 76, 83, 69, 32, 84, 72, 69, 78, 32, 66, 69, 71, 73, 78, 32, 65, 71, 65, 73, 78, 32, 85, 78, 84, 73, 76, 32, 87, 72, 73, 76, 69, 32, 82, 69, 80, 69, 65, 84, 32, 68, 79, 32, 76, 79, 79, 80, 32, 43, 76, 79, 79, 80, 32, 82, 69, 67, 85, 82, 83, 69, 32, 59, 32, 68, 79, 69, 83, 62, 32, 91, 39, 93, 32, 76, 73, 84, 69, 82, 65, 76, 32, 80, 79, 83, 84, 80, 79, 78, 69, 32, 91, 67, 72, 65, 82, 93]
def opsL : List (List UInt8) := [[69, 88, 73, 84], [40, 76, 73, 84, 41], [40, 66, 82, 65, 78, 67, 72, 41], [40, 48, 66, 82, 65, 78, 67, 72, 41], [40, 68, 79, 41], [40, 76, 79, 79, 80, 41], [40, 43, 76, 79, 79, 80, 41], [40, 86, 65, 82, 41], [40, 68, 79, 69, 83, 41], [40, 84, 69, 88, 84, 41], [40, 77, 65, 82, 75, 41], [67, 79, 77, 80, 73, 76, 69, 44], [68, 85, 80], [68, 82, 79, 80], [83, 87, 65, 80], [79, 86, 69, 82], [82, 79, 84], [78, 73, 80], [84, 85, 67, 75], [63, 68, 85, 80], [50, 68, 85, 80], [50, 68, 82, 79, 80], [50, 83, 87, 65, 80], [50, 79, 86, 69, 82], [80, 73, 67, 75], [82, 79, 76, 76], [68, 69, 80, 84, 72], [43], [45], [42], [47], [77, 79, 68], [47, 77, 79, 68], [42, 47], [42, 47, 77, 79, 68], [49, 43], [49, 45], [50, 42], [50, 47], [78, 69, 71, 65, 84, 69], [65, 66, 83], [77, 73, 78], [77, 65, 88], [65, 78, 68], [79, 82], [88, 79, 82], [73, 78, 86, 69, 82, 84], [76, 83, 72, 73, 70, 84], [82, 83, 72, 73, 70, 84], [61], [60, 62], [60], [62], [85, 60], [48, 61], [48, 60], [48, 60, 62], [48, 62], [87, 73, 84, 72, 73, 78], [84, 82, 85, 69], [70, 65, 76, 83, 69], [67, 69, 76, 76, 83], [67, 69, 76, 76, 43], [70, 43], [70, 45], [70, 42], [70, 47], [70, 77, 73, 78], [70, 77, 65, 88], [70, 78, 69, 71, 65, 84, 69], [70, 65, 66, 83], [70, 83, 81, 82, 84], [70, 76, 79, 79, 82], [70, 60], [70, 61], [83, 62, 70], [70, 62, 83], [64], [33], [43, 33], [67, 64], [67, 33], [72, 69, 82, 69], [65, 76, 76, 79, 84], [44], [67, 44], [65, 76, 73, 71, 78], [66, 65, 83, 69], [68, 69, 67, 73, 77, 65, 76], [72, 69, 88], [62, 82], [82, 62], [82, 64], [73], [74], [85, 78, 76, 79, 79, 80], [76, 69, 65, 86, 69], [73, 70], [69, 76, 83, 69], [84, 72, 69, 78], [66, 69, 71, 73, 78], [65, 71, 65, 73, 78], [85, 78, 84, 73, 76], [87, 72, 73, 76, 69], [82, 69, 80, 69, 65, 84], [68, 79], [76, 79, 79, 80], [43, 76, 79, 79, 80], [82, 69, 67, 85, 82, 83, 69], [58], [59], [73, 77, 77, 69, 68, 73, 65, 84, 69], [67, 79, 78, 83, 84, 65, 78, 84], [86, 65, 82, 73, 65, 66, 76, 69], [67, 82, 69, 65, 84, 69], [68, 79, 69, 83, 62], [77, 65, 82, 75, 69, 82], [39], [91, 39, 93], [76, 73, 84, 69, 82, 65, 76], [80, 79, 83, 84, 80, 79, 78, 69], [91], [93], [69, 88, 69, 67, 85, 84, 69], [67, 72, 65, 82], [91, 67, 72, 65, 82, 93], [40], [92], [46, 34], [69, 77, 73, 84], [67, 82], [83, 80, 65, 67, 69], [46], [84, 89, 80, 69], [75, 69, 89], [84, 72, 82, 79, 87], [65, 66, 79, 82, 84]]
def ctlL : List (List UInt8) := [[73, 70], [69, 76, 83, 69], [84, 72, 69, 78], [66, 69, 71, 73, 78], [65, 71, 65, 73, 78], [85, 78, 84, 73, 76], [87, 72, 73, 76, 69], [82, 69, 80, 69, 65, 84], [68, 79], [76, 79, 79, 80], [43, 76, 79, 79, 80], [82, 69, 67, 85, 82, 83, 69], [59], [68, 79, 69, 83, 62], [91, 39, 93], [76, 73, 84, 69, 82, 65, 76], [80, 79, 83, 84, 80, 79, 78, 69], [91, 67, 72, 65, 82, 93]]
theorem allB_w : wordsF allB [] = opsL := by kernel_rfl
theorem allB_a : ∀ c ∈ allB, c.toNat < 128 := by decide +kernel
theorem ren_wV (g : Nat → Nat) : ∀ l : List (List UInt8), renL g (l.map wV) = l.map wV
  | [] => rfl
  | a :: r => by rw [List.map_cons, renL, ren_wV g r]; rfl
theorem refs_wV : ∀ l : List (List UInt8), refsL (l.map wV) = []
  | [] => rfl
  | a :: r => by rw [List.map_cons, refsL, refs_wV r]; rfl
theorem list_run : WFun p0 39 [] [] fun r H => r = .ret (.own 0 0 137 1) ∧ H = [.live (opsL.map wV)] := by
  refine WFun_of w39 rfl rfl k39 ?_
  simp -dsimp [w39]
  refine WCall_inl (ids := []) rfl rfl ?_
  refine fields_s (l := allB) (n := 137) allB_a (by decide +kernel) (by rw [allB_w]; kernel_rfl) (by kernel_rfl) (by decide) ?_
  have k0 : backK [] 0 0 = 0 := by simp [backK]
  simp -dsimp [allB_w, backH, setAll, renR, renOb, crV, refs, refsL, renL, ren, ren_wV, refs_wV, k0]
def laidP (l : List (List UInt8)) : List V → List Ob → Option (V × List Ob)
  | [], [] => some (.own 0 0 l.length 1, [.live (l.map wV)])
  | _, _ => none
def prim1 (f : FuncId) : Option (List V → List Ob → Option (V × List Ob)) := if f = 39 then some (laidP opsL) else prim0 f
def p1 : AP := { fn := lk tab, prim := prim1, inl := isInl, body := bods }
@[simp] theorem inl_eq1 (f : FuncId) : p1.inlY f = (f == 4000000000 || isInl f) := (rfl)
theorem fn_ok (f : FuncId) (af : AFun) (h : lk tab f = some af) : cFun Tryz.prog f = some af.erase := tab_ok _ (lk_mem _ _ _ h)
end Fz.D
set_option maxRecDepth 100000
namespace Fz.D
open Go Go.Proofs
def p : AP := p1
@[simp] theorem inl_eq (f : FuncId) : p.inlY f = (f == 4000000000 || isInl f) := (rfl)
def isTrue : Option (CR × List Ob) → Bool
  | some (.ret (.bool b), _) => b
  | _ => false
theorem isTrue_ok {r : Option (CR × List Ob)} (h : isTrue r = true) : ∃ H, r = some (.ret (.bool true), H) := by
  unfold isTrue at h
  split at h
  · subst h; exact ⟨_, rfl⟩
  · cases h
theorem awake9 : isTrue (acall p1 1000 13 [] []) = true := by kernel_rfl
end Fz.D
set_option maxRecDepth 100000
namespace Fz.D
open Go
def byV (b : List Int) : V := .list (b.map (V.int .u8)) false
@[simp] theorem byV.gd (b : List Int) : ground (byV b) = true := by simp [byV]
@[simp] theorem byV.gk (b : List Int) (k : Nat) : gk (k + 1) (byV b) = true := by simp [byV]
@[simp] theorem byV.nr (b : List Int) : nrm (byV b) = byV b := by simp [byV]
@[simp] theorem byV.nrc : nrm ∘ byV = byV := funext fun x => byV.nr x
@[simp] theorem byV.nm (b : List Int) : nm (byV b) = true := by simp [byV]
@[simp] theorem byV.any (b : List Int) : isAny (byV b) = false := rfl
@[simp] theorem byV.cells (b : List Int) : cellsOf (byV b) = [byV b] := rfl
@[simp] theorem byV.st (b : List Int) : storable (byV b) = true := rfl
@[simp] theorem byV.lf (b : List Int) : leafy (byV b) = true := rfl
@[simp] theorem byV.uni (l : List (List Int)) : uni 1 (l.map byV) = true := uni_map fun _ => rfl
@[simp] theorem byV.flat (l : List (List Int)) : flat (l.map byV) = l.map byV := flat_one fun _ => rfl
@[simp] theorem byV.sl (b : List Int) (L : List V → Bool → Prop) (O : Nat → Nat → Nat → Nat → Prop) : wSl (byV b) L O = L (b.map (V.int .u8)) false := (rfl)
@[simp] theorem byV.el (b : List Int) (H : List Ob) (n : Nat) (K : List V → Nat → Prop) : xElems H n (byV b) K = xElems H n (.list (b.map (V.int .u8)) false) K := (rfl)
@[simp] theorem byV.xs (b : List Int) (H : List Ob) (n : Nat) (lo hi mx : Option V) (K : V → Prop) : xSlice H (.sl n) (byV b) lo hi mx K = xSlice H (.sl n) (.list (b.map (V.int .u8)) false) lo hi mx K := (rfl)
def inV (b : List Int) : V := .list (b.map (V.int .i64)) false
@[simp] theorem inV.gd (b : List Int) : ground (inV b) = true := by simp [inV]
@[simp] theorem inV.gk (b : List Int) (k : Nat) : gk (k + 1) (inV b) = true := by simp [inV]
@[simp] theorem inV.nr (b : List Int) : nrm (inV b) = inV b := by simp [inV]
@[simp] theorem inV.nrc : nrm ∘ inV = inV := funext fun x => inV.nr x
@[simp] theorem inV.nm (b : List Int) : nm (inV b) = true := by simp [inV]
@[simp] theorem inV.any (b : List Int) : isAny (inV b) = false := rfl
@[simp] theorem inV.cells (b : List Int) : cellsOf (inV b) = [inV b] := rfl
@[simp] theorem inV.st (b : List Int) : storable (inV b) = true := rfl
@[simp] theorem inV.lf (b : List Int) : leafy (inV b) = true := rfl
@[simp] theorem inV.uni (l : List (List Int)) : uni 1 (l.map inV) = true := uni_map fun _ => rfl
@[simp] theorem inV.flat (l : List (List Int)) : flat (l.map inV) = l.map inV := flat_one fun _ => rfl
@[simp] theorem inV.sl (b : List Int) (L : List V → Bool → Prop) (O : Nat → Nat → Nat → Nat → Prop) : wSl (inV b) L O = L (b.map (V.int .i64)) false := (rfl)
@[simp] theorem inV.el (b : List Int) (H : List Ob) (n : Nat) (K : List V → Nat → Prop) : xElems H n (inV b) K = xElems H n (.list (b.map (V.int .i64)) false) K := (rfl)
@[simp] theorem inV.xs (b : List Int) (H : List Ob) (n : Nat) (lo hi mx : Option V) (K : V → Prop) : xSlice H (.sl n) (inV b) lo hi mx K = xSlice H (.sl n) (.list (b.map (V.int .i64)) false) lo hi mx K := (rfl)
structure Slo where
  v : Int
  call : Bool
deriving Inhabited, DecidableEq
structure Wor where
  name : ByteArray
  code : Int
  now : Bool
  hid : Bool
deriving Inhabited
structure Spo where
  addr : Int
  at_ : Int
deriving Inhabited, DecidableEq
structure Rn where
  at_ : Int
  b : List Int
deriving Inhabited, DecidableEq
def sloV (s : Slo) : V := .agg [.int .i64 s.v, .bool s.call]
@[simp] theorem sloV.gd (s : Slo) : ground (sloV s) = true := by simp [sloV]
@[simp] theorem sloV.gk (s : Slo) (k : Nat) : gk (k + 2) (sloV s) = true := by simp [sloV]
@[simp] theorem sloV.nr (s : Slo) : nrm (sloV s) = sloV s := by simp [sloV]
@[simp] theorem sloV.nrc : nrm ∘ sloV = sloV := funext fun x => sloV.nr x
@[simp] theorem sloV.nm (s : Slo) : nm (sloV s) = true := by simp [sloV]
@[simp] theorem sloV.any (s : Slo) : isAny (sloV s) = false := rfl
@[simp] theorem sloV.cells (s : Slo) : cellsOf (sloV s) = [.int .i64 s.v, .bool s.call] := rfl
@[simp] theorem sloV.uni (l : List (Slo)) : uni 2 (l.map sloV) = true := uni_map fun _ => rfl
@[simp] theorem sloV.flat (l : List (Slo)) : flat (l.map sloV) = l.flatMap fun s => [.int .i64 s.v, .bool s.call] := by rw [flat_map]; rfl
def worV (s : Wor) : V := .agg [.str s.name, .int .i64 s.code, .bool s.now, .bool s.hid]
@[simp] theorem worV.gd (s : Wor) : ground (worV s) = true := by simp [worV]
@[simp] theorem worV.gk (s : Wor) (k : Nat) : gk (k + 2) (worV s) = true := by simp [worV]
@[simp] theorem worV.nr (s : Wor) : nrm (worV s) = worV s := by simp [worV]
@[simp] theorem worV.nrc : nrm ∘ worV = worV := funext fun x => worV.nr x
@[simp] theorem worV.nm (s : Wor) : nm (worV s) = true := by simp [worV]
@[simp] theorem worV.any (s : Wor) : isAny (worV s) = false := rfl
@[simp] theorem worV.cells (s : Wor) : cellsOf (worV s) = [.str s.name, .int .i64 s.code, .bool s.now, .bool s.hid] := rfl
@[simp] theorem worV.uni (l : List (Wor)) : uni 4 (l.map worV) = true := uni_map fun _ => rfl
@[simp] theorem worV.flat (l : List (Wor)) : flat (l.map worV) = l.flatMap fun s => [.str s.name, .int .i64 s.code, .bool s.now, .bool s.hid] := by rw [flat_map]; rfl
def spoV (s : Spo) : V := .agg [.int .i64 s.addr, .int .i64 s.at_]
@[simp] theorem spoV.gd (s : Spo) : ground (spoV s) = true := by simp [spoV]
@[simp] theorem spoV.gk (s : Spo) (k : Nat) : gk (k + 2) (spoV s) = true := by simp [spoV]
@[simp] theorem spoV.nr (s : Spo) : nrm (spoV s) = spoV s := by simp [spoV]
@[simp] theorem spoV.nrc : nrm ∘ spoV = spoV := funext fun x => spoV.nr x
@[simp] theorem spoV.nm (s : Spo) : nm (spoV s) = true := by simp [spoV]
@[simp] theorem spoV.any (s : Spo) : isAny (spoV s) = false := rfl
@[simp] theorem spoV.cells (s : Spo) : cellsOf (spoV s) = [.int .i64 s.addr, .int .i64 s.at_] := rfl
@[simp] theorem spoV.uni (l : List (Spo)) : uni 2 (l.map spoV) = true := uni_map fun _ => rfl
@[simp] theorem spoV.flat (l : List (Spo)) : flat (l.map spoV) = l.flatMap fun s => [.int .i64 s.addr, .int .i64 s.at_] := by rw [flat_map]; rfl
def runV (s : Rn) : V := .agg [.int .i64 s.at_, byV s.b]
@[simp] theorem runV.gd (s : Rn) : ground (runV s) = true := by simp [runV]
@[simp] theorem runV.gk (s : Rn) (k : Nat) : gk (k + 2) (runV s) = true := by simp [runV]
@[simp] theorem runV.nr (s : Rn) : nrm (runV s) = runV s := by simp [runV]
@[simp] theorem runV.nrc : nrm ∘ runV = runV := funext fun x => runV.nr x
@[simp] theorem runV.nm (s : Rn) : nm (runV s) = true := by simp [runV]
@[simp] theorem runV.any (s : Rn) : isAny (runV s) = false := rfl
@[simp] theorem runV.cells (s : Rn) : cellsOf (runV s) = [.int .i64 s.at_, byV s.b] := rfl
@[simp] theorem runV.uni (l : List (Rn)) : uni 2 (l.map runV) = true := uni_map fun _ => rfl
@[simp] theorem runV.flat (l : List (Rn)) : flat (l.map runV) = l.flatMap fun s => [.int .i64 s.at_, byV s.b] := by rw [flat_map]; rfl
def slosV (l : List Slo) : V := .list (l.map sloV) false
@[simp] theorem slosV.gd (l : List Slo) : ground (slosV l) = true := by simp [slosV]
@[simp] theorem slosV.gk (l : List Slo) (k : Nat) : gk (k + 1) (slosV l) = true := by simp [slosV]
@[simp] theorem slosV.nr (l : List Slo) : nrm (slosV l) = slosV l := by simp [slosV]
@[simp] theorem slosV.nrc : nrm ∘ slosV = slosV := funext fun x => slosV.nr x
@[simp] theorem slosV.nm (l : List Slo) : nm (slosV l) = true := by simp [slosV]
@[simp] theorem slosV.any (l : List Slo) : isAny (slosV l) = false := rfl
@[simp] theorem slosV.cells (l : List Slo) : cellsOf (slosV l) = [slosV l] := rfl
@[simp] theorem slosV.st (l : List Slo) : storable (slosV l) = true := rfl
@[simp] theorem slosV.lf (l : List Slo) : leafy (slosV l) = true := rfl
@[simp] theorem slosV.uni (l : List (List Slo)) : uni 1 (l.map slosV) = true := uni_map fun _ => rfl
@[simp] theorem slosV.flat (l : List (List Slo)) : flat (l.map slosV) = l.map slosV := flat_one fun _ => rfl
@[simp] theorem slosV.sl (l : List Slo) (L : List V → Bool → Prop) (O : Nat → Nat → Nat → Nat → Prop) : wSl (slosV l) L O = L (l.map sloV) false := (rfl)
@[simp] theorem slosV.el (l : List Slo) (H : List Ob) (n : Nat) (K : List V → Nat → Prop) : xElems H n (slosV l) K = xElems H n (.list (l.map sloV) false) K := (rfl)
@[simp] theorem slosV.xs (l : List Slo) (H : List Ob) (n : Nat) (lo hi mx : Option V) (K : V → Prop) : xSlice H (.sl n) (slosV l) lo hi mx K = xSlice H (.sl n) (.list (l.map sloV) false) lo hi mx K := (rfl)
def worsV (l : List Wor) : V := .list (l.map worV) false
@[simp] theorem worsV.gd (l : List Wor) : ground (worsV l) = true := by simp [worsV]
@[simp] theorem worsV.gk (l : List Wor) (k : Nat) : gk (k + 1) (worsV l) = true := by simp [worsV]
@[simp] theorem worsV.nr (l : List Wor) : nrm (worsV l) = worsV l := by simp [worsV]
@[simp] theorem worsV.nrc : nrm ∘ worsV = worsV := funext fun x => worsV.nr x
@[simp] theorem worsV.nm (l : List Wor) : nm (worsV l) = true := by simp [worsV]
@[simp] theorem worsV.any (l : List Wor) : isAny (worsV l) = false := rfl
@[simp] theorem worsV.cells (l : List Wor) : cellsOf (worsV l) = [worsV l] := rfl
@[simp] theorem worsV.st (l : List Wor) : storable (worsV l) = true := rfl
@[simp] theorem worsV.lf (l : List Wor) : leafy (worsV l) = true := rfl
@[simp] theorem worsV.uni (l : List (List Wor)) : uni 1 (l.map worsV) = true := uni_map fun _ => rfl
@[simp] theorem worsV.flat (l : List (List Wor)) : flat (l.map worsV) = l.map worsV := flat_one fun _ => rfl
@[simp] theorem worsV.sl (l : List Wor) (L : List V → Bool → Prop) (O : Nat → Nat → Nat → Nat → Prop) : wSl (worsV l) L O = L (l.map worV) false := (rfl)
@[simp] theorem worsV.el (l : List Wor) (H : List Ob) (n : Nat) (K : List V → Nat → Prop) : xElems H n (worsV l) K = xElems H n (.list (l.map worV) false) K := (rfl)
@[simp] theorem worsV.xs (l : List Wor) (H : List Ob) (n : Nat) (lo hi mx : Option V) (K : V → Prop) : xSlice H (.sl n) (worsV l) lo hi mx K = xSlice H (.sl n) (.list (l.map worV) false) lo hi mx K := (rfl)
def sposV (l : List Spo) : V := .list (l.map spoV) false
@[simp] theorem sposV.gd (l : List Spo) : ground (sposV l) = true := by simp [sposV]
@[simp] theorem sposV.gk (l : List Spo) (k : Nat) : gk (k + 1) (sposV l) = true := by simp [sposV]
@[simp] theorem sposV.nr (l : List Spo) : nrm (sposV l) = sposV l := by simp [sposV]
@[simp] theorem sposV.nrc : nrm ∘ sposV = sposV := funext fun x => sposV.nr x
@[simp] theorem sposV.nm (l : List Spo) : nm (sposV l) = true := by simp [sposV]
@[simp] theorem sposV.any (l : List Spo) : isAny (sposV l) = false := rfl
@[simp] theorem sposV.cells (l : List Spo) : cellsOf (sposV l) = [sposV l] := rfl
@[simp] theorem sposV.st (l : List Spo) : storable (sposV l) = true := rfl
@[simp] theorem sposV.lf (l : List Spo) : leafy (sposV l) = true := rfl
@[simp] theorem sposV.uni (l : List (List Spo)) : uni 1 (l.map sposV) = true := uni_map fun _ => rfl
@[simp] theorem sposV.flat (l : List (List Spo)) : flat (l.map sposV) = l.map sposV := flat_one fun _ => rfl
@[simp] theorem sposV.sl (l : List Spo) (L : List V → Bool → Prop) (O : Nat → Nat → Nat → Nat → Prop) : wSl (sposV l) L O = L (l.map spoV) false := (rfl)
@[simp] theorem sposV.el (l : List Spo) (H : List Ob) (n : Nat) (K : List V → Nat → Prop) : xElems H n (sposV l) K = xElems H n (.list (l.map spoV) false) K := (rfl)
@[simp] theorem sposV.xs (l : List Spo) (H : List Ob) (n : Nat) (lo hi mx : Option V) (K : V → Prop) : xSlice H (.sl n) (sposV l) lo hi mx K = xSlice H (.sl n) (.list (l.map spoV) false) lo hi mx K := (rfl)
def runsV (l : List Rn) : V := .list (l.map runV) false
@[simp] theorem runsV.gd (l : List Rn) : ground (runsV l) = true := by simp [runsV]
@[simp] theorem runsV.gk (l : List Rn) (k : Nat) : gk (k + 1) (runsV l) = true := by simp [runsV]
@[simp] theorem runsV.nr (l : List Rn) : nrm (runsV l) = runsV l := by simp [runsV]
@[simp] theorem runsV.nrc : nrm ∘ runsV = runsV := funext fun x => runsV.nr x
@[simp] theorem runsV.nm (l : List Rn) : nm (runsV l) = true := by simp [runsV]
@[simp] theorem runsV.any (l : List Rn) : isAny (runsV l) = false := rfl
@[simp] theorem runsV.cells (l : List Rn) : cellsOf (runsV l) = [runsV l] := rfl
@[simp] theorem runsV.st (l : List Rn) : storable (runsV l) = true := rfl
@[simp] theorem runsV.lf (l : List Rn) : leafy (runsV l) = true := rfl
@[simp] theorem runsV.uni (l : List (List Rn)) : uni 1 (l.map runsV) = true := uni_map fun _ => rfl
@[simp] theorem runsV.flat (l : List (List Rn)) : flat (l.map runsV) = l.map runsV := flat_one fun _ => rfl
@[simp] theorem runsV.sl (l : List Rn) (L : List V → Bool → Prop) (O : Nat → Nat → Nat → Nat → Prop) : wSl (runsV l) L O = L (l.map runV) false := (rfl)
@[simp] theorem runsV.el (l : List Rn) (H : List Ob) (n : Nat) (K : List V → Nat → Prop) : xElems H n (runsV l) K = xElems H n (.list (l.map runV) false) K := (rfl)
@[simp] theorem runsV.xs (l : List Rn) (H : List Ob) (n : Nat) (lo hi mx : Option V) (K : V → Prop) : xSlice H (.sl n) (runsV l) lo hi mx K = xSlice H (.sl n) (.list (l.map runV) false) lo hi mx K := (rfl)
structure St where
  mem : List Int
  data : List Int
  ret : List Slo
  ctl : List Int
  words : List Wor
  spots : List Spo
  out : List Int
  ip : Int
  here : Int
  at_ : Int
  tok : Int
  in_ : Int
  err : Int
  comp : Bool
  halt : Bool
deriving Inhabited
structure De where
  mem : List Rn
  dk : Int
  dt : List Int
  rk : Int
  rt : List Slo
  ck : Int
  ct : List Int
  wk : Int
  wt : List Wor
  sk : Int
  st : List Spo
  out : Int
  r0 : Int
  r1 : Int
  r2 : Int
  r3 : Int
  r4 : Int
  r5 : Int
  comp : Bool
  halt : Bool
deriving Inhabited
def stV (s : St) : V := .agg [byV s.mem, inV s.data, slosV s.ret, inV s.ctl, worsV s.words, sposV s.spots, byV s.out, .int .i64 s.ip, .int .i64 s.here, .int .i64 s.at_, .int .i64 s.tok, .int .i64 s.in_, .int .i64 s.err, .bool s.comp, .bool s.halt]
@[simp] theorem stV.gd (s : St) : ground (stV s) = true := by simp [stV]
@[simp] theorem stV.gk (s : St) (k : Nat) : gk (k + 2) (stV s) = true := by simp [stV]
@[simp] theorem stV.nr (s : St) : nrm (stV s) = stV s := by simp [stV]
@[simp] theorem stV.nrc : nrm ∘ stV = stV := funext fun x => stV.nr x
@[simp] theorem stV.nm (s : St) : nm (stV s) = true := by simp [stV]
@[simp] theorem stV.any (s : St) : isAny (stV s) = false := rfl
@[simp] theorem stV.cells (s : St) : cellsOf (stV s) = [byV s.mem, inV s.data, slosV s.ret, inV s.ctl, worsV s.words, sposV s.spots, byV s.out, .int .i64 s.ip, .int .i64 s.here, .int .i64 s.at_, .int .i64 s.tok, .int .i64 s.in_, .int .i64 s.err, .bool s.comp, .bool s.halt] := rfl
@[simp] theorem stV.uni (l : List (St)) : uni 15 (l.map stV) = true := uni_map fun _ => rfl
@[simp] theorem stV.flat (l : List (St)) : flat (l.map stV) = l.flatMap fun s => [byV s.mem, inV s.data, slosV s.ret, inV s.ctl, worsV s.words, sposV s.spots, byV s.out, .int .i64 s.ip, .int .i64 s.here, .int .i64 s.at_, .int .i64 s.tok, .int .i64 s.in_, .int .i64 s.err, .bool s.comp, .bool s.halt] := by rw [flat_map]; rfl
def deV (d : De) : V := .agg [runsV d.mem, .int .i64 d.dk, inV d.dt, .int .i64 d.rk, slosV d.rt, .int .i64 d.ck, inV d.ct, .int .i64 d.wk, worsV d.wt, .int .i64 d.sk, sposV d.st, .int .i64 d.out, .int .i64 d.r0, .int .i64 d.r1, .int .i64 d.r2, .int .i64 d.r3, .int .i64 d.r4, .int .i64 d.r5, .bool d.comp, .bool d.halt]
@[simp] theorem deV.gd (d : De) : ground (deV d) = true := by simp [deV]
@[simp] theorem deV.gk (d : De) (k : Nat) : gk (k + 2) (deV d) = true := by simp [deV]
@[simp] theorem deV.nr (d : De) : nrm (deV d) = deV d := by simp [deV]
@[simp] theorem deV.nrc : nrm ∘ deV = deV := funext fun x => deV.nr x
@[simp] theorem deV.nm (d : De) : nm (deV d) = true := by simp [deV]
@[simp] theorem deV.any (d : De) : isAny (deV d) = false := rfl
@[simp] theorem deV.cells (d : De) : cellsOf (deV d) = [runsV d.mem, .int .i64 d.dk, inV d.dt, .int .i64 d.rk, slosV d.rt, .int .i64 d.ck, inV d.ct, .int .i64 d.wk, worsV d.wt, .int .i64 d.sk, sposV d.st, .int .i64 d.out, .int .i64 d.r0, .int .i64 d.r1, .int .i64 d.r2, .int .i64 d.r3, .int .i64 d.r4, .int .i64 d.r5, .bool d.comp, .bool d.halt] := rfl
@[simp] theorem deV.uni (l : List (De)) : uni 20 (l.map deV) = true := uni_map fun _ => rfl
@[simp] theorem deV.flat (l : List (De)) : flat (l.map deV) = l.flatMap fun d => [runsV d.mem, .int .i64 d.dk, inV d.dt, .int .i64 d.rk, slosV d.rt, .int .i64 d.ck, inV d.ct, .int .i64 d.wk, worsV d.wt, .int .i64 d.sk, sposV d.st, .int .i64 d.out, .int .i64 d.r0, .int .i64 d.r1, .int .i64 d.r2, .int .i64 d.r3, .int .i64 d.r4, .int .i64 d.r5, .bool d.comp, .bool d.halt] := by rw [flat_map]; rfl
end Fz.D
set_option maxRecDepth 100000
namespace Fz.D
open Go
def i64 (a : Int) : Prop := -9223372036854775808 ≤ a ∧ a ≤ 9223372036854775807
def nmB (s : ByteArray) : List Int := s.data.toList.map fun b => (b.toNat : Int)
def inQ (a b : Int) : Bool := decide (a = b)
def sloQ (a b : Slo) : Bool := decide (a.v = b.v) && (a.call == b.call)
def worQ (a b : Wor) : Bool := decide (a.name = b.name) && (decide (a.code = b.code) && ((a.now == b.now) && (a.hid == b.hid)))
def spoQ (a b : Spo) : Bool := decide (a.addr = b.addr) && decide (a.at_ = b.at_)
structure StLen (s : St) : Prop where
  mem : s.mem.length ≤ 100000
  data : s.data.length ≤ 100000
  ret : s.ret.length ≤ 100000
  ctl : s.ctl.length ≤ 100000
  words : s.words.length ≤ 100000
  spots : s.spots.length ≤ 100000
  out : s.out.length ≤ 100000000
def by8 (b : List Int) : Prop := ∀ x ∈ b, 0 ≤ x ∧ x < 256
def bstr (b : List Int) : ByteArray := bytesV (b.map (V.int .u8))
def u8f (x : Int) : UInt8 := x.toNat.toUInt8
def fewB (s : St) : Bool := (s.words.take 41).all (fun w => decide (w.name.size ≤ 60)) && (decide (s.mem.length ≤ 600) && (decide (s.data.length ≤ 40) && (decide (s.ret.length ≤ 40) && (decide (s.ctl.length ≤ 200) && (decide (s.words.length ≤ 40) && (decide (s.spots.length ≤ 100) && decide (s.out.length ≤ 200)))))))
structure StTy (s : St) : Prop where
  mem : by8 s.mem
  data : ∀ n ∈ s.data, i64 n
  ret : ∀ x ∈ s.ret, i64 x.v
  ctl : ∀ n ∈ s.ctl, i64 n
  words : ∀ x ∈ s.words, i64 x.code
  spots : ∀ x ∈ s.spots, i64 x.addr ∧ i64 x.at_
  out : by8 s.out
  regs : ∀ n ∈ [s.ip, s.here, s.at_, s.tok, s.in_, s.err], i64 n
def SloT : Ty := .agg [.int .i64, .bool]
def WorT : Ty := .agg [.str, .int .i64, .bool, .bool]
def SpoT : Ty := .agg [.int .i64, .int .i64]
def RnT : Ty := .agg [.int .i64, .sl (.int .u8)]
def StT : Ty := .agg [.sl (.int .u8), .sl (.int .i64), .sl SloT, .sl (.int .i64), .sl WorT, .sl SpoT, .sl (.int .u8), .int .i64, .int .i64, .int .i64, .int .i64, .int .i64, .int .i64, .bool, .bool]
theorem list_of {α : Type} {T : Ty} {f : α → V} {P : α → Prop} (h : ∀ v, HasT T v → ∃ a, v = f a ∧ P a) {v : V} (hv : HasT (.sl T) v) : ∃ l : List α, v = .list (l.map f) false ∧ ∀ a ∈ l, P a := by
  obtain ⟨vs, rfl, hh⟩ := hv
  have : ∃ l : List α, vs = l.map f ∧ ∀ a ∈ l, P a := by
    induction vs with
    | nil => exact ⟨[], rfl, fun a h => by cases h⟩
    | cons v vs ih =>
      obtain ⟨l, rfl, hl⟩ := ih fun x hx => hh x (List.mem_cons_of_mem _ hx)
      obtain ⟨a, rfl, ha⟩ := h v (hh v (List.mem_cons_self ..))
      refine ⟨a :: l, rfl, fun x hx => ?_⟩
      rcases List.mem_cons.1 hx with rfl | hx
      · exact ha
      · exact hl x hx
  obtain ⟨l, rfl, hl⟩ := this
  exact ⟨l, rfl, hl⟩
theorem u8_of {v : V} (h : HasT (.int .u8) v) : ∃ n, v = V.int .u8 n ∧ (0 ≤ n ∧ n < 256) := by
  obtain ⟨n, rfl, h1, h2⟩ := h
  have h1 : 0 ≤ n := h1
  have h2 : n ≤ 255 := h2
  exact ⟨n, rfl, by omega⟩
theorem i64_of {v : V} (h : HasT (.int .i64) v) : ∃ n, v = V.int .i64 n ∧ i64 n := by
  obtain ⟨n, rfl, h1, h2⟩ := h
  exact ⟨n, rfl, h1, h2⟩
theorem in_of {v : V} (h : HasT (.sl (.int .i64)) v) : ∃ b, v = inV b ∧ ∀ n ∈ b, i64 n := list_of (fun _ h => i64_of h) h
end Fz.D
set_option maxRecDepth 100000
namespace Go.Proofs
open Go Go.Shelf Go.RowKit
open Fz (upB upS)
theorem Tryz.blSize : (Tryz.prog.info? 129).map (·.size) = some 2 := by kernel_rfl
theorem Tryz.blLies : liesAt Tryz.prog Tryz.prog.depth 129 (2 / Tryz.prog.cellsOf 129) 0 129 1 = true := by kernel_rfl
theorem Tryz.blByte : (Tryz.prog.info? 5).map (fun i => (i.zero, i.size, i.bytes)) = some (some (.int .u8 0), 1, 1) := by kernel_rfl
set_option maxHeartbeats 1000000 in
theorem Tryz.bl_used (b : Nat) (w : World) (h0 : w.cell? ⟨b, 0, none⟩ = some (.pointer (some ⟨b, 0, none⟩))) :
    Calls Tryz.prog 195 #[.pointer (some ⟨b, 0, none⟩)] w fun e w' => e = .returned (.tuple #[]) ∧ w' = w := by
  obtain ⟨j, hj, _⟩ := Option.map_eq_some_iff.1 Tryz.blSize
  go_enter Tryz.func195, Tryz.ntmps195
  go_wp2
  rw [Lib.run_neq_ptr_same w _ Tryz.underlying127 hj]
  go_wp2
  go_end0
  exact ⟨rfl, rfl⟩
set_option maxHeartbeats 1000000 in
theorem Tryz.bl_fresh (b : Nat) (w : World) (h0 : w.cell? ⟨b, 0, none⟩ = some (.pointer none)) (hsh : w.shape? b = some (129, 2)) (hfz : w.frozen? ⟨b, 0, none⟩ = false) :
    Calls Tryz.prog 195 #[.pointer (some ⟨b, 0, none⟩)] w fun e w' => e = .returned (.tuple #[]) ∧ w' = w.setCell ⟨b, 0, none⟩ (.pointer (some ⟨b, 0, none⟩)) := by
  obtain ⟨j, hj, hjs⟩ := Option.map_eq_some_iff.1 Tryz.blSize
  go_enter Tryz.func195, Tryz.ntmps195
  go_wp2
  rw [Lib.run_to_unsafe w ⟨b, 0, none⟩ Tryz.underlying127 Tryz.underlying210 hj (by rw [hjs]; decide) hsh (Nat.zero_lt_succ 1)]
  simp only [Result.andThen]
  rw [Oper.upon_value]
  go_wp2
  rw [run_callFunc_extern Tryz.func336 (by kernel_rfl) (by kernel_rfl) (by kernel_rfl) (e := Extern.AbiNoEscape.same) (by kernel_rfl)]
  rw [Lib.run_noEscape]
  simp only [Result.andThen]
  rw [Oper.upon_value]
  go_wp2
  rw [Lib.run_from_unsafe w ⟨b, 0, none⟩ Tryz.underlying210 Tryz.underlying127 hj hsh Tryz.blLies]
  simp only [Result.andThen]
  rw [Oper.upon_value]
  go_wp2
  go_end0
  exact ⟨rfl, rfl⟩
theorem Tryz.bl_check (B b : Nat) (bs : List Value) (w : World) (h : Lib.IsBuilder 129 5 B b bs w) :
    Calls Tryz.prog 195 #[.pointer (some ⟨b, 0, none⟩)] w fun e w' => e = .returned (.tuple #[]) ∧ (Lib.BuilderAt 129 5 B b (.pointer (some ⟨b, 0, none⟩)) bs w' ∧ Below B w w') := by
  rcases h with h | h
  · refine (Tryz.bl_fresh b w h.cell0 h.shape h.frozen0).mono ?_
    rintro e w' ⟨rfl, rfl⟩
    exact ⟨rfl, h.used _, (Below.refl B w).setCell (p := ⟨b, 0, none⟩) h.1 _⟩
  · refine (Tryz.bl_used b w h.cell0).mono ?_
    rintro e w' ⟨rfl, rfl⟩
    exact ⟨rfl, h, Below.refl B _⟩
set_option maxHeartbeats 2000000 in
theorem Tryz.bl_write (B b : Nat) (bs : List Value) (c : Int) (w : World) (h : Lib.IsBuilder 129 5 B b bs w) (hlen : bs.length + 1 ≤ 140737488355328) (hBw : B ≤ w.heap.size) :
    Calls Tryz.prog 145 #[.pointer (some ⟨b, 0, none⟩), .int .u8 c] w fun e w' => e = .returned .nilIface ∧ (Lib.BuilderAt 129 5 B b (.pointer (some ⟨b, 0, none⟩)) (bs ++ [.int .u8 c]) w' ∧ Below B w w') := by
  obtain ⟨i0, hi, hz0, hz1, hz2⟩ := info_parts Tryz.blByte
  go_enter Tryz.func145, Tryz.ntmps145
  go_wp2_with (go_at_call 195; refine (Tryz.bl_check B b bs _ h).mono ?_)
  rintro e w1 ⟨rfl, h1, hb1⟩
  obtain ⟨hB, v, hbk, hown, hne⟩ := h1
  have c0 : w1.cell? ⟨b, 0, none⟩ = some (.pointer (some ⟨b, 0, none⟩)) := by rw [Lib.cell_of_heap hbk]; rfl
  have c1 : w1.cell? ⟨b, 1, none⟩ = some v := by rw [Lib.cell_of_heap hbk]; rfl
  go_wp2_with (at_builtin; refine wpList_append_own _ rfl _ _ 38 rfl B 5 i0 (.int .u8 0) 1 1 Tryz.underlying38 hi hz0 hz1 hz2 rfl (by decide) _ _ _ rfl (hown.alloc _) ⟨w1.heap.size, 0, none⟩ 1 1 [.int .u8 c] rfl rfl ?c1 ?c2 ?c3 ?c4 ?c5 ?_)
  case c1 =>
    intro j u hj
    match j, hj with
    | 0, hj => simp at hj; subst hj; simp [Addr.add]
  case c2 => intro u hu; simp at hu; subst hu; rfl
  case c3 => unfold maxLen; omega
  case c4 => omega
  case c5 => have := hb1.size; simp; omega
  intro v' w2 hown' hgrow _
  have hlt : b < w1.heap.size := by
    rcases Nat.lt_or_ge b w1.heap.size with h' | h'
    · exact h'
    · simp [Array.getElem?_eq_none h'] at hbk
  have hb2 : w2.heap[b]? = some (.cells #[.pointer (some ⟨b, 0, none⟩), v] 129 (0, 0)) := by
    rw [hgrow.block b (by simp; omega) (fun e => hne e.symm), Lib.alloc_old w1 _ b hlt]
    exact hbk
  have d0 : w2.cell? ⟨b, 0, none⟩ = some (.pointer (some ⟨b, 0, none⟩)) := by rw [Lib.cell_of_heap hb2]; rfl
  have d1 : w2.cell? ⟨b, 1, none⟩ = some v := by rw [Lib.cell_of_heap hb2]; rfl
  have f1 : w2.frozen? ⟨b, 1, none⟩ = false := Lib.frozen_of_heap hb2 1
  obtain ⟨g, cap, rfl⟩ : ∃ g cap, v' = .slice (some ⟨g, 0, none⟩) (bs.length + 1) cap := by
    rcases hown'.2 with ⟨_, h0⟩ | ⟨g, cap, cur, hv, _⟩
    · omega
    · exact ⟨g, cap, hv⟩
  go_wp2
  go_ret
  refine ⟨rfl, ?_, ?_⟩
  · exact Lib.BuilderAt.put (T := 129) (e := 5) hB hb2 (bs' := bs ++ [.int .u8 c]) (by simpa using hown') (by decide)
  · exact ((hb1.alloc (by have := hb1.size; omega) _).grown hgrow (by have := hb1.size; simp; omega) (fun k hk => (hown.lt k hk).1)).setCell (p := ⟨b, 1, none⟩) hB _
def Tryz.blRen : Go.Shelf.Ren := ⟨fun | 169 => 146 | n => n, fun | 70 => 127 | 9 => 9 | 0 => 0 | 72 => 129 | 37 => 38 | 127 => 173 | 3 => 3 | 5 => 5 | n => n, fun | n => n⟩
theorem Tryz.blLays : Go.Proofs.Lays.n169 Tryz.prog Tryz.blRen := {
  mixed := by kernel_rfl
  f169 := Tryz.func146.trans (congrArg some (by kernel_rfl))
  t0 := Tryz.underlying0
  a0 := Tryz.isAgg0
  z0 := Tryz.sizeOf0
  v0 := Tryz.zeroValue0
  t3 := Tryz.underlying3
  a3 := Tryz.isAgg3
  z3 := Tryz.sizeOf3
  v3 := Tryz.zeroValue3
  t9 := Tryz.underlying9
  a9 := Tryz.isAgg9
  z9 := Tryz.sizeOf9
  v9 := Tryz.zeroValue9
  t37 := Tryz.underlying38
  a37 := Tryz.isAgg38
  z37 := Tryz.sizeOf38
  v37 := Tryz.zeroValue38
  t70 := Tryz.underlying127
  a70 := Tryz.isAgg127
  z70 := Tryz.sizeOf127
  v70 := Tryz.zeroValue127
  t72 := Tryz.underlying129
  a72 := Tryz.isAgg129
  z72 := Tryz.sizeOf129
  v72 := Tryz.zeroValue129
  t127 := Tryz.underlying173
  a127 := Tryz.isAgg173
  z127 := Tryz.sizeOf173
  v127 := Tryz.zeroValue173 }
theorem Tryz.blExtra : Builder.Extra Tryz.prog Tryz.blRen := {
  sizeBuilder := by kernel_rfl
  liesBuilder := by kernel_rfl
  t5 := Tryz.underlying5
  a5 := Tryz.isAgg5
  z5 := Tryz.sizeOf5
  v5 := Tryz.zeroValue5
  infoByte := by kernel_rfl
  cellsByte := by kernel_rfl
  sizeByte := by kernel_rfl
  neB5 := by decide }
theorem Tryz.bl_string (B b : Nat) (l : List UInt8) (w : World) (h : Lib.IsBuilder 129 5 B b (Lib.byteCells l) w) (hBw : B ≤ w.heap.size) :
    Calls Tryz.prog 146 #[.pointer (some ⟨b, 0, none⟩)] w fun e w' => e = .returned (.string ⟨l.toArray⟩) ∧ Below B w w' := Any.Builder_String_any Tryz.blLays Tryz.blExtra B b l w h hBw
set_option maxHeartbeats 4000000 in
theorem Tryz.bl_cap (s : ByteArray) (B k : Nat) (hk : k < s.size) (w : World) (hc : w.cell? ⟨B, 0, none⟩ = some (.string s)) :
    Calls Tryz.prog 144 #[.int .i64 k, .pointer (some ⟨B, 0, none⟩)] w fun e w' => e = .returned (.int .u8 (upB s[k]).toNat) ∧ w' = w := by
  go_enter Tryz.func144, Tryz.ntmps144
  go_wp2
  · rename_i h1 h2
    go_ret
    refine ⟨?_, rfl⟩
    show Ending.returned (Value.int .u8 ((s[k].toNat : Int) - 97 + 65)) = _
    unfold upB
    rw [if_pos ⟨by omega, by omega⟩, UInt8.toNat_sub_of_le _ _ (by rw [UInt8.le_iff_toNat_le]; show 32 ≤ _; omega)]
    rw [show ((s[k].toNat - UInt8.toNat 32 : Nat) : Int) = (s[k].toNat : Int) - 97 + 65 from by show ((s[k].toNat - 32 : Nat) : Int) = _; omega]
  · rename_i h1 h2
    go_ret
    refine ⟨?_, rfl⟩
    show Ending.returned (Value.int .u8 (s[k].toNat : Int)) = _
    unfold upB
    rw [if_neg (by omega)]
  · rename_i h1
    go_ret
    refine ⟨?_, rfl⟩
    show Ending.returned (Value.int .u8 (s[k].toNat : Int)) = _
    unfold upB
    rw [if_neg (by omega)]
set_option maxHeartbeats 4000000 in
theorem Tryz.bl_fold (s : ByteArray) (w : World) (hs : s.size ≤ 35184372088832) :
    Calls Tryz.prog 41 #[.string s] w fun e w' => e = .returned (.string (upS s)) ∧ Below w.heap.size w w' := by
  go_enter Tryz.func41, Tryz.ntmps41
  go_wp2
  go_loopw [9] (fun i wr => ∃ k : Nat, k ≤ s.size ∧ i = .int .i64 k ∧ Lib.IsBuilder 129 5 (w.heap.size + 1) (w.heap.size + 1) (Lib.byteCells ((s.data.toList.take k).map upB)) wr ∧ wr.heap[w.heap.size]? = some (.cells #[.string s] 9 (0, 0)) ∧ Below w.heap.size w wr ∧ w.heap.size + 1 < wr.heap.size) (fun i _ => s.size - (intOf i).toNat)
  case atStart =>
    have e0 : (w.alloc (Obj.cells #[Value.string s] 9)).heap.size = w.heap.size + 1 := by simp
    have hf := Lib.fresh_isBuilder 129 5 (w.alloc (Obj.cells #[Value.string s] 9))
    rw [e0] at hf
    refine ⟨0, by omega, rfl, hf, ?_, ((Below.refl _ w).alloc (Nat.le_refl _) _).alloc (by simp) _, by simp⟩
    rw [Lib.alloc_old _ _ _ (by simp)]
    exact heap_alloc_new w _
  case round =>
    obtain ⟨k, hk, rfl, hI, hb, hbw, hsz⟩ := hrel
    have c0 : wr.cell? ⟨w.heap.size, 0, none⟩ = some (.string s) := by rw [Lib.cell_of_heap hb]; rfl
    have sz : s.data.toList.length = s.size := by rw [Array.length_toList]; rfl
    have hlen : (Lib.byteCells ((s.data.toList.take k).map upB)).length + 1 ≤ 140737488355328 := by
      rw [Lib.byteCells_length, List.length_map, List.length_take, sz]; omega
    by_cases hp : k < s.size
    · go_wp2_with (first
        | (go_at_call 144; refine (Tryz.bl_cap s w.heap.size k hp _ c0).mono ?_; rintro e w1 ⟨rfl, rfl⟩)
        | (go_at_call 145; refine (Tryz.bl_write (w.heap.size + 1) (w.heap.size + 1) _ _ _ hI hlen (by omega)).mono ?_; rintro e w2 ⟨rfl, h1, b1⟩))
      go_roundw
      case rel =>
        refine ⟨k + 1, by omega, by go_num, ?_, by rw [b1.block _ (by omega)]; exact hb, hbw.trans (b1.mono (by omega)), ?_⟩
        · have e1 : (s.data.toList.take (k + 1)).map upB = (s.data.toList.take k).map upB ++ [upB s[k]] := by
            rw [List.take_add_one, List.map_append]
            have : s.data.toList[k]? = some s[k] := by rw [Array.getElem?_toList]; exact Array.getElem?_eq_getElem hp
            rw [this]; rfl
          rw [e1, Lib.byteCells_append]; exact .inr h1
        · have := b1.size; omega
      case measure =>
        show s.size - ((k : Int) + 1).toNat < s.size - (k : Int).toNat
        omega
    · obtain rfl : k = s.size := by omega
      go_wp2_with (go_at_call 146; refine (Tryz.bl_string (w.heap.size + 1) (w.heap.size + 1) _ _ hI (by omega)).mono ?_; rintro e w1 ⟨rfl, b1⟩)
      go_ret
      refine ⟨?_, hbw.trans (b1.mono (by omega))⟩
      rw [List.take_of_length_le (by first | (rw [List.length_map, sz]; exact Nat.le_refl _) | (rw [sz]; exact Nat.le_refl _))]
      rfl
end Go.Proofs
set_option maxRecDepth 100000
namespace Fz.D
open Go Go.Proofs Go.Proofs.YtagdmfgnnhlakaaGreatDoor Go.ChangeShapes Go.WideShapes Go.ChangeAt Go.RowKit
def nr (af : AFun) : Bool := !hasR af.code && match af.dfr with
  | some (pre, _, _, r) => pre.all (fun c => !hasR c) && !hasR r
  | none => true
theorem rOkF_of {q : AP} {af : AFun} (h : nr af = true) : rOkF q af := by
  unfold nr at h
  rw [Bool.and_eq_true, Bool.not_eq_true'] at h
  refine ⟨rOk_of _ h.1, fun x hx => ?_⟩
  obtain ⟨pre, a, b, r⟩ := x
  rw [hx] at h
  simp only [Bool.and_eq_true, List.all_eq_true, Bool.not_eq_true'] at h
  exact ⟨fun c hc => rOk_of _ (h.2.1 c hc), rOk_of _ h.2.2⟩
theorem tab_nr : tab.all (fun x => nr x.2) = true := by kernel_rfl
theorem rng_ok {q : AP} (f : FuncId) (af : AFun) (h : lk tab f = some af) : rOkF q af := rOkF_of (List.all_eq_true.1 tab_nr _ (lk_mem _ _ _ h))
theorem lift_ok {P : Program} {f : FuncId} {g : List V → Option V} (hg : ∀ args v, g args = some v → ∀ (K : Kn) (β : Bi) (H : List Ob) (w : World) (cargs : Array Value), Inv K β H w → LR K β args cargs.toList → DoesOk P f cargs w (CallPost K β H w (.ret v) H))
    (args : List V) (H : List Ob) (v : V) (H' : List Ob) (h : liftP g args H = some (v, H')) (K : Kn) (β : Bi) (w : World) (cargs : Array Value) (hI : Inv K β H w) (ha : LR K β args cargs.toList) : DoesOk P f cargs w (CallPost K β H w (.ret v) H') := by
  obtain ⟨u, hu, h⟩ := Option.map_eq_some_iff.1 h
  cases h
  exact hg _ _ hu K β H w cargs hI ha
theorem fold_ok (args : List V) (v : V) (h : foldP args = some v) (K : Kn) (β : Bi) (H : List Ob) (w : World) (cargs : Array Value) (hI : Inv K β H w) (ha : LR K β args cargs.toList) : DoesOk Tryz.prog 41 cargs w (CallPost K β H w (.ret v) H) := by
  unfold foldP at h
  split at h
  · rename_i s
    split at h
    · rename_i hs
      cases h
      obtain ⟨cs⟩ := cargs
      obtain ⟨c, r, e, h1, h2⟩ := ha.head
      obtain rfl : r = [] := List.eq_nil_of_length_eq_zero h2.1.symm
      have e : cs = [c] := e
      subst e
      cases h1
      exact walked_ok Tryz.func41 (by kernel_rfl) rfl (by decide) hI (Tryz.bl_fold s w hs) (.str _)
    · cases h
  · cases h
theorem prim0_ok (f : FuncId) (g : List V → List Ob → Option (V × List Ob)) (h : prim0 f = some g) (args : List V) (H : List Ob) (v : V) (H' : List Ob) (hv : g args H = some (v, H')) (K : Kn) (β : Bi) (w : World) (cargs : Array Value) (hI : Inv K β H w) (ha : LR K β args cargs.toList) :
    DoesOk Tryz.prog f cargs w (CallPost K β H w (.ret v) H') := by
  unfold prim0 at h
  split at h
  · rename_i e; subst e; cases h; exact lift_ok fold_ok _ _ _ _ hv K β w cargs hI ha
  split at h
  · rename_i e; subst e; cases h; exact lift_ok (fun a v h K β H w c => idx_ok Tryz.func378 (by kernel_rfl) (by kernel_rfl) (by kernel_rfl) (fun a => by kernel_rfl) (by decide) a v h K β H w c) _ _ _ _ hv K β w cargs hI ha
  split at h
  · rename_i e; subst e; cases h; exact lift_ok (fun a v h K β H w c hI ha => prim_ok Tryz.func321 (by kernel_rfl) (by kernel_rfl) (by kernel_rfl) (fun a => by kernel_rfl) a v h K β H w c hI ha) _ _ _ _ hv K β w cargs hI ha
  split at h
  · rename_i e; subst e; cases h; exact lift_ok (fun a v h K β H w c hI ha => prim_ok Tryz.func184 (by kernel_rfl) (by kernel_rfl) (by kernel_rfl) (fun a => by kernel_rfl) a v h K β H w c hI ha) _ _ _ _ hv K β w cargs hI ha
  split at h
  · rename_i e; subst e; cases h; exact lift_ok (fun a v h K β H w c hI ha => prim_ok Tryz.func322 (by kernel_rfl) (by kernel_rfl) (by kernel_rfl) (fun a => by kernel_rfl) a v h K β H w c hI ha) _ _ _ _ hv K β w cargs hI ha
  split at h
  · rename_i e; subst e; cases h; exact lift_ok (fun a v h K β H w c hI ha => prim_ok Tryz.func323 (by kernel_rfl) (by kernel_rfl) (by kernel_rfl) (fun a => by kernel_rfl) a v h K β H w c hI ha) _ _ _ _ hv K β w cargs hI ha
  split at h
  · rename_i e; subst e; cases h; exact lift_ok (fun a v h K β H w c hI ha => prim_ok Tryz.func328 (by kernel_rfl) (by kernel_rfl) (by kernel_rfl) (fun a => by kernel_rfl) a v h K β H w c hI ha) _ _ _ _ hv K β w cargs hI ha
  cases h
theorem apOk0 : APOk Tryz.prog p0 where
  mixed := by kernel_rfl
  fn f af h := fn_ok f af h
  prim f g h args H v H' hv K β w cargs _ hI ha := prim0_ok f g h args H v H' hv K β w cargs hI ha
  rng f af h := rng_ok f af h
  bods := bods_ok
theorem laid_ok {l : List (List UInt8)} {f : FuncId} {n : Nat} (hn : l.length = n) (h : WFun p0 f [] [] fun r H => r = .ret (.own 0 0 n 1) ∧ H = [.live (l.map wV)]) (args : List V) (H : List Ob) (v : V) (H' : List Ob) (hv : laidP l args H = some (v, H')) : H = [] ∧ ∃ k, acall p0 k f args [] = some (.ret v, H') := by
  unfold laidP at hv
  split at hv
  · cases hv
    obtain ⟨k, r, G, h1, rfl, rfl⟩ := h
    exact ⟨rfl, k, by rw [h1, hn]⟩
  · cases hv
theorem apOk1 : APOk Tryz.prog p1 where
  mixed := by kernel_rfl
  fn f af h := fn_ok f af h
  prim f g h args H v H' hv K β w cargs hL hI ha := by
    have h : prim1 f = some g := h
    unfold prim1 at h
    split at h
    · rename_i e; subst e; cases h; exact proved_own apOk0 (laid_ok (by kernel_rfl) list_run) args H v H' hv K β w cargs hL hI ha
    exact prim0_ok f g h args H v H' hv K β w cargs hI ha
  rng f af h := rng_ok f af h
  bods := bods_ok
theorem apOk : APOk Tryz.prog p := apOk1
theorem bulkOk : Bulk (fun {_} => Rows.uptoBulk) (fun {_} => Rows.uptoBulkAll) where
  lit b := by simp [Rows.uptoBulk]
  pos d := by
    cases d with
    | lit l => cases l <;> simp [Rows.uptoBulk]
    | _ => simp [Rows.uptoBulk]
  agg l := by simp [Rows.uptoBulk]
  slice l m := by simp [Rows.uptoBulk]
  nil := by simp [Rows.uptoBulkAll]
  cons d l := by simp [Rows.uptoBulkAll]
theorem own : ownKnob Tryz.prog.godebug = none := by kernel_rfl
theorem laidOut : laidOutB Tryz.prog = true := by kernel_rfl
theorem frz_bool {k : Nat} {u u' : V} {b : Bool} {H H' : List Ob} (h : freezeV k u H = some (u', H')) (hn : nrm u' = .bool b) : u = .bool b := by
  cases k with
  | zero => cases h
  | succ k =>
    have hu : ∀ x, nrm x = .bool b → x = .bool b := by
      intro x hx
      cases x <;> first | (rw [nr_bool] at hx; exact hx) | (simp [nrm] at hx)
    have := hu u' hn
    subst this
    cases u with
    | bool c => simp [freezeV] at h; rw [h.1]
    | own a b c d => exfalso; simp only [freezeV] at h; repeat' split at h
                     all_goals first | (cases h; done) | simp at h
    | mref a => exfalso; simp only [freezeV] at h; repeat' split at h
                all_goals first | (cases h; done) | simp at h
    | agg l => simp only [freezeV] at h; obtain ⟨x, _, h⟩ := Option.map_eq_some_iff.1 h; simp at h
    | tuple l => simp only [freezeV] at h; obtain ⟨x, _, h⟩ := Option.map_eq_some_iff.1 h; simp at h
    | _ => simp [freezeV] at h
theorem done {f : FuncId} {args : List V} (h : Comes p f args (.bool true)) (hi : p.inlY f = false) : ∃ n H', acall p n f args [] = some (.ret (.bool true), H') := by
  obtain ⟨_, _, _, n, u, H', h3, h4⟩ := h
  rcases h4 with ⟨h4, rfl⟩ | ⟨_, u', H'', h5, h6⟩
  · rw [hi] at h4; cases h4
  · exact ⟨n, H', by rw [h3, frz_bool h5 h6]⟩
end Fz.D
set_option maxRecDepth 100000
namespace Go.Proofs.YtagdmfgnnhlakaaGreatDoor
open Fz Fz.D Go.ChangeShapes Go.WideShapes Go.ChangeAt Go.RowKit
theorem gTab : Tryz.prog.globalNamed "strings.asciiSpace" = some 0 := by kernel_rfl
theorem gTabType : (Tryz.prog.globals[0]?).map (·.type) = some 170 := by kernel_rfl
theorem cellsTab : Tryz.prog.cellsOf 170 = 256 := by kernel_rfl
theorem cells8 : Tryz.prog.cellsOf 5 = 1 := by kernel_rfl
theorem tab_data : (Rows.laid_strings_asciiSpace : DataW Unit) = Lib.tabData .u8 asciiN := by kernel_rfl
theorem glob_ok {W : World} (hL : laidMet Tryz.prog (("strings.asciiSpace", Lib.tabData .u8 asciiN) :: []) W) : GlobW W := by
  have t : Lib.TabIs Tryz.prog W "strings.asciiSpace" .u8 asciiN := Lib.tabIs_of_head (rest := []) gTab gTabType Tryz.underlying170 Tryz.underlying5 cells8 cellsTab hL
  intro g l hg
  unfold globs at hg
  split at hg
  · rename_i e
    subst e
    cases hg
    have hc : ∀ i, i < 256 → W.cell? ⟨0, i, none⟩ = some (.int .u8 (asciiN.getD i 0)) := fun i hi => t.cell gTab i (by rw [show asciiN.length = 256 from by kernel_rfl]; exact hi)
    obtain ⟨_, cs, e, fr, h1, h2⟩ := cell_block (hc 255 (by omega))
    have h1 : W.heap[0]? = some (.cells cs e fr) := h1
    have hsz : 255 < cs.size := (Array.getElem?_eq_some_iff.1 (show cs[255]? = _ from h2)).1
    refine ⟨cs, e, fr, h1, by rw [List.length_map, show asciiN.length = 256 from by kernel_rfl]; omega, fun i v hv => ?_⟩
    rw [List.getElem?_map, Option.map_eq_some_iff] at hv
    obtain ⟨n, hn, rfl⟩ := hv
    refine ⟨.u8, n, rfl, ?_⟩
    have hi : i < 256 := by rw [← show asciiN.length = 256 from by kernel_rfl]; exact (List.getElem?_eq_some_iff.1 hn).1
    obtain ⟨_, cs', e', fr', h3, h4⟩ := cell_block (hc i hi)
    have h3 : W.heap[0]? = some (.cells cs' e' fr') := h3
    rw [h1] at h3
    cases h3
    have h4 : cs[i]? = some (.int .u8 (asciiN.getD i 0)) := h4
    rw [Array.getD_eq_getD_getElem?, h4, List.getD_eq_getElem?_getD, hn]
    rfl
  · cases hg
def seatLaid : List (String × DataW Unit) := [("unicode.White_Space", Rows.laid_unicode_White_Space), ("strings.asciiSpace", Rows.laid_strings_asciiSpace)]
theorem glob_seat {W : World} (hL : laidMetH Tryz.prog seatLaid W) : GlobW W := by
  rw [MakeChecks.laidMetH_plain _ _ _ (by kernel_rfl)] at hL
  have h := hL.filter fun x => x.1 == "strings.asciiSpace"
  refine glob_ok ?_
  rw [← tab_data]
  exact h
theorem door_met (os : Os) (args : Array Value) : laidMetH Tryz.prog seatLaid ((World.doorLaid Tryz.prog 400 os).forCall (fun _ _ => 0) ⟨#[], args, []⟩).memory :=
  laidMetH_of_parts3 (fuel := 8) (laidMet_of_run' 8 (by kernel_rfl) (by kernel_rfl)) (by kernel_rfl) (by kernel_rfl)
end Go.Proofs.YtagdmfgnnhlakaaGreatDoor
set_option maxRecDepth 100000
namespace Fz.D
open Go
theorem list_s : Comes p 39 [] (.list (opsL.map wV) false) := ⟨rfl, by kernel_rfl, rfl, 1, .own 0 0 137 1, [.live (opsL.map wV)], by kernel_rfl, .inr ⟨rfl, .list (opsL.map wV) false, [.fixed (opsL.map wV)], by kernel_rfl, by kernel_rfl⟩⟩
theorem opsL_len : opsL.length = 137 := by kernel_rfl
theorem is_s (op : Int) : Comes p 28 [.int .i64 op] (.bool (decide (1 ≤ op) && decide (op ≤ 137))) := by
  refine Comes_of w28 rfl rfl k28 ?_ ?_ ?_ ?_
  · simp
  · simp
  · simp
  · by_cases c1 : (1 : Int) ≤ op <;> by_cases c2 : op ≤ (137 : Int) <;> simp -dsimp [w28, wFix_by, isInl, c1, c2, call_by list_s, opsL_len]
def nameF (op : Int) : ByteArray := if 1 ≤ op ∧ op ≤ 137 then ⟨(opsL[op.toNat - 1]?.getD []).toArray⟩ else ⟨#[]⟩
theorem name_s (op : Int) : Comes p 17 [.int .i64 op] (.str (nameF op)) := by
  have h := is_s op
  refine Comes_of w17 rfl rfl k17 ?_ ?_ ?_ ?_
  · simp
  · simp
  · simp
  · by_cases c1 : (1 : Int) ≤ op
    · by_cases c2 : op ≤ (137 : Int)
      · obtain ⟨n, rfl⟩ : ∃ n : Nat, op = (n : Int) + 1 := ⟨(op - 1).toNat, by omega⟩
        have e : nameF ((n : Int) + 1) = ⟨(opsL[n]?.getD []).toArray⟩ := by
          unfold nameF
          rw [if_pos ⟨c1, c2⟩]
          congr
        have w1 : IntKind.i64.wrap (n : Int) = (n : Int) := Fz.w64 (by omega) (by omega)
        have hm : n < 137 := by omega
        have hn : n < opsL.length := by rw [opsL_len]; omega
        rw [e]
        simp only [c1, c2, decide_true, Bool.and_true] at h
        simp -dsimp [w17, wFix_by, isInl, call_by h, call_by list_s, opsL_len, w1, hm, wV]
        all_goals rfl
      · simp only [c1, c2, decide_false, Bool.and_false] at h
        have e : nameF op = ⟨#[]⟩ := by unfold nameF; rw [if_neg (by omega)]
        simp -dsimp [w17, wFix_by, isInl, call_by h, e]
    · simp only [c1, decide_false, Bool.false_and] at h
      have e : nameF op = ⟨#[]⟩ := by unfold nameF; rw [if_neg (by omega)]
      simp -dsimp [w17, wFix_by, isInl, call_by h, e]
end Fz.D
set_option maxRecDepth 100000
namespace Fz.D
open Go
def madeF (f : FuncId) (args : List V) : Option V := (acall p 1000 f args []).bind fun x => match x.1 with
  | .ret u => (freezeV depthF u x.2).map fun y => nrm y.1
  | .panic _ => none
theorem Comes_made {f : FuncId} {args : List V} {v : V} (h : madeF f args = some v) (ha : args.all gr = true) (hv : gr v = true) (hn : args.all nm = true) (hi : p.inlY f = false) : Comes p f args v := by
  unfold madeF at h
  obtain ⟨⟨r, H⟩, h1, h2⟩ := Option.bind_eq_some_iff.1 h
  cases r with
  | ret u =>
    obtain ⟨⟨u', H'⟩, h3, h4⟩ := Option.map_eq_some_iff.1 h2
    exact ⟨ha, hv, by rw [hn, Bool.or_true], 1000, u, H, h1, .inr ⟨hi, u', H', h3, h4⟩⟩
  | panic u => cases h2
end Fz.D
set_option maxRecDepth 100000
namespace Fz.D
open Go
def thrown (e : Int) : V := .iface 67 (.int .i64 e)
theorem aMust_0 {H : List Ob} {Q : CR → List Ob → Prop} (hq : Q (.ret (.tuple [])) H) : xCall p 74 [.int .i64 0] H Q := by
  refine WCall_inl (ids := []) rfl rfl ?_
  refine WFun_of w74 rfl rfl k74 ?_
  simp -dsimp [w74, backH, setAll, renR, crV, refs, refsL, renL, ren, hq]
theorem aMust_x {e : Int} (he : e ≠ 0) {H : List Ob} {Q : CR → List Ob → Prop} (hq : Q (.panic (thrown e)) H) : xCall p 74 [.int .i64 e] H Q := by
  refine WCall_inl (ids := []) rfl rfl ?_
  refine WFun_of w74 rfl rfl k74 ?_
  unfold thrown at hq
  simp -dsimp [w74, backH, setAll, renR, crV, refs, refsL, renL, ren, he, hq]
theorem aIs_t {e : Int} {H : List Ob} {Q : CR → List Ob → Prop} (hq : Q (.ret (.tuple [])) H) : xCall p 34 [.bool true, .int .i64 e] H Q := by
  refine WCall_inl (ids := []) rfl rfl ?_
  refine WFun_of w34 rfl rfl k34 ?_
  simp -dsimp [w34, backH, setAll, renR, crV, refs, refsL, renL, ren, hq]
theorem aIs_f {e : Int} (he : e ≠ 0) {H : List Ob} {Q : CR → List Ob → Prop} (hq : Q (.panic (thrown e)) H) : xCall p 34 [.bool false, .int .i64 e] H Q := by
  refine WCall_inl (ids := []) rfl rfl ?_
  refine WFun_of w34 rfl rfl k34 ?_
  simp -dsimp [w34, renL, ren]
  refine aMust_x he ?_
  simp [thrown, backH, setAll, renR, crV, refs, refsL, renL, ren]
  exact hq
theorem aPop_s {l : List Int} (hl : l.length ≤ 100000) : Comes p 167 [inV l, .int .i64 1] (if l = [] then .tuple [inV [], inV [], .int .i64 (-4)] else .tuple [inV (l.take (l.length - 1)), inV (l.drop (l.length - 1)), .int .i64 0]) := by
  refine Comes_of w167 rfl rfl k167 ?_ ?_ ?_ ?_
  · simp
  · simp
  · split <;> simp
  · by_cases h : l = []
    · subst h
      have w1 : IntKind.i64.wrap (0 - 1) = -1 := by decide
      have w2 : IntKind.i64.wrap (-1) = -1 := by decide
      simp -dsimp [w167, wFix_by, isInl, inV, w1, w2]
    · have hp : 0 < l.length := List.length_pos_iff.2 h
      have w1 : IntKind.i64.wrap ((l.length : Int) - 1) = ((l.length - 1 : Nat) : Int) := by rw [Fz.w64 (by omega) (by omega)]; omega
      rw [if_neg h]
      simp -dsimp [w167, wFix_by, isInl, inV, w1]
      have e1 : List.take (l.length - 1) (l.map (V.int .i64)) = (l.take (l.length - 1)).map (V.int .i64) := List.map_take.symm
      have e2 : List.take (l.length - (l.length - 1)) (List.drop (l.length - 1) (l.map (V.int .i64))) = (l.drop (l.length - 1)).map (V.int .i64) := by
        rw [← List.map_drop, ← List.map_take, List.take_of_length_le (by simp)]
      have e3 : List.drop (l.length - 1) (l.map (V.int .i64)) = (l.drop (l.length - 1)).map (V.int .i64) := List.map_drop.symm
      rw [e1, e2, e3]
      generalize List.take (l.length - 1) l = A
      generalize List.drop (l.length - 1) l = B
      simp -dsimp []
theorem doesQ_of {p : AP} {f : FuncId} {l gs : List V} {v : V} {l' : List V} (hi : p.inlY f = true) (h1 : groundL l = true) (h2 : groundL gs = true) (h3 : ground v = true) (h4 : groundL l' = true)
    (h : WFun p f (.ptr 0 0 :: gs) [.live l] fun r H => r = .ret v ∧ ∃ Hx, H = .live l' :: Hx) : Does p f l gs v l' := by
  obtain ⟨n, r, H, e, rfl, Hx, rfl⟩ := h
  exact ⟨hi, h1, h2, h3, h4, n, Hx, e⟩
theorem doesQ_go {p : AP} {f : FuncId} {l gs : List V} {v : V} {l' : List V} {H : List Ob} {i : Nat} {Q : CR → List Ob → Prop} (h : Does p f l gs v l') (hi : H[i]? = some (.live l)) (hq : Q (.ret v) (H.set i (.live l'))) : xCall p f (.ptr i 0 :: gs) H Q := by
  show WCall p f (.ptr i 0 :: gs) H Q
  rw [WCall_does h hi]; exact hq
theorem reachQ {H : List Ob} {i : Nat} {l : List V} (hi : H[i]? = some (.live l)) (hl : refsL l = []) : reach H 1000 [i] [] = some [i] := by
  refine (reach_go (k := 999) rfl hi).trans ?_
  rw [show refsOb (.live l) = [] from hl]
  exact reach_end (k := 998)
theorem setQ {α : Type} {H : List α} {i : Nat} {x : α} (h : H[i]? = some x) : H.set i x = H := by
  apply List.ext_getElem?
  intro j
  rw [List.getElem?_set]
  split
  · rename_i e; subst e; rw [h]; simp [(List.getElem?_eq_some_iff.1 h).1]
  · rfl
def PV (b : Nat) (J : List Ob) (v : V) (l : List Int) : Prop := (∃ c, v = .list (l.map (V.int .i64)) c) ∨ ∃ j, v = .own (b + j) 0 l.length 1 ∧ J[j]? = some (.live (l.map (V.int .i64)))
theorem popD {l : List Int} {a : Int} (hl : l.length ≤ 50000) : Does p 72 [inV (l ++ [a])] [] (.int .i64 a) [inV l] := by
  have c := aPop_s (l := l ++ [a]) (by simp; omega)
  rw [if_neg (by simp)] at c
  simp only [List.length_append, List.length_singleton, Nat.add_sub_cancel, List.take_left, List.drop_left] at c
  refine doesQ_of (by kernel_rfl) (by simp) rfl rfl (by simp) ?_
  refine WFun_of w72 rfl rfl k72 ?_
  simp -dsimp [w72, call_by c]
  refine aMust_0 ?_
  simp -dsimp [inV]
theorem pop_0 {H : List Ob} {i : Nat} (hi : H[i]? = some (.live [inV []])) {Q : CR → List Ob → Prop} (hq : Q (.panic (thrown (-4))) H) : xCall p 72 [.ptr i 0] H Q := by
  have c := aPop_s (l := []) (by simp)
  rw [if_pos rfl] at c
  have hre : reach H 1000 (refsL [.ptr i 0]) [] = some [i] := reachQ hi (groundL_refs _ (by simp))
  refine WCall_inl (by kernel_rfl) hre ?_
  have e1 : ([i] : List Nat).idxOf i = 0 := by simp
  have hi' : H[i]?.getD .dead = .live [inV []] := by rw [hi]; rfl
  have rb : ∀ g b, ren g (inV b) = inV b := fun g b => ground_ren g _ (inV.gd b)
  simp -dsimp [renL, ren, renOb, e1, hi', rb]
  refine WFun_of w72 rfl rfl k72 ?_
  simp -dsimp [w72, call_by c]
  refine aMust_x (by decide) ?_
  have r0 : ∀ b, refs (inV b) = [] := fun b => ground_refs _ (inV.gd b)
  simp [thrown, backH, setAll, renOb, ren, renL, renR, crV, refs, refsL, refsOb, rb, r0, setQ hi]
  exact hq
theorem needD {l : List Int} {m : Int} (h : m ≤ l.length) : Does p 164 [inV l] [.int .i64 m] (.tuple []) [inV l] := by
  refine doesQ_of (by kernel_rfl) (by simp) rfl rfl (by simp) ?_
  refine WFun_of w164 rfl rfl k164 ?_
  simp -dsimp [w164, h]
  refine aIs_t ?_
  simp -dsimp []
theorem need_0 {H : List Ob} {i : Nat} {l : List Int} {m : Int} (hi : H[i]? = some (.live [inV l])) (h : ¬ m ≤ l.length) {Q : CR → List Ob → Prop} (hq : Q (.panic (thrown (-4))) H) : xCall p 164 [.ptr i 0, .int .i64 m] H Q := by
  have hre : reach H 1000 (refsL [.ptr i 0, .int .i64 m]) [] = some [i] := reachQ hi (groundL_refs _ (by simp))
  refine WCall_inl (by kernel_rfl) hre ?_
  have e1 : ([i] : List Nat).idxOf i = 0 := by simp
  have hi' : H[i]?.getD .dead = .live [inV l] := by rw [hi]; rfl
  have rb : ∀ g b, ren g (inV b) = inV b := fun g b => ground_ren g _ (inV.gd b)
  simp -dsimp [renL, ren, renOb, e1, hi', rb]
  refine WFun_of w164 rfl rfl k164 ?_
  simp -dsimp [w164, h]
  refine aIs_f (by decide) ?_
  have r0 : ∀ b, refs (inV b) = [] := fun b => ground_refs _ (inV.gd b)
  simp [thrown, backH, setAll, renOb, ren, renL, renR, crV, refs, refsL, refsOb, rb, r0, setQ hi]
  exact hq
theorem push_s {H : List Ob} {i : Nat} {l vs : List Int} (hi : H[i]? = some (.live [inV l])) (hl : l.length + vs.length ≤ 100000) {Q : CR → List Ob → Prop} (hq : ∀ v J, PV H.length J v (l ++ vs) → Q (.ret (.tuple [])) (H.set i (.live [v]) ++ J)) : xCall p 75 [.ptr i 0, inV vs] H Q := by
  have rb : ∀ g b, ren g (inV b) = inV b := fun g b => ground_ren g _ (inV.gd b)
  have r0 : ∀ b, refs (inV b) = [] := fun b => ground_refs _ (inV.gd b)
  have hre : reach H 1000 (refsL [.ptr i 0, inV vs]) [] = some [i] := by
    have : refsL [.ptr i 0, inV vs] = [i] := by simp [refsL, refs, r0]
    rw [this]
    exact reachQ hi (groundL_refs _ (by simp))
  refine WCall_inl (by kernel_rfl) hre ?_
  have e1 : ([i] : List Nat).idxOf i = 0 := by simp
  have hi' : H[i]?.getD .dead = .live [inV l] := by rw [hi]; rfl
  simp -dsimp [renL, ren, renOb, e1, hi', rb]
  refine WFun_of w75 rfl rfl k75 ?_
  by_cases hv : vs = []
  · subst hv
    simp -dsimp [w75]
    have := hq (.list (l.map (V.int .i64)) true) [] (.inl ⟨true, by simp⟩)
    have rI : ∀ g, renL g (l.map (V.int .i64)) = l.map (V.int .i64) := fun g => groundL_ren g _ (by simp)
    have rx : refsL (l.map (V.int .i64)) = [] := groundL_refs _ (by simp)
    simpa [backH, setAll, renOb, ren, renL, renR, crV, refs, refsL, refsOb, rI, rx] using this
  · have hp : 0 < vs.length := List.length_pos_iff.2 hv
    have hv0 : ¬ vs.length = 0 := by omega
    simp -dsimp [w75, hv, hv0]
    refine ⟨by simp [capOk]; omega, ?_⟩
    have rI : ∀ g, renL g (l.map (V.int .i64) ++ vs.map (V.int .i64)) = l.map (V.int .i64) ++ vs.map (V.int .i64) := fun g => groundL_ren g _ (by simp)
    have := hq (.own H.length 0 (l.length + vs.length) 1) [.live (l.map (V.int .i64) ++ vs.map (V.int .i64))] (.inr ⟨0, by simp, by simp⟩)
    have k1 : backK [i] H.length 1 = H.length := by simp [backK]
    simpa [backH, setAll, renOb, ren, renL, renR, crV, refs, refsL, refsOb, rI, k1] using this
end Fz.D
set_option maxRecDepth 100000
namespace Fz.D
open Go
theorem pv_val {b : Nat} {J : List Ob} {v : V} {l : List Int} (h : PV b J v l) : cellsOf v = [v] ∧ isAny v = false ∧ storable v = true := by
  rcases h with ⟨c, rfl⟩ | ⟨j, rfl, _⟩ <;> exact ⟨rfl, rfl, rfl⟩
theorem pv_len {b : Nat} {J : List Ob} {v : V} {l : List Int} (h : PV b J v l) {K : V → Prop} : wSl v (fun l _ => wVal (V.int .i64 l.length) fun v => K v) (fun _ _ n _ => K (.int .i64 n)) = K (.int .i64 l.length) := by
  rcases h with ⟨c, rfl⟩ | ⟨j, rfl, _⟩
  · simp
  · simp
theorem pv_back {ids : List Nat} {H J : List Ob} {v : V} {l : List Int} (h : PV ids.length J v l) : PV H.length (J.map (renOb (backK ids H.length))) (ren (backK ids H.length) v) l := by
  have rI : ∀ g, renL g (l.map (V.int .i64)) = l.map (V.int .i64) := fun g => groundL_ren g _ (by simp)
  rcases h with ⟨c, rfl⟩ | ⟨j, rfl, h2⟩
  · exact .inl ⟨c, by simp [ren, rI]⟩
  · refine .inr ⟨j, ?_, ?_⟩
    · simp [ren, backK]; omega
    · rw [List.getElem?_map, h2]
      simp [renOb, rI]
theorem two_back {H J : List Ob} {i k : Nat} {v x : V} {l : List Int} (hk : H[k]? = some (.live [x])) (hx : ∀ g, ren g x = x) (hik : i ≠ k) (hpv : PV 2 J v l) {Q : CR → List Ob → Prop} (hq : ∀ v J, PV H.length J v l → Q (.ret (.tuple [])) (H.set i (.live [v]) ++ J)) :
    Q (renR (backK [i, k] H.length) (.ret (.tuple []))) (backH [i, k] (.ret (.tuple [])) (.live [v] :: .live [x] :: J) H) := by
  have hb := pv_back (ids := [i, k]) (H := H) hpv
  have hk2 : ∀ o, (H.set i o).set k (.live [x]) = H.set i o := fun o => by
    apply setQ
    rw [List.getElem?_set_ne hik]; exact hk
  rcases hpv with ⟨c, rfl⟩ | ⟨j, rfl, h2⟩
  · have rI : ∀ g, renL g (l.map (V.int .i64)) = l.map (V.int .i64) := fun g => groundL_ren g _ (by simp)
    have rx : refsL (l.map (V.int .i64)) = [] := groundL_refs _ (by simp)
    by_cases hr : (refs x).any (fun j => 2 ≤ j) = true
    · have := hq (.list (l.map (V.int .i64)) c) (J.map (renOb (backK [i, k] H.length))) (.inl ⟨c, rfl⟩)
      simp only [List.any_eq_true, decide_eq_true_eq] at hr
      simp [backH, setAll, renOb, ren, renL, renR, crV, refs, refsL, refsOb, rI, rx, hx, hk2, hr]
      simpa using this
    · have := hq (.list (l.map (V.int .i64)) c) [] (.inl ⟨c, rfl⟩)
      simp only [List.any_eq_true, decide_eq_true_eq] at hr
      simp [backH, setAll, renOb, ren, renL, renR, crV, refs, refsL, refsOb, rI, rx, hx, hk2, hr]
      simpa using this
  · have := hq _ _ hb
    have e1 : backH [i, k] (.ret (.tuple [])) (.live [.own (2 + j) 0 l.length 1] :: .live [x] :: J) H = H.set i (.live [ren (backK [i, k] H.length) (.own (2 + j) 0 l.length 1)]) ++ J.map (renOb (backK [i, k] H.length)) := by
      unfold backH
      rw [if_pos (by simp [crV, refs, refsL, refsOb])]
      simp [setAll, renOb, renL, hx, hk2]
    have e2 : ([i, k] : List Nat).length + j = 2 + j := rfl
    rw [e1]
    simpa [renR, ren, renL] using this
theorem reach2 {H : List Ob} {i k : Nat} {l : List Int} {x : V} (hi : H[i]? = some (.live [inV l])) (hk : H[k]? = some (.live [x])) (hx : refs x = []) (hik : i ≠ k) : reach H 1000 (refsL [.ptr i 0, .ptr k 0]) [] = some [i, k] := by
  have : refsL [.ptr i 0, .ptr k 0] = [i, k] := by simp [refsL, refs]
  rw [this]
  refine (reach_go (k := 999) rfl hi).trans ?_
  have r0 : refsOb (.live [inV l]) = [] := groundL_refs _ (by simp)
  have r1 : refsOb (.live [x]) = [] := by simp [refsOb, refsL, hx]
  rw [r0]
  refine (reach_go (k := 998) (by simp; omega) hk).trans ?_
  rw [r1]
  exact reach_end (k := 997)
def woneD : WF := { nt := 9, results := [], code :=
(.draw [mv 3 0,
ao 4 (.load false 1 (.t 1)),
mv 5 0,
⟨(some 6), .call 72 [(.t 5)], none, [2], true⟩,
⟨(some 7), .callv (.t 4) [(.t 6)], none, [1, 3, 3], true⟩,
⟨(some 8), .call 75 [(.t 3), (.t 7)], none, [0, 4, 4], true⟩]) }
theorem koneD : okW woneD.code = true := by kernel_rfl
def wtwoD : WF := { nt := 15, results := [], code :=
(.seq (.reg [mv 4 0,
ao 5 (.call 164 [(.t 4), (.c (.int .i64 2))])])
(.seq (.reg [mv 6 0,
ao 7 (.call 72 [(.t 6)]),
mv 3 7])
(.draw [mv 8 0,
ao 9 (.load false 1 (.t 1)),
mv 10 0,
⟨(some 11), .call 72 [(.t 10)], none, [2], true⟩,
mv 12 3,
⟨(some 13), .callv (.t 9) [(.t 11), (.t 12)], none, [1, 3, 4, 3], true⟩,
⟨(some 14), .call 75 [(.t 8), (.t 13)], none, [0, 5, 5], true⟩]))) }
theorem ktwoD : okW wtwoD.code = true := by kernel_rfl
def wthreeD : WF := { nt := 19, results := [], code :=
(.seq (.reg [mv 5 0,
ao 6 (.call 164 [(.t 5), (.c (.int .i64 3))])])
(.seq (.reg [mv 7 0,
ao 8 (.call 72 [(.t 7)]),
mv 9 0,
ao 10 (.call 72 [(.t 9)]),
mv 3 8,
mv 4 10])
(.draw [mv 11 0,
ao 12 (.load false 1 (.t 1)),
mv 13 0,
⟨(some 14), .call 72 [(.t 13)], none, [2], true⟩,
mv 15 4,
mv 16 3,
⟨(some 17), .callv (.t 12) [(.t 14), (.t 15), (.t 16)], none, [1, 3, 4, 5, 3], true⟩,
⟨(some 18), .call 75 [(.t 11), (.t 17)], none, [0, 6, 6], true⟩]))) }
theorem kthreeD : okW wthreeD.code = true := by kernel_rfl
def wfourD : WF := { nt := 23, results := [], code :=
(.seq (.reg [mv 6 0,
ao 7 (.call 164 [(.t 6), (.c (.int .i64 4))])])
(.seq (.reg [mv 8 0,
ao 9 (.call 72 [(.t 8)]),
mv 10 0,
ao 11 (.call 72 [(.t 10)]),
mv 12 0,
ao 13 (.call 72 [(.t 12)]),
mv 3 9,
mv 4 11,
mv 5 13])
(.draw [mv 14 0,
ao 15 (.load false 1 (.t 1)),
mv 16 0,
⟨(some 17), .call 72 [(.t 16)], none, [2], true⟩,
mv 18 5,
mv 19 4,
mv 20 3,
⟨(some 21), .callv (.t 15) [(.t 17), (.t 18), (.t 19), (.t 20)], none, [1, 3, 4, 5, 6, 3], true⟩,
⟨(some 22), .call 75 [(.t 14), (.t 21)], none, [0, 7, 7], true⟩]))) }
theorem kfourD : okW wfourD.code = true := by kernel_rfl
theorem one_s {H : List Ob} {i k : Nat} {l r : List Int} {a : Int} {f : FuncId} (hf : Comes p f [.int .i64 a] (inV r)) (hi : H[i]? = some (.live [inV (l ++ [a])])) (hk : H[k]? = some (.live [.fn (.func f) [] []])) (hl : l.length ≤ 10000) (hr : r.length ≤ 10) (hY : ¬ f = 4000000000)
    {Q : CR → List Ob → Prop} (hq : ∀ v J, PV H.length J v (l ++ r) → Q (.ret (.tuple [])) (H.set i (.live [v]) ++ J)) : xCall p 162 [.ptr i 0, .ptr k 0] H Q := by
  have hik : i ≠ k := by
    rintro rfl
    rw [hi] at hk
    simp [inV] at hk
  refine WCall_inl (by kernel_rfl) (reach2 hi hk rfl hik) ?_
  have e1 : ([i, k] : List Nat).idxOf i = 0 := by simp
  have e2 : ([i, k] : List Nat).idxOf k = 1 := by
    have e0 : (i == k) = false := by rw [beq_eq_false_iff_ne]; exact hik
    simp [List.idxOf_cons, e0]
  have hi' : H[i]?.getD .dead = .live [inV (l ++ [a])] := by rw [hi]; rfl
  have hk' : H[k]?.getD .dead = .live [.fn (.func f) [] []] := by rw [hk]; rfl
  have rb : ∀ g b, ren g (inV b) = inV b := fun g b => ground_ren g _ (inV.gd b)
  simp -dsimp [renL, ren, renOb, e1, e2, hi', hk', rb]
  refine WFun_of woneD rfl rfl koneD ?_
  simp -dsimp [woneD]
  refine WDraw_see (R := [.dead, .live [.fn (.func f) [] []]]) (by kernel_rfl) (by simp) ?_
  simp -dsimp []
  rw [show l ++ [a] = (l) ++ [a] from by simp]
  refine doesQ_go (popD (l := l) (a := a) (by first | omega | (simp; omega))) rfl ?_
  simp -dsimp [call_by hf, hY]
  refine push_s (i := 0) (l := l) (vs := r) ?_ (by omega) fun v J pv => ?_
  · rfl
  simp -dsimp []
  exact two_back hk (fun g => rfl) hik pv hq
theorem two_s {H : List Ob} {i k : Nat} {l r : List Int} {a b : Int} {f : FuncId} (hf : Comes p f [.int .i64 a, .int .i64 b] (inV r)) (hi : H[i]? = some (.live [inV (l ++ [a, b])])) (hk : H[k]? = some (.live [.fn (.func f) [] []])) (hl : l.length ≤ 10000) (hr : r.length ≤ 10) (hY : ¬ f = 4000000000)
    {Q : CR → List Ob → Prop} (hq : ∀ v J, PV H.length J v (l ++ r) → Q (.ret (.tuple [])) (H.set i (.live [v]) ++ J)) : xCall p 163 [.ptr i 0, .ptr k 0] H Q := by
  have hik : i ≠ k := by
    rintro rfl
    rw [hi] at hk
    simp [inV] at hk
  refine WCall_inl (by kernel_rfl) (reach2 hi hk rfl hik) ?_
  have e1 : ([i, k] : List Nat).idxOf i = 0 := by simp
  have e2 : ([i, k] : List Nat).idxOf k = 1 := by
    have e0 : (i == k) = false := by rw [beq_eq_false_iff_ne]; exact hik
    simp [List.idxOf_cons, e0]
  have hi' : H[i]?.getD .dead = .live [inV (l ++ [a, b])] := by rw [hi]; rfl
  have hk' : H[k]?.getD .dead = .live [.fn (.func f) [] []] := by rw [hk]; rfl
  have rb : ∀ g b, ren g (inV b) = inV b := fun g b => ground_ren g _ (inV.gd b)
  simp -dsimp [renL, ren, renOb, e1, e2, hi', hk', rb]
  refine WFun_of wtwoD rfl rfl ktwoD ?_
  simp -dsimp [wtwoD]
  refine doesQ_go (needD (m := 2) (by simp; omega)) rfl ?_
  simp -dsimp []
  rw [show l ++ [a, b] = (l ++ [a]) ++ [b] from by simp]
  refine doesQ_go (popD (l := l ++ [a]) (a := b) (by first | omega | (simp; omega))) rfl ?_
  simp -dsimp [call_by hf, hY]
  refine WDraw_see (R := [.dead, .live [.fn (.func f) [] []]]) (by kernel_rfl) (by simp) ?_
  simp -dsimp [call_by hf, hY]
  rw [show l ++ [a] = (l) ++ [a] from by simp]
  refine doesQ_go (popD (l := l) (a := a) (by first | omega | (simp; omega))) rfl ?_
  simp -dsimp [call_by hf, hY]
  refine push_s (i := 0) (l := l) (vs := r) ?_ (by omega) fun v J pv => ?_
  · rfl
  simp -dsimp []
  exact two_back hk (fun g => rfl) hik pv hq
theorem three_s {H : List Ob} {i k : Nat} {l r : List Int} {a b c : Int} {f : FuncId} (hf : Comes p f [.int .i64 a, .int .i64 b, .int .i64 c] (inV r)) (hi : H[i]? = some (.live [inV (l ++ [a, b, c])])) (hk : H[k]? = some (.live [.fn (.func f) [] []])) (hl : l.length ≤ 10000) (hr : r.length ≤ 10) (hY : ¬ f = 4000000000)
    {Q : CR → List Ob → Prop} (hq : ∀ v J, PV H.length J v (l ++ r) → Q (.ret (.tuple [])) (H.set i (.live [v]) ++ J)) : xCall p 165 [.ptr i 0, .ptr k 0] H Q := by
  have hik : i ≠ k := by
    rintro rfl
    rw [hi] at hk
    simp [inV] at hk
  refine WCall_inl (by kernel_rfl) (reach2 hi hk rfl hik) ?_
  have e1 : ([i, k] : List Nat).idxOf i = 0 := by simp
  have e2 : ([i, k] : List Nat).idxOf k = 1 := by
    have e0 : (i == k) = false := by rw [beq_eq_false_iff_ne]; exact hik
    simp [List.idxOf_cons, e0]
  have hi' : H[i]?.getD .dead = .live [inV (l ++ [a, b, c])] := by rw [hi]; rfl
  have hk' : H[k]?.getD .dead = .live [.fn (.func f) [] []] := by rw [hk]; rfl
  have rb : ∀ g b, ren g (inV b) = inV b := fun g b => ground_ren g _ (inV.gd b)
  simp -dsimp [renL, ren, renOb, e1, e2, hi', hk', rb]
  refine WFun_of wthreeD rfl rfl kthreeD ?_
  simp -dsimp [wthreeD]
  refine doesQ_go (needD (m := 3) (by simp; omega)) rfl ?_
  simp -dsimp []
  rw [show l ++ [a, b, c] = (l ++ [a, b]) ++ [c] from by simp]
  refine doesQ_go (popD (l := l ++ [a, b]) (a := c) (by first | omega | (simp; omega))) rfl ?_
  simp -dsimp [call_by hf, hY]
  rw [show l ++ [a, b] = (l ++ [a]) ++ [b] from by simp]
  refine doesQ_go (popD (l := l ++ [a]) (a := b) (by first | omega | (simp; omega))) rfl ?_
  simp -dsimp [call_by hf, hY]
  refine WDraw_see (R := [.dead, .live [.fn (.func f) [] []]]) (by kernel_rfl) (by simp) ?_
  simp -dsimp [call_by hf, hY]
  rw [show l ++ [a] = (l) ++ [a] from by simp]
  refine doesQ_go (popD (l := l) (a := a) (by first | omega | (simp; omega))) rfl ?_
  simp -dsimp [call_by hf, hY]
  refine push_s (i := 0) (l := l) (vs := r) ?_ (by omega) fun v J pv => ?_
  · rfl
  simp -dsimp []
  exact two_back hk (fun g => rfl) hik pv hq
theorem four_s {H : List Ob} {i k : Nat} {l r : List Int} {a b c d : Int} {f : FuncId} (hf : Comes p f [.int .i64 a, .int .i64 b, .int .i64 c, .int .i64 d] (inV r)) (hi : H[i]? = some (.live [inV (l ++ [a, b, c, d])])) (hk : H[k]? = some (.live [.fn (.func f) [] []])) (hl : l.length ≤ 10000) (hr : r.length ≤ 10) (hY : ¬ f = 4000000000)
    {Q : CR → List Ob → Prop} (hq : ∀ v J, PV H.length J v (l ++ r) → Q (.ret (.tuple [])) (H.set i (.live [v]) ++ J)) : xCall p 166 [.ptr i 0, .ptr k 0] H Q := by
  have hik : i ≠ k := by
    rintro rfl
    rw [hi] at hk
    simp [inV] at hk
  refine WCall_inl (by kernel_rfl) (reach2 hi hk rfl hik) ?_
  have e1 : ([i, k] : List Nat).idxOf i = 0 := by simp
  have e2 : ([i, k] : List Nat).idxOf k = 1 := by
    have e0 : (i == k) = false := by rw [beq_eq_false_iff_ne]; exact hik
    simp [List.idxOf_cons, e0]
  have hi' : H[i]?.getD .dead = .live [inV (l ++ [a, b, c, d])] := by rw [hi]; rfl
  have hk' : H[k]?.getD .dead = .live [.fn (.func f) [] []] := by rw [hk]; rfl
  have rb : ∀ g b, ren g (inV b) = inV b := fun g b => ground_ren g _ (inV.gd b)
  simp -dsimp [renL, ren, renOb, e1, e2, hi', hk', rb]
  refine WFun_of wfourD rfl rfl kfourD ?_
  simp -dsimp [wfourD]
  refine doesQ_go (needD (m := 4) (by simp; omega)) rfl ?_
  simp -dsimp []
  rw [show l ++ [a, b, c, d] = (l ++ [a, b, c]) ++ [d] from by simp]
  refine doesQ_go (popD (l := l ++ [a, b, c]) (a := d) (by first | omega | (simp; omega))) rfl ?_
  simp -dsimp [call_by hf, hY]
  rw [show l ++ [a, b, c] = (l ++ [a, b]) ++ [c] from by simp]
  refine doesQ_go (popD (l := l ++ [a, b]) (a := c) (by first | omega | (simp; omega))) rfl ?_
  simp -dsimp [call_by hf, hY]
  rw [show l ++ [a, b] = (l ++ [a]) ++ [b] from by simp]
  refine doesQ_go (popD (l := l ++ [a]) (a := b) (by first | omega | (simp; omega))) rfl ?_
  simp -dsimp [call_by hf, hY]
  refine WDraw_see (R := [.dead, .live [.fn (.func f) [] []]]) (by kernel_rfl) (by simp) ?_
  simp -dsimp [call_by hf, hY]
  rw [show l ++ [a] = (l) ++ [a] from by simp]
  refine doesQ_go (popD (l := l) (a := a) (by first | omega | (simp; omega))) rfl ?_
  simp -dsimp [call_by hf, hY]
  refine push_s (i := 0) (l := l) (vs := r) ?_ (by omega) fun v J pv => ?_
  · rfl
  simp -dsimp []
  exact two_back hk (fun g => rfl) hik pv hq
theorem Comes_wfQ {p : AP} {f : FuncId} {args : List V} {v : V} (ha : args.all gr = true) (hn : (p.inlY f || args.all nm) = true) (hv : gr v = true) (h : WFun p f args [] (wFix p f v)) : Comes p f args v := by
  obtain ⟨n, r, H', h1, h2⟩ := h
  cases r with
  | panic _ => cases h2
  | ret u => exact ⟨ha, hv, hn, n, u, H', h1, h2⟩
def aluPre : List WC := match w14.dfr with
  | some x => x.1
  | none => []
def AluPre (op : Int) (d dep : V) (g f : FuncId) : Prop := ∃ n e1 H1 k, runL (exec p n) (aluPre.map toA) (env0 [.int .i64 op, d, dep]) [] = some (.normal, e1, H1) ∧ e1 1 = d ∧ e1 2 = dep ∧ e1 6 = .ptr 0 0 ∧ e1 7 = .ptr 1 0 ∧ e1 10 = .fn (.func g) [] [.ptr k 0] ∧
  H1[0]? = some (.live [.list [] true]) ∧ H1[1]? = some (.live [.int .i64 0]) ∧ H1[k]? = some (.live [.fn (.func f) [] []])
theorem aRcv_none {H : List Ob} {K : Bool → List Ob → Prop} (hk : K false H) : WDef p (.fn (.func 33) [] [.ptr 0 0, .ptr 1 0]) none H K := by
  refine WDef_rcv w33 (t := 5) rfl rfl rfl k33 (by kernel_rfl) ?_
  simp -dsimp [w33, finD]
  exact hk
theorem get01 {H : List Ob} {A B : Ob} (h0 : H[0]? = some A) (h1 : H[1]? = some B) : ∃ T, H = A :: B :: T := by
  match H, h0, h1 with
  | a :: b :: T, h0, h1 => simp at h0 h1; exact ⟨T, by rw [h0, h1]⟩
end Fz.D
set_option maxRecDepth 100000
namespace Fz.D
open Go
def chainF (H : List Ob) : Nat → V → Option (List FuncId × V)
  | 0, _ => none
  | n + 1, v => if ground v then some ([], v) else match v with
    | .fn (.func g) [] [.ptr k 0] => match H[k]? with
      | some (.live [w]) => (chainF H n w).map fun x => (g :: x.1, x.2)
      | _ => none
    | _ => none
def Chain (H : List Ob) : List FuncId → V → V → Prop
  | [], u, v => v = u
  | g :: gs, u, v => ∃ k w, v = .fn (.func g) [] [.ptr k 0] ∧ H[k]? = some (.live [w]) ∧ Chain H gs u w
theorem chain_of {H : List Ob} : ∀ {n : Nat} {v : V} {gs : List FuncId} {u : V}, chainF H n v = some (gs, u) → Chain H gs u v
  | 0, _, _, _, h => by cases h
  | n + 1, v, gs, u, h => by
    unfold chainF at h
    split at h
    · cases h; rfl
    · split at h
      · rename_i g k hgr
        split at h
        · rename_i w hw
          obtain ⟨⟨a, b⟩, h1, h2⟩ := Option.map_eq_some_iff.1 h
          cases h2
          exact ⟨k, w, rfl, hw, chain_of h1⟩
        · cases h
      · cases h
def AluPreG (op : Int) (d dep : V) (gs : List FuncId) (u : V) : Prop := ∃ n e1 H1 v, runL (exec p n) (aluPre.map toA) (env0 [.int .i64 op, d, dep]) [] = some (.normal, e1, H1) ∧ e1 1 = d ∧ e1 2 = dep ∧ e1 6 = .ptr 0 0 ∧ e1 7 = .ptr 1 0 ∧ e1 8 = .bool true ∧ e1 10 = v ∧ Chain H1 gs u v ∧
  H1[0]? = some (.live [.list [] true]) ∧ H1[1]? = some (.live [.int .i64 0])
def preG (op : Int) (d dep : V) : Option (X × V × V × V × V × V × Option (List FuncId × V) × Option Ob × Option Ob) := (runL (exec p 200) (aluPre.map toA) (env0 [.int .i64 op, d, dep]) []).map fun r =>
  (r.1, r.2.1 1, r.2.1 2, r.2.1 6, r.2.1 7, r.2.1 8, chainF r.2.2 4 (r.2.1 10), r.2.2[0]?, r.2.2[1]?)
def WordOk (H : List Ob) (v : V) (l r : List Int) : Prop := ∃ g caps, v = .fn (.func g) [] caps ∧ (¬ g = 4000000000) ∧ ∀ Q : CR → List Ob → Prop, (∀ v J, PV (H.length + 1) J v r → Q (.ret (.tuple [])) (H ++ .live [v] :: J)) → WCall p g (.ptr H.length 0 :: caps) (H ++ [.live [inV l]]) Q
def WordThr (H : List Ob) (v : V) (l : List Int) (e : Int) : Prop := ∃ g caps, v = .fn (.func g) [] caps ∧ (¬ g = 4000000000) ∧ ∀ Q : CR → List Ob → Prop, (∀ x J, Q (.panic (thrown e)) (H ++ .live x :: J)) → WCall p g (.ptr H.length 0 :: caps) (H ++ [.live [inV l]]) Q
theorem aRcv_x {e : Int} {T : List Ob} {K : Bool → List Ob → Prop} {a b : V} (hk : K true (.live [.list [] true] :: .live [.int .i64 e] :: T)) : WDef p (.fn (.func 33) [] [.ptr 0 0, .ptr 1 0]) (some (thrown e)) (.live [a] :: .live [b] :: T) K := by
  refine WDef_rcv w33 (t := 5) rfl rfl rfl k33 (by kernel_rfl) ?_
  simp -dsimp [w33, finD, thrown]
  exact hk
theorem do_ok {op dep : Int} {l r : List Int} {gs : List FuncId} {u : V} (hp : AluPreG op (inV l) (.int .i64 dep) gs u) (hw : ∀ H v, Chain H gs u v → WordOk H v l r) (hd : (r.length : Int) ≤ dep) :
    Comes p 14 [.int .i64 op, inV l, .int .i64 dep] (.tuple [inV r, .int .i64 0, .bool true]) := by
  obtain ⟨n, e1, H1, v, h1, g1, g2, g6, g7, g8, g10, hk, k0, k1⟩ := hp
  have hres : w14.results = [(6, some (false, 1)), (7, some (false, 1)), (8, none)] := rfl
  obtain ⟨g, caps, rfl, hY, hwo⟩ := hw _ _ hk
  refine Comes_wfQ ?_ ?_ ?_ ?_
  · simp
  · simp
  · simp
  refine WFun_dfrK w14 rfl rfl rfl (by kernel_rfl) h1 ?_
  obtain ⟨T, rfl⟩ := get01 k0 k1
  simp -dsimp [w14, g1, g2, g6, g7, g10, hY]
  refine hwo _ fun v J pv => ?_
  obtain ⟨x1, x2, x3⟩ := pv_val pv
  have pv2 : PV (T.length + 1 + 1 + 1) J v r := by simpa using pv
  have hset : Ob.live [V.list [] true] :: Ob.live [V.int IntKind.i64 0] :: T ++ Ob.live [v] :: J = Ob.live [V.list [] true] :: Ob.live [V.int IntKind.i64 0] :: (T ++ (Ob.live [v] :: J)) := by simp
  rw [hset]
  simp -dsimp [g1, g2, g6, g7, g10, x1, x2, x3, pv_len pv]
  rw [decide_eq_true hd]
  refine aIs_t ?_
  simp -dsimp [g1, g2, g6, g7, g10, x1, x2, x3, hres]
  refine aRcv_none ?_
  rcases pv2 with ⟨c, rfl⟩ | ⟨j, rfl, hj⟩
  · simp -dsimp [g1, g2, g6, g7, g10, wFix_by, isInl]
    simp -dsimp [inV]
  · simp -dsimp [-frz_own, g1, g2, g6, g7, g10, wFix_by, isInl]
    have ha : Ac 1 (T.length + 1 + 1 + 1) J (.own (T.length + 1 + 1 + 1 + j) 0 r.length 1) (r.map (V.int .i64)) := ⟨by simp, by decide, .inr ⟨j, r.map (V.int .i64), by simp, hj, by simp, by rw [flat_int]; exact List.take_of_length_le (by simp)⟩⟩
    refine frz_acgQ (T.length + 1 + 1 + 1) (k := 10) (by simpa using ha) (by simp) (.inl ⟨rfl, by simp⟩) fun H' _ _ => ?_
    simp -dsimp [inV]
theorem do_over {op dep : Int} {l r : List Int} {gs : List FuncId} {u : V} (hp : AluPreG op (inV l) (.int .i64 dep) gs u) (hw : ∀ H v, Chain H gs u v → WordOk H v l r) (hd : ¬ (r.length : Int) ≤ dep) :
    Comes p 14 [.int .i64 op, inV l, .int .i64 dep] (.tuple [inV [], .int .i64 (-3), .bool true]) := by
  obtain ⟨n, e1, H1, v, h1, g1, g2, g6, g7, g8, g10, hk, k0, k1⟩ := hp
  have hres : w14.results = [(6, some (false, 1)), (7, some (false, 1)), (8, none)] := rfl
  obtain ⟨g, caps, rfl, hY, hwo⟩ := hw _ _ hk
  refine Comes_wfQ ?_ ?_ ?_ ?_
  · simp
  · simp
  · simp
  refine WFun_dfrK w14 rfl rfl rfl (by kernel_rfl) h1 ?_
  obtain ⟨T, rfl⟩ := get01 k0 k1
  simp -dsimp [w14, g1, g2, g6, g7, g10, hY]
  refine hwo _ fun v J pv => ?_
  obtain ⟨x1, x2, x3⟩ := pv_val pv
  have hset : Ob.live [V.list [] true] :: Ob.live [V.int IntKind.i64 0] :: T ++ Ob.live [v] :: J = Ob.live [V.list [] true] :: Ob.live [V.int IntKind.i64 0] :: (T ++ (Ob.live [v] :: J)) := by simp
  rw [hset]
  simp -dsimp [g1, g2, g6, g7, g10, x1, x2, x3, pv_len pv]
  rw [decide_eq_false hd]
  refine aIs_f (by decide) ?_
  simp -dsimp [g1, g2, g6, g7, g8, g10, hres]
  refine aRcv_x ?_
  simp -dsimp [g1, g2, g6, g7, g8, g10, wFix_by, isInl]
  simp -dsimp [inV]
theorem do_thr {op dep e : Int} {l : List Int} {gs : List FuncId} {u : V} (hp : AluPreG op (inV l) (.int .i64 dep) gs u) (hw : ∀ H v, Chain H gs u v → WordThr H v l e) :
    Comes p 14 [.int .i64 op, inV l, .int .i64 dep] (.tuple [inV [], .int .i64 e, .bool true]) := by
  obtain ⟨n, e1, H1, v, h1, g1, g2, g6, g7, g8, g10, hk, k0, k1⟩ := hp
  have hres : w14.results = [(6, some (false, 1)), (7, some (false, 1)), (8, none)] := rfl
  obtain ⟨g, caps, rfl, hY, hwo⟩ := hw _ _ hk
  refine Comes_wfQ ?_ ?_ ?_ ?_
  · simp
  · simp
  · simp
  refine WFun_dfrK w14 rfl rfl rfl (by kernel_rfl) h1 ?_
  obtain ⟨T, rfl⟩ := get01 k0 k1
  simp -dsimp [w14, g1, g2, g6, g7, g10, hY]
  refine hwo _ fun x J => ?_
  have hset : Ob.live [V.list [] true] :: Ob.live [V.int IntKind.i64 0] :: T ++ Ob.live x :: J = Ob.live [V.list [] true] :: Ob.live [V.int IntKind.i64 0] :: (T ++ (Ob.live x :: J)) := by simp
  rw [hset]
  simp -dsimp [g1, g2, g6, g7, g8, g10, hres]
  refine aRcv_x ?_
  simp -dsimp [g1, g2, g6, g7, g8, g10, wFix_by, isInl]
  simp -dsimp [inV]
end Fz.D
set_option maxRecDepth 100000
namespace Fz.D
open Go
def eN (nm : ByteArray) (op : Int) (d dep : V) : Env := upd (upd (upd (upd (upd (upd (env0 [.int .i64 op, d, dep]) 6 (.ptr 0 0)) 7 (.ptr 1 0)) 8 (.bool false)) 16 (.int .i64 op)) 17 (.str nm)) 9 (.str nm)
def hN : List Ob := [.live [.list [] true], .live [.int .i64 0]]
def eM (op : Int) (d dep : V) : Env := upd (upd (upd (env0 [.int .i64 op, d, dep]) 6 (.ptr 0 0)) 7 (.ptr 1 0)) 8 (.bool false)
def preN (nm : ByteArray) (op : Int) (d dep : V) : Option (X × V × V × V × V × V × Option (List FuncId × V) × Option Ob × Option Ob) := (runL (exec p 200) ((aluPre.drop 2).map toA) (eN nm op d dep) hN).map fun r =>
  (r.1, r.2.1 1, r.2.1 2, r.2.1 6, r.2.1 7, r.2.1 8, chainF r.2.2 4 (r.2.1 10), r.2.2[0]?, r.2.2[1]?)
theorem run0 {op : Int} {d dep : V} {m : Nat} : exec p (m + 1) (toA (aluPre.getD 0 .skip)) (env0 [.int .i64 op, d, dep]) [] = some (.normal, eM op d dep, hN) := by rfl
theorem run1 {nm : ByteArray} {op : Int} {d dep : V} {m : Nat} (hn : ∀ H, doCall (acall p m) p.inlY 17 [.int .i64 op] H = some (.ret (.str nm), H)) : exec p (m + 1) (toA (aluPre.getD 1 .skip)) (eM op d dep) hN = some (.normal, eN nm op d dep, hN) := by
  have h := hn hN
  show (match doCall (acall p m) p.inlY 17 [.int .i64 op] hN with
    | none => none
    | some (.ret v, H') => runOps (acall p m) p.inlY [mv 9 17] (upd (upd (eM op d dep) 16 (.int .i64 op)) 17 v) H'
    | some (.panic v, H') => some (.panic v, upd (eM op d dep) 16 (.int .i64 op), H')) = _
  rw [h]
  rfl
theorem aluPre_eq : aluPre.map toA = toA (aluPre.getD 0 .skip) :: toA (aluPre.getD 1 .skip) :: (aluPre.drop 2).map toA := rfl
theorem preG_name {nm : ByteArray} {op : Int} {d dep : V} {gs : List FuncId} {u : V} (hn : Comes p 17 [.int .i64 op] (.str nm))
    (h : preN nm op d dep = some (.normal, d, dep, .ptr 0 0, .ptr 1 0, .bool true, some (gs, u), some (.live [.list [] true]), some (.live [.int .i64 0]))) : AluPreG op d dep gs u := by
  unfold preN at h
  obtain ⟨⟨x, e1, H1⟩, h1, h2⟩ := Option.map_eq_some_iff.1 h
  simp only [Prod.mk.injEq] at h2
  obtain ⟨rfl, g1, g2, g6, g7, g8, g10, k0, k1⟩ := h2
  obtain ⟨m, hm⟩ := hn.doCall
  have hm2 : ∀ H, doCall (acall p (max m 200)) p.inlY 17 [.int .i64 op] H = some (.ret (.str nm), H) := fun H => doCall_mono (acall_le p (Nat.le_max_left m 200)) p.inlY _ _ _ _ (hm H)
  refine ⟨max m 200 + 1, e1, H1, _, ?_, g1, g2, g6, g7, g8, rfl, chain_of g10, k0, k1⟩
  rw [aluPre_eq]
  unfold runL
  rw [run0]
  dsimp only
  unfold runL
  rw [run1 hm2]
  dsimp only
  exact runL_mono (exec_le p (by omega : 200 ≤ max m 200 + 1)) _ _ _ _ h1
theorem none_name {nm : ByteArray} {op : Int} {l : List Int} {dep : Int} (hn : Comes p 17 [.int .i64 op] (.str nm))
    (h : ((runL (exec p 200) ((aluPre.drop 2).map toA) (eN nm op (inV l) (.int .i64 dep)) hN).map fun r => (r.1, r.2.1 6, r.2.1 7, r.2.1 8, r.2.2[0]?, r.2.2[1]?)) = some (.ret, .ptr 0 0, .ptr 1 0, .bool false, some (.live [.list [] true]), some (.live [.int .i64 0]))) :
    Comes p 14 [.int .i64 op, inV l, .int .i64 dep] (.tuple [inV [], .int .i64 0, .bool false]) := by
  obtain ⟨⟨x, e1, H1⟩, h1, h2⟩ := Option.map_eq_some_iff.1 h
  simp only [Prod.mk.injEq] at h2
  obtain ⟨rfl, g6, g7, g8, k0, k1⟩ := h2
  obtain ⟨m, hm⟩ := hn.doCall
  have hm2 : ∀ H, doCall (acall p (max m 200)) p.inlY 17 [.int .i64 op] H = some (.ret (.str nm), H) := fun H => doCall_mono (acall_le p (Nat.le_max_left m 200)) p.inlY _ _ _ _ (hm H)
  have hr : runL (exec p (max m 200 + 1)) (aluPre.map toA) (env0 [.int .i64 op, inV l, .int .i64 dep]) [] = some (.ret, e1, H1) := by
    rw [aluPre_eq]
    unfold runL
    rw [run0]
    dsimp only
    unfold runL
    rw [run1 hm2]
    dsimp only
    exact runL_mono (exec_le p (by omega : 200 ≤ max m 200 + 1)) _ _ _ _ h1
  have ha : acall p (max m 200 + 1) 14 [.int .i64 op, inV l, .int .i64 dep] [] = some (.ret (.tuple [.list [] true, .int .i64 0, .bool false]), H1) := by
    show (match runL (exec p (max m 200 + 1)) (aluPre.map toA) (env0 [.int .i64 op, inV l, .int .i64 dep]) [] with
      | some (.normal, e1, H1) => _
      | r => finishF w14.toA r) = _
    rw [hr]
    show (resultOf e1 H1 [(6, some (false, 1)), (7, some (false, 1)), (8, none)]).map _ = _
    unfold resultOf
    simp only [resultsV, resultV, g6, g7, g8, peek, k0, k1]
    rfl
  exact ⟨by simp, by simp, by simp, max m 200 + 1, _, H1, ha, .inr ⟨rfl, _, _, gk_freeze (by rfl) H1, by simp [nrm, nrmL_eq, inV]⟩⟩
end Fz.D
set_option maxRecDepth 100000
namespace Fz.D
open Go
def andI (a b : Int) : Int := IntKind.i64.wrap (((a % 2 ^ IntKind.i64.bits).toNat &&& (b % 2 ^ IntKind.i64.bits).toNat : Nat))
def orI (a b : Int) : Int := IntKind.i64.wrap (((a % 2 ^ IntKind.i64.bits).toNat ||| (b % 2 ^ IntKind.i64.bits).toNat : Nat))
def xorI (a b : Int) : Int := IntKind.i64.wrap (((a % 2 ^ IntKind.i64.bits).toNat ^^^ (b % 2 ^ IntKind.i64.bits).toNat : Nat))
def invI (a : Int) : Int := IntKind.i64.wrap (((-1 % 2 ^ IntKind.i64.bits : Int).toNat ^^^ (a % 2 ^ IntKind.i64.bits).toNat : Nat))
def flagI (c : Prop) [Decidable c] : Int := if c then -1 else 0
theorem vv_s (l : List Int) : Comes p 56 [inV l] (inV l) := by
  refine Comes_of w56 rfl rfl k56 ?_ ?_ ?_ ?_
  · simp
  · simp
  · simp
  · simp -dsimp [w56, wFix_by, isInl]
theorem v_s {H : List Ob} {id n : Nat} {l : List Int} (hid : H[id]? = some (.live (l.map (V.int .i64)))) (hn : n = l.length) {Q : CR → List Ob → Prop} (hq : ∀ H', Q (.ret (inV l)) H') : xCall p 56 [.own id 0 n 1] H Q := by
  subst hn
  refine call_frz rfl ?_
  rw [frzL_cons]
  have ha : Ac 1 0 H (.own id 0 l.length 1) (l.map (V.int .i64)) := ⟨by simp, by decide, .inr ⟨id, _, by simp, hid, by simp, by simp⟩⟩
  refine frz_acgQ 0 (k := 11) (by simpa using ha) (by simp) (.inl ⟨rfl, by simp⟩) fun H' _ _ => ?_
  rw [frzL_nil, show V.list ((l.map (V.int .i64)).map nrm) false = inV l from by simp [inV], callN_by (vv_s l)]
  exact hq _
theorem flagC_s (b : Bool) : Comes p 22 [.bool b] (.int .i64 (if b then -1 else 0)) := by
  refine Comes_of w22 rfl rfl k22 ?_ ?_ ?_ ?_
  · simp
  · simp
  · simp
  · cases b <;> simp -dsimp [w22, wFix_by, isInl]
theorem flag_s (b : Bool) : Comes p 108 [.bool b] (inV [if b then -1 else 0]) := by
  have c := flagC_s b
  refine Comes_of w108 rfl rfl k108 ?_ ?_ ?_ ?_
  · simp
  · simp
  · simp
  · simp -dsimp [w108, call_by c]
    refine v_s (l := [if b then -1 else 0]) rfl rfl fun H' => ?_
    simp -dsimp [wFix_by, isInl]
theorem fn_DUP (a : Int) : Comes p 55 [.int .i64 a] (inV [a, a]) := by
  refine Comes_of w55 rfl rfl k55 ?_ ?_ ?_ ?_
  · simp
  · simp
  · simp
  · simp -dsimp [w55]
    refine v_s (l := [a, a]) rfl rfl fun H' => ?_
    simp -dsimp [wFix_by, isInl]
theorem fn_DROP (a : Int) : Comes p 57 [.int .i64 a] (inV []) := by
  refine Comes_of w57 rfl rfl k57 ?_ ?_ ?_ ?_
  · simp
  · simp
  · simp
  · simp -dsimp [w57, wFix_by, isInl]
    all_goals rfl
theorem fn_SWAP (a b : Int) : Comes p 59 [.int .i64 a, .int .i64 b] (inV [b, a]) := by
  refine Comes_of w59 rfl rfl k59 ?_ ?_ ?_ ?_
  · simp
  · simp
  · simp
  · simp -dsimp [w59]
    refine v_s (l := [b, a]) rfl rfl fun H' => ?_
    simp -dsimp [wFix_by, isInl]
theorem fn_OVER (a b : Int) : Comes p 60 [.int .i64 a, .int .i64 b] (inV [a, b, a]) := by
  refine Comes_of w60 rfl rfl k60 ?_ ?_ ?_ ?_
  · simp
  · simp
  · simp
  · simp -dsimp [w60]
    refine v_s (l := [a, b, a]) rfl rfl fun H' => ?_
    simp -dsimp [wFix_by, isInl]
theorem fn_ROT (a b c : Int) : Comes p 62 [.int .i64 a, .int .i64 b, .int .i64 c] (inV [b, c, a]) := by
  refine Comes_of w62 rfl rfl k62 ?_ ?_ ?_ ?_
  · simp
  · simp
  · simp
  · simp -dsimp [w62]
    refine v_s (l := [b, c, a]) rfl rfl fun H' => ?_
    simp -dsimp [wFix_by, isInl]
theorem fn_2DUP (a b : Int) : Comes p 65 [.int .i64 a, .int .i64 b] (inV [a, b, a, b]) := by
  refine Comes_of w65 rfl rfl k65 ?_ ?_ ?_ ?_
  · simp
  · simp
  · simp
  · simp -dsimp [w65]
    refine v_s (l := [a, b, a, b]) rfl rfl fun H' => ?_
    simp -dsimp [wFix_by, isInl]
theorem fn_2DROP (a b : Int) : Comes p 66 [.int .i64 a, .int .i64 b] (inV []) := by
  refine Comes_of w66 rfl rfl k66 ?_ ?_ ?_ ?_
  · simp
  · simp
  · simp
  · simp -dsimp [w66, wFix_by, isInl]
    all_goals rfl
theorem fn_2SWAP (a b c d : Int) : Comes p 68 [.int .i64 a, .int .i64 b, .int .i64 c, .int .i64 d] (inV [c, d, a, b]) := by
  refine Comes_of w68 rfl rfl k68 ?_ ?_ ?_ ?_
  · simp
  · simp
  · simp
  · simp -dsimp [w68]
    refine v_s (l := [c, d, a, b]) rfl rfl fun H' => ?_
    simp -dsimp [wFix_by, isInl]
theorem fn_2OVER (a b c d : Int) : Comes p 69 [.int .i64 a, .int .i64 b, .int .i64 c, .int .i64 d] (inV [a, b, c, d, a, b]) := by
  refine Comes_of w69 rfl rfl k69 ?_ ?_ ?_ ?_
  · simp
  · simp
  · simp
  · simp -dsimp [w69]
    refine v_s (l := [a, b, c, d, a, b]) rfl rfl fun H' => ?_
    simp -dsimp [wFix_by, isInl]
theorem fn_NEGATE (a : Int) : Comes p 93 [.int .i64 a] (inV [IntKind.i64.wrap (-a)]) := by
  refine Comes_of w93 rfl rfl k93 ?_ ?_ ?_ ?_
  · simp
  · simp
  · simp
  · simp -dsimp [w93]
    refine v_s (l := [IntKind.i64.wrap (-a)]) rfl rfl fun H' => ?_
    simp -dsimp [wFix_by, isInl]
theorem fn_INVERT (a : Int) : Comes p 100 [.int .i64 a] (inV [invI a]) := by
  refine Comes_of w100 rfl rfl k100 ?_ ?_ ?_ ?_
  · simp
  · simp
  · simp
  · simp -dsimp [w100]
    refine v_s (l := [invI a]) rfl rfl fun H' => ?_
    simp -dsimp [wFix_by, isInl]
theorem fn_add (a b : Int) : Comes p 81 [.int .i64 a, .int .i64 b] (inV [IntKind.i64.wrap (a + b)]) := by
  refine Comes_of w81 rfl rfl k81 ?_ ?_ ?_ ?_
  · simp
  · simp
  · simp
  · simp -dsimp [w81]
    refine v_s (l := [IntKind.i64.wrap (a + b)]) rfl rfl fun H' => ?_
    simp -dsimp [wFix_by, isInl]
theorem fn_sub (a b : Int) : Comes p 82 [.int .i64 a, .int .i64 b] (inV [IntKind.i64.wrap (a - b)]) := by
  refine Comes_of w82 rfl rfl k82 ?_ ?_ ?_ ?_
  · simp
  · simp
  · simp
  · simp -dsimp [w82]
    refine v_s (l := [IntKind.i64.wrap (a - b)]) rfl rfl fun H' => ?_
    simp -dsimp [wFix_by, isInl]
theorem fn_MIN (a b : Int) : Comes p 95 [.int .i64 a, .int .i64 b] (inV [if b < a then b else a]) := by
  refine Comes_of w95 rfl rfl k95 ?_ ?_ ?_ ?_
  · simp
  · simp
  · simp
  · simp -dsimp [w95]
    refine v_s (l := [if b < a then b else a]) rfl rfl fun H' => ?_
    simp -dsimp [wFix_by, isInl]
theorem fn_MAX (a b : Int) : Comes p 96 [.int .i64 a, .int .i64 b] (inV [if a < b then b else a]) := by
  refine Comes_of w96 rfl rfl k96 ?_ ?_ ?_ ?_
  · simp
  · simp
  · simp
  · simp -dsimp [w96]
    refine v_s (l := [if a < b then b else a]) rfl rfl fun H' => ?_
    simp -dsimp [wFix_by, isInl]
theorem fn_AND (a b : Int) : Comes p 97 [.int .i64 a, .int .i64 b] (inV [andI a b]) := by
  refine Comes_of w97 rfl rfl k97 ?_ ?_ ?_ ?_
  · simp
  · simp
  · simp
  · simp -dsimp [w97]
    refine v_s (l := [andI a b]) rfl rfl fun H' => ?_
    simp -dsimp [wFix_by, isInl]
theorem fn_OR (a b : Int) : Comes p 98 [.int .i64 a, .int .i64 b] (inV [orI a b]) := by
  refine Comes_of w98 rfl rfl k98 ?_ ?_ ?_ ?_
  · simp
  · simp
  · simp
  · simp -dsimp [w98]
    refine v_s (l := [orI a b]) rfl rfl fun H' => ?_
    simp -dsimp [wFix_by, isInl]
theorem fn_XOR (a b : Int) : Comes p 99 [.int .i64 a, .int .i64 b] (inV [xorI a b]) := by
  refine Comes_of w99 rfl rfl k99 ?_ ?_ ?_ ?_
  · simp
  · simp
  · simp
  · simp -dsimp [w99]
    refine v_s (l := [xorI a b]) rfl rfl fun H' => ?_
    simp -dsimp [wFix_by, isInl]
theorem fn_eq (a b : Int) : Comes p 107 [.int .i64 a, .int .i64 b] (inV [flagI (a = b)]) := by
  refine Comes_of w107 rfl rfl k107 ?_ ?_ ?_ ?_
  · simp
  · simp
  · simp
  · have c := flag_s (decide (a = b))
    have e : (if decide (a = b) = true then (-1 : Int) else 0) = flagI (a = b) := by unfold flagI; by_cases h : a = b <;> simp [h]
    rw [e] at c
    by_cases h : a = b <;> simp -dsimp [h, decide_true, decide_false] at c <;> simp -dsimp [w107, wFix_by, isInl, h, call_by c]
theorem fn_ne (a b : Int) : Comes p 109 [.int .i64 a, .int .i64 b] (inV [flagI (a ≠ b)]) := by
  refine Comes_of w109 rfl rfl k109 ?_ ?_ ?_ ?_
  · simp
  · simp
  · simp
  · have c := flag_s (decide (a ≠ b))
    have e : (if decide (a ≠ b) = true then (-1 : Int) else 0) = flagI (a ≠ b) := by unfold flagI; by_cases h : a ≠ b <;> simp [h]
    rw [e] at c
    by_cases h : a ≠ b <;> simp -dsimp [h, decide_true, decide_false] at c <;> simp -dsimp [w109, wFix_by, isInl, h, call_by c]
theorem fn_lt (a b : Int) : Comes p 110 [.int .i64 a, .int .i64 b] (inV [flagI (a < b)]) := by
  refine Comes_of w110 rfl rfl k110 ?_ ?_ ?_ ?_
  · simp
  · simp
  · simp
  · have c := flag_s (decide (a < b))
    have e : (if decide (a < b) = true then (-1 : Int) else 0) = flagI (a < b) := by unfold flagI; by_cases h : a < b <;> simp [h]
    rw [e] at c
    by_cases h : a < b <;> simp -dsimp [h, decide_true, decide_false] at c <;> simp -dsimp [w110, wFix_by, isInl, h, call_by c]
theorem fn_gt (a b : Int) : Comes p 111 [.int .i64 a, .int .i64 b] (inV [flagI (b < a)]) := by
  refine Comes_of w111 rfl rfl k111 ?_ ?_ ?_ ?_
  · simp
  · simp
  · simp
  · have c := flag_s (decide (b < a))
    have e : (if decide (b < a) = true then (-1 : Int) else 0) = flagI (b < a) := by unfold flagI; by_cases h : b < a <;> simp [h]
    rw [e] at c
    by_cases h : b < a <;> simp -dsimp [h, decide_true, decide_false] at c <;> simp -dsimp [w111, wFix_by, isInl, h, call_by c]
end Fz.D
set_option maxRecDepth 100000
namespace Fz.D
open Go
def cloOf : V → Option (FuncId × Nat)
  | .fn (.func g) [] [.ptr k 0] => some (g, k)
  | _ => none
def preJ (op : Int) (d dep : V) : Option (X × V × V × V × V × Option FuncId × Option Ob × Option Ob × Option Ob) := (runL (exec p 200) (aluPre.map toA) (env0 [.int .i64 op, d, dep]) []).map fun r =>
  (r.1, r.2.1 1, r.2.1 2, r.2.1 6, r.2.1 7, (cloOf (r.2.1 10)).map (·.1), r.2.2[0]?, r.2.2[1]?, (cloOf (r.2.1 10)).bind fun x => r.2.2[x.2]?)
end Fz.D
set_option maxRecDepth 100000
namespace Fz.D
open Go
def divQ (a b : Int) : Int := if b = -1 then IntKind.i64.wrap (-a) else if a.tmod b ≠ 0 ∧ ¬ (a.tmod b < 0 ↔ b < 0) then IntKind.i64.wrap (IntKind.i64.wrap (a.tdiv b) - 1) else IntKind.i64.wrap (a.tdiv b)
def divR (a b : Int) : Int := if b = -1 then 0 else if a.tmod b ≠ 0 ∧ ¬ (a.tmod b < 0 ↔ b < 0) then IntKind.i64.wrap (a.tmod b + b) else a.tmod b
theorem div_s {a b : Int} (hb : b ≠ 0) : Comes p 171 [.int .i64 a, .int .i64 b] (.tuple [.int .i64 (divQ a b), .int .i64 (divR a b), .bool true]) := by
  refine Comes_of w171 rfl rfl k171 ?_ ?_ ?_ ?_
  · simp
  · simp
  · simp
  · by_cases h1 : b = -1
    · have e1 : divQ a b = IntKind.i64.wrap (-a) := by unfold divQ; rw [if_pos h1]
      have e2 : divR a b = 0 := by unfold divR; rw [if_pos h1]
      rw [e1, e2]
      simp -dsimp [w171, wFix_by, isInl, hb, h1]
    · have e1 : divQ a b = if a.tmod b ≠ 0 ∧ ¬ (a.tmod b < 0 ↔ b < 0) then IntKind.i64.wrap (IntKind.i64.wrap (a.tdiv b) - 1) else IntKind.i64.wrap (a.tdiv b) := by unfold divQ; rw [if_neg h1]
      have e2 : divR a b = if a.tmod b ≠ 0 ∧ ¬ (a.tmod b < 0 ↔ b < 0) then IntKind.i64.wrap (a.tmod b + b) else a.tmod b := by unfold divR; rw [if_neg h1]
      rw [e1, e2]
      by_cases h2 : a.tmod b = 0
      · simp -dsimp [w171, wFix_by, isInl, hb, h1, h2]
      · by_cases h3 : a.tmod b < 0
        · by_cases h4 : b < 0
          · simp -dsimp [w171, wFix_by, isInl, hb, h1, h2, h3, h4]
          · simp -dsimp [w171, wFix_by, isInl, hb, h1, h2, h3, h4]
        · by_cases h4 : b < 0
          · simp -dsimp [w171, wFix_by, isInl, hb, h1, h2, h3, h4]
          · simp -dsimp [w171, wFix_by, isInl, hb, h1, h2, h3, h4]
end Fz.D
