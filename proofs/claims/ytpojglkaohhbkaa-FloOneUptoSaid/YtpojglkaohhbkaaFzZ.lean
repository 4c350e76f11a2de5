/- What code needs, and what comes of it, as a proposition: and that then the abstract interpreter says so. -/
import Derived.Test.YtpojglkaohhbkaaFzY
namespace Fz
open Go

/-! ### Calls -/

def WCall (p : AP) (f : FuncId) (args : List V) (H : List Ob) (Q : CR → List Ob → Prop) : Prop :=
  ∃ n r H', doCall (acall p n) p.inl f args H = some (r, H') ∧ Q r H'
def WQuiet (p : AP) (f : FuncId) (args : List V) (H : List Ob) (K : V → Prop) : Prop :=
  ∃ n l v, mapOpt (lendV H depthF) args = some l ∧ groundL l = true ∧ doCall (acall p n) p.inl f l [] = some (.ret v, []) ∧
    (ground v && (listFree v || groundL args)) = true ∧ K v
def wRet (Q R : V → List Ob → Prop) (r : CR) (H : List Ob) : Prop := match r with
  | .ret v => Q v H
  | .panic v => R v H

def wAct (p : AP) (e : Env) (H : List Ob) (K R : V → List Ob → Prop) (op : AOp) : Prop := match op with
  | .call f args => WCall p f (args.map (evO e)) H (wRet K R)
  | .callv f args => match evO e f with
    | .fn (.func g) a b => WCall p g (a ++ args.map (evO e) ++ b) H (wRet K R)
    | _ => False
  | .panic x => match evO e x with
    | .iface t v => R (.iface t v) H
    | _ => False
  | op => wOp (evO e) H K op

def wQ (p : AP) (e : Env) (H : List Ob) (K : V → Prop) (op : AOp) : Prop := match op with
  | .call f args => WQuiet p f (args.map (evO e)) H K
  | .callv f args => match evO e f with
    | .fn (.func g) a b => WQuiet p g (a ++ args.map (evO e) ++ b) H K
    | _ => False
  | op => pureOp op = true ∧ wOp (evO e) H (fun v _ => K v) op

def wGuard (e : Env) (g : Option (Nat × Bool)) (P N : Prop) : Prop := match g with
  | none => P
  | some (t, w) => match e t with
    | .bool b => if b = w then P else N
    | .tuple l => l = [] ∧ N
    | _ => False

def wOps (p : AP) (Q : X → Env → List Ob → Prop) : List AO → Env → List Ob → Prop
  | [], e, H => Q .normal e H
  | o :: r, e, H => wGuard e o.guard (wAct p e H (fun v H' => wOps p Q r (putE e o.dst v) H') (fun v H' => Q (.panic v) e H') o.op) (wOps p Q r (putE e o.dst uv) H)

theorem wAct_ok {p : AP} {e : Env} {H : List Ob} {K R : V → List Ob → Prop} {op : AOp} (h : wAct p e H K R op) :
    (∃ v H', (evOp (evO e) H op = some (.val v H') ∨ evOp (evO e) H op = some (.skip H') ∧ v = uv) ∧ K v H') ∨
    (∃ v H', evOp (evO e) H op = some (.panic v H') ∧ R v H') ∨
    (∃ f args, evOp (evO e) H op = some (.call f args) ∧ WCall p f args H (wRet K R)) := by
  unfold wAct at h
  split at h
  · exact .inr (.inr ⟨_, _, rfl, h⟩)
  · rename_i f args
    split at h
    · rename_i hf; exact .inr (.inr ⟨_, _, by simp only [evOp, hf], h⟩)
    · cases h
  · split at h
    · rename_i hf; exact .inr (.inl ⟨_, _, by simp only [evOp, hf], h⟩)
    · cases h
  · exact .inl (wOp_ok h)

theorem wOps_ok {p : AP} {Q : X → Env → List Ob → Prop} (ops : List AO) : ∀ (e : Env) (H : List Ob), wOps p Q ops e H →
    ∃ n x e' H', runOps (acall p n) p.inl ops e H = some (x, e', H') ∧ Q x e' H' := by
  induction ops with
  | nil => intro e H h; exact ⟨0, _, _, _, rfl, h⟩
  | cons o r ih =>
    intro e H h
    have go : ∀ (hh : wAct p e H (fun v H' => wOps p Q r (putE e o.dst v) H') (fun v H' => Q (.panic v) e H') o.op),
        ∃ n x e' H', (match evOp (evO e) H o.op with
          | none => none
          | some (.val v H') => runOps (acall p n) p.inl r (putE e o.dst v) H'
          | some (.skip H') => runOps (acall p n) p.inl r (putE e o.dst uv) H'
          | some (.panic v H') => some (.panic v, e, H')
          | some (.call f args) => match doCall (acall p n) p.inl f args H with
            | none => none
            | some (.ret v, H') => runOps (acall p n) p.inl r (putE e o.dst v) H'
            | some (.panic v, H') => some (.panic v, e, H')) = some (x, e', H') ∧ Q x e' H' := by
      intro hh
      rcases wAct_ok hh with ⟨v, H', h1, h2⟩ | ⟨v, H', h1, h2⟩ | ⟨f, args, h1, n, c, H', h2, h3⟩
      · obtain ⟨n, x, e', H'', h3, h4⟩ := ih _ _ h2
        rcases h1 with h1 | ⟨h1, rfl⟩
        · exact ⟨n, x, e', H'', by rw [h1]; exact h3, h4⟩
        · exact ⟨n, x, e', H'', by rw [h1]; exact h3, h4⟩
      · exact ⟨0, _, _, _, by rw [h1], h2⟩
      · cases c with
        | ret v =>
          obtain ⟨m, x, e', H'', h4, h5⟩ := ih _ _ h3
          refine ⟨max n m, x, e', H'', ?_, h5⟩
          rw [h1]
          dsimp only
          rw [doCall_mono (acall_le p (Nat.le_max_left n m)) _ _ _ _ _ h2]
          exact runOps_mono (acall_le p (Nat.le_max_right n m)) _ _ _ _ _ h4
        | panic v => exact ⟨n, _, _, _, by rw [h1]; dsimp only; rw [h2], h3⟩
    unfold wOps wGuard at h
    unfold runOps
    dsimp only
    cases hg : o.guard with
    | none => rw [hg] at h; exact go h
    | some tw =>
      obtain ⟨t, w⟩ := tw
      rw [hg] at h
      dsimp only at h ⊢
      cases he : e t with
      | bool b =>
        simp only [he] at h ⊢
        by_cases hb : b = w
        · rw [if_pos hb] at h; simp only [if_pos hb]; exact go h
        · rw [if_neg hb] at h; simp only [if_neg hb]; exact ih _ _ h
      | tuple l =>
        simp only [he] at h ⊢
        obtain ⟨rfl, h⟩ := h
        exact ih _ _ h
      | _ => simp only [he] at h

/-! ### Regions whose order is open, where no operation may come to read what another one changes -/

theorem memV_nocall {H : List Ob} {k : MK} {l : List V} {f : FuncId} {args : List V} (h : memV H k l = some (.call f args)) : False := by
  unfold memV at h
  repeat' split at h
  all_goals cases h
/-- Reads nothing of the heap. -/
def heapFree : AOp → Bool
  | .load _ _ _ | .conv .b2s _ | .slice (.arr _ _) _ _ _ _ | .call _ _ | .callv _ _ | .rd _ _ => false
  | op => pureOp op

/-- Makes the heap longer, and nothing else. -/
def isExt : AOp → Bool
  | .alloc _ | .box _ | .buildSlice _ _ _ _ | .makeSlice _ _ _ _ _ => true
  | _ => false
def calmGo (ops : List AO) (an : List (List Nat)) (effs : List AO) : List (AO × Nat) → Nat → Bool
  | [], _ => true
  | (o, j) :: r, k => (o.eff || heapFree o.op || (loOf ops an j == k && ((effs.drop k).take (hiOf ops an j - k)).all fun q => isExt q.op)) && calmGo ops an effs r (if o.eff then k + 1 else k)
def calm (ops : List AO) : Bool := okDraw ops && calmGo ops (ancs ops) (ops.filter fun o => o.eff) ops.zipIdx 0

theorem slice_free {k : SlK} {x : V} {o : Opd} {l h m : Option Opd} (hk : heapFree (.slice k o l h m) = true) (H H' : List Ob) (lo hi mx : Option V) : sliceV H k x lo hi mx = sliceV H' k x lo hi mx := by
  cases k with
  | str => cases x <;> rfl
  | sl n => cases x <;> rfl
  | arr _ _ => cases hk

theorem evOp_free {ρ : Opd → V} {op : AOp} (hf : heapFree op = true) (H H' : List Ob) {v : V} {H1 : List Ob} (h : evOp ρ H op = some (.val v H1)) :
    evOp ρ H' op = some (.val v H') := by
  cases op with
  | conv k x =>
    cases k with
    | b2s => cases hf
    | _ =>
      simp only [evOp] at h ⊢
      first
      | (cases h; done)
      | (split at h <;> first | (cases h; done) | (cases h; rfl))
  | slice k x lo hi mx =>
    simp only [evOp, ans] at h ⊢
    rw [slice_free hf H' H]
    obtain ⟨u, hu, h⟩ := Option.map_eq_some_iff.1 h
    rw [hu]; cases h; rfl
  | build zero parts =>
    simp only [evOp, ans] at h ⊢
    obtain ⟨u, hu, h⟩ := Option.map_eq_some_iff.1 h
    rw [hu]; cases h; rfl
  | bin op k x y =>
    simp only [evOp, ans] at h ⊢
    obtain ⟨u, hu, h⟩ := Option.map_eq_some_iff.1 h
    rw [hu]; cases h; rfl
  | un op x =>
    simp only [evOp, ans] at h ⊢
    obtain ⟨u, hu, h⟩ := Option.map_eq_some_iff.1 h
    rw [hu]; cases h; rfl
  | max l =>
    simp only [evOp, ans] at h ⊢
    obtain ⟨u, hu, h⟩ := Option.map_eq_some_iff.1 h
    rw [hu]; cases h; rfl
  | pur k l =>
    simp only [evOp, ans] at h ⊢
    obtain ⟨u, hu, h⟩ := Option.map_eq_some_iff.1 h
    rw [hu]; cases h; rfl
  | min l =>
    simp only [evOp, ans] at h ⊢
    obtain ⟨u, hu, h⟩ := Option.map_eq_some_iff.1 h
    rw [hu]; cases h; rfl
  | mov _ | makeFunc _ _ _ | lenC _ => simp only [evOp] at h ⊢; cases h; rfl
  | alloc _ | box _ | buildSlice _ _ _ _ | load _ _ _ | store _ _ _ | makeSlice _ _ _ _ _ | append _ _ _ _ _ | copy _ _ _ | clear _ _ _ | panic _ | call _ _ | callv _ _ | rd _ _ | mem _ _ => cases hf
  | pick _ _ _ | nilCheck _ | makeIface _ _ | fieldAddr _ _ | field _ _ _ _ | indexSl _ _ _ | indexPA _ _ _ _ | indexArr _ _ _ _ _ | indexStr _ _ | extract _ _ | lenS _ | len _ | cap _ =>
    simp only [evOp] at h ⊢
    repeat' split at h
    all_goals first | (cases h; done) | (cases h; simp_all)

theorem quiet_free {call : CallT} {inl : FuncId → Bool} {e : Env} {o : AO} (hf : heapFree o.op = true) (H H' : List Ob) {v : V} (h : quietOp call inl e H o = some v) :
    quietOp call inl e H' o = some v := by
  have hnc : ∀ (ρ : Opd → V) (H : List Ob) f args, evOp ρ H o.op ≠ some (.call f args) := by
    intro ρ H f args hc
    generalize o.op = op at hf hc
    cases op with
    | conv k x =>
      cases k with
      | b2s => cases hf
      | _ =>
        simp only [evOp] at hc
        first
        | (cases hc; done)
        | (split at hc <;> cases hc)
    | call _ _ => cases hf
    | callv _ _ => cases hf
    | append _ _ _ _ _ => cases hf
    | mem _ _ => cases hf
    | _ =>
      simp only [evOp, ans] at hc
      repeat' split at hc
      all_goals first | (cases hc; done) | (obtain ⟨_, _, hc⟩ := Option.map_eq_some_iff.1 hc; cases hc)
  have go : ∀ (hh : (match evOp (evO e) H o.op with
    | some (.val v _) => if pureOp o.op then some v else none
    | some (.call k args) => match mapOpt (lendV H depthF) args with
      | some l => if groundL l then (match doCall call inl k l [] with
        | some (.ret v, []) => if ground v && (listFree v || groundL args) then some v else none
        | _ => none) else none
      | none => none
    | _ => none) = some v), (match evOp (evO e) H' o.op with
    | some (.val v _) => if pureOp o.op then some v else none
    | some (.call k args) => match mapOpt (lendV H' depthF) args with
      | some l => if groundL l then (match doCall call inl k l [] with
        | some (.ret v, []) => if ground v && (listFree v || groundL args) then some v else none
        | _ => none) else none
      | none => none
    | _ => none) = some v := by
    intro hh
    cases hv : evOp (evO e) H o.op with
    | none => rw [hv] at hh; cases hh
    | some q =>
      cases q with
      | val u H1 => rw [hv] at hh; rw [evOp_free hf H H' hv]; exact hh
      | skip _ => rw [hv] at hh; cases hh
      | panic _ _ => rw [hv] at hh; cases hh
      | call k args => exact absurd hv (hnc _ _ _ _)
  unfold quietOp at h ⊢
  dsimp only at h ⊢
  cases hg : o.guard with
  | none => rw [hg] at h; exact go h
  | some tw =>
    rw [hg] at h
    obtain ⟨t', w⟩ := tw
    dsimp only at h ⊢
    cases he : e t' with
    | bool b =>
      simp only [he] at h ⊢
      by_cases hb : b = w
      · simp only [hb, if_true] at h ⊢; exact go h
      · simp only [hb, if_false] at h ⊢; exact h
    | tuple l =>
      simp only [he] at h ⊢
      cases l with
      | nil => exact h
      | cons _ _ => cases h
    | _ => simp only [he] at h; cases h

theorem peek_ext {H : List Ob} {n : Nat} {v : V} {l : List V} (G : List Ob) (h : peek H n v = some l) : peek (H ++ G) n v = some l := by
  cases v with
  | ref x => exact h
  | ptr id off =>
    simp only [peek] at h ⊢
    cases ho : H[id]? with
    | none => rw [ho] at h; cases h
    | some o =>
      have hi : id < H.length := (List.getElem?_eq_some_iff.1 ho).1
      rw [List.getElem?_append_left hi, ho]
      rw [ho] at h
      exact h
  | _ => cases h
theorem elems_ext {H : List Ob} {n : Nat} {v : V} {l : List V × Nat} (G : List Ob) (h : elems H n v = some l) : elems (H ++ G) n v = some l := by
  cases v with
  | own id off len m =>
    simp only [elems] at h ⊢
    split at h
    · rename_i hm
      rw [if_pos hm]
      obtain ⟨x, hx, hh⟩ := Option.map_eq_some_iff.1 h
      rw [peek_ext G hx, Option.map_some, hh]
    · cases h
  | _ => exact h
theorem lend_ext {H : List Ob} (G : List Ob) : ∀ (k : Nat) (v v' : V), lendV H k v = some v' → lendV (H ++ G) k v = some v' := by
  intro k
  induction k with
  | zero => intro v v' h; cases h
  | succ k ih =>
    have hm : ∀ (l x : List V), mapOpt (lendV H k) l = some x → mapOpt (lendV (H ++ G) k) l = some x := by
      intro l
      induction l with
      | nil => intro x h; exact h
      | cons v l ihl =>
        intro x h
        simp only [mapOpt] at h ⊢
        split at h <;> cases h
        rename_i a b ha hb
        rw [ih _ _ ha, ihl _ hb]
    intro v v' h
    cases v with
    | own id off len n =>
      simp only [lendV] at h ⊢
      split at h
      · cases h
      · rename_i hn
        rw [if_neg hn]
        split at h
        · rename_i l hl
          rw [peek_ext G hl]
          dsimp only
          split at h
          · rename_i x hx; rw [hm _ _ hx]; exact h
          · cases h
        · cases h
    | agg l =>
      simp only [lendV] at h ⊢
      obtain ⟨x, hx, hh⟩ := Option.map_eq_some_iff.1 h
      rw [hm _ _ hx, Option.map_some, hh]
    | tuple l =>
      simp only [lendV] at h ⊢
      obtain ⟨x, hx, hh⟩ := Option.map_eq_some_iff.1 h
      rw [hm _ _ hx, Option.map_some, hh]
    | _ => exact h
theorem lends_ext {H : List Ob} (G : List Ob) (k : Nat) : ∀ (l x : List V), mapOpt (lendV H k) l = some x → mapOpt (lendV (H ++ G) k) l = some x := by
  intro l
  induction l with
  | nil => intro x h; exact h
  | cons v l ihl =>
    intro x h
    simp only [mapOpt] at h ⊢
    split at h <;> cases h
    rename_i a b ha hb
    rw [lend_ext G _ _ _ ha, ihl _ hb]

theorem mapOf_ext {H : List Ob} (G : List Ob) {m : V} {x : List V × List V} (h : mapOf H m = some x) : mapOf (H ++ G) m = some x := by
  unfold mapOf at h ⊢
  split at h <;> try (cases h; done)
  · exact h
  · exact h
  · rename_i id
    split at h <;> cases h
    rename_i ho
    have := (List.getElem?_eq_some_iff.1 ho).1
    simp only [List.getElem?_append_left this, ho]
theorem rd_ext {H : List Ob} (G : List Ob) {k : RK} {l : List V} {v : V} (h : rdV H k l = some v) : rdV (H ++ G) k l = some v := by
  unfold rdV at h ⊢
  split at h
  · rename_i kk z ok m k
    cases hm : mapOf H m with
    | none => rw [hm] at h; cases h
    | some x => rw [hm] at h; rw [mapOf_ext G hm]; exact h
  · cases h
theorem evOp_ext {ρ : Opd → V} {op : AOp} (hp : pureOp op = true) {H : List Ob} (G : List Ob) {v : V} {H1 : List Ob} (h : evOp ρ H op = some (.val v H1)) :
    ∃ H2, evOp ρ (H ++ G) op = some (.val v H2) := by
  by_cases hf : heapFree op = true
  · exact ⟨_, evOp_free hf H (H ++ G) h⟩
  · cases op with
    | rd k l =>
      simp only [evOp, ans] at h ⊢
      obtain ⟨u, hu, h⟩ := Option.map_eq_some_iff.1 h
      rw [rd_ext G hu]; cases h; exact ⟨_, rfl⟩
    | load agg n x =>
      simp only [evOp] at h ⊢
      cases hl : peek H n (ρ x) with
      | none => rw [hl] at h; cases h
      | some l =>
        rw [hl] at h
        rw [peek_ext G hl]
        dsimp only at h ⊢
        split at h
        · rename_i ha; cases h; exact ⟨_, if_pos ha⟩
        · rename_i ha
          rw [if_neg ha]
          split at h
          · cases h; exact ⟨_, rfl⟩
          · cases h
    | conv k x =>
      cases k with
      | b2s =>
        simp only [evOp] at h ⊢
        cases hx : ρ x with
        | list l c =>
          rw [hx] at h
          dsimp only at h ⊢
          obtain ⟨q, hq, h⟩ := Option.bind_eq_some_iff.1 h
          rw [elems_ext G hq, Option.bind_some]
          split at h <;> cases h
          rename_i hc
          exact ⟨_, if_pos hc⟩
        | own a b c d =>
          rw [hx] at h
          dsimp only at h ⊢
          obtain ⟨q, hq, h⟩ := Option.bind_eq_some_iff.1 h
          rw [elems_ext G hq, Option.bind_some]
          split at h <;> cases h
          rename_i hc
          exact ⟨_, if_pos hc⟩
        | _ => rw [hx] at h; cases h
      | _ => exact absurd rfl hf
    | slice k x lo hi mx =>
      cases k with
      | arr alen n =>
        simp only [evOp, ans] at h ⊢
        obtain ⟨u, hu, hh⟩ := Option.map_eq_some_iff.1 h
        refine ⟨H ++ G, ?_⟩
        have : sliceV (H ++ G) (.arr alen n) (ρ x) (lo.map ρ) (hi.map ρ) (mx.map ρ) = some u := by
          unfold sliceV at hu ⊢
          split at hu
          · cases hu
          · rename_i hc
            rw [if_neg hc]
            cases hx : ρ x with
            | ptr id off =>
              rw [hx] at hu
              dsimp only at hu ⊢
              split at hu
              · rename_i h1 h2 h3 h4
                rw [h1, h2, h3, peek_ext G h4]
                exact hu
              · cases hu
            | _ => rw [hx] at hu; cases hu
        rw [this]
        cases hh
        rfl
      | _ => exact absurd rfl hf
    | _ => first | (exact absurd rfl hf) | (cases hp)

theorem quiet_ext {call : CallT} {inl : FuncId → Bool} {e : Env} {o : AO} {H : List Ob} (G : List Ob) {v : V} (h : quietOp call inl e H o = some v) :
    quietOp call inl e (H ++ G) o = some v := by
  have go : ∀ (hh : (match evOp (evO e) H o.op with
    | some (.val v _) => if pureOp o.op then some v else none
    | some (.call k args) => match mapOpt (lendV H depthF) args with
      | some l => if groundL l then (match doCall call inl k l [] with
        | some (.ret v, []) => if ground v && (listFree v || groundL args) then some v else none
        | _ => none) else none
      | none => none
    | _ => none) = some v), (match evOp (evO e) (H ++ G) o.op with
    | some (.val v _) => if pureOp o.op then some v else none
    | some (.call k args) => match mapOpt (lendV (H ++ G) depthF) args with
      | some l => if groundL l then (match doCall call inl k l [] with
        | some (.ret v, []) => if ground v && (listFree v || groundL args) then some v else none
        | _ => none) else none
      | none => none
    | _ => none) = some v := by
    intro hh
    cases hv : evOp (evO e) H o.op with
    | none => rw [hv] at hh; cases hh
    | some q =>
      cases q with
      | val u H1 =>
        rw [hv] at hh
        dsimp only at hh
        have hp : pureOp o.op = true := by
          split at hh
          · assumption
          · cases hh
        obtain ⟨H2, h2⟩ := evOp_ext hp G hv
        rw [h2]
        exact hh
      | skip _ => rw [hv] at hh; cases hh
      | panic _ _ => rw [hv] at hh; cases hh
      | call k args =>
        have hc : evOp (evO e) (H ++ G) o.op = some (.call k args) := by
          generalize o.op = op at hv
          cases op with
          | call f l => exact hv
          | callv f l => exact hv
          | conv kk x =>
            exfalso
            cases kk with
            | b2s =>
              simp only [evOp] at hv
              split at hv
              · obtain ⟨a, _, hv⟩ := Option.bind_eq_some_iff.1 hv
                split at hv <;> cases hv
              · obtain ⟨a, _, hv⟩ := Option.bind_eq_some_iff.1 hv
                split at hv <;> cases hv
              · cases hv
            | _ =>
              simp only [evOp] at hv
              first
              | (cases hv; done)
              | (split at hv <;> cases hv)
          | append n b z s x =>
            exfalso
            simp only [evOp] at hv
            repeat' split at hv
            all_goals cases hv
          | mem k l =>
            exfalso
            simp only [evOp] at hv
            exact memV_nocall hv
          | _ =>
            exfalso
            simp only [evOp, ans] at hv
            repeat' split at hv
            all_goals first | (cases hv; done) | (obtain ⟨_, _, hv⟩ := Option.map_eq_some_iff.1 hv; cases hv)
        rw [hc]
        rw [hv] at hh
        dsimp only at hh ⊢
        split at hh
        · rename_i l hl
          rw [lends_ext G _ _ _ hl]
          exact hh
        · cases hh
  unfold quietOp at h ⊢
  dsimp only at h ⊢
  cases hg : o.guard with
  | none => rw [hg] at h; exact go h
  | some tw =>
    rw [hg] at h
    obtain ⟨t', w⟩ := tw
    dsimp only at h ⊢
    cases he : e t' with
    | bool b =>
      simp only [he] at h ⊢
      by_cases hb : b = w
      · simp only [hb, if_true] at h ⊢; exact go h
      · simp only [hb, if_false] at h ⊢; exact h
    | tuple l =>
      simp only [he] at h ⊢
      cases l with
      | nil => exact h
      | cons _ _ => cases h
    | _ => simp only [he] at h; cases h

theorem eff_ext {call : CallT} {inl : FuncId → Bool} {e : Env} {o : AO} (hx : isExt o.op = true) {H H' : List Ob} {v : V} (h : effOp call inl e H o = some (v, H')) :
    ∃ G, H' = H ++ G := by
  have go : ∀ (hh : (match evOp (evO e) H o.op with
    | some (.val v H') => some (v, H')
    | some (.skip H') => some (uv, H')
    | some (.call k args) => match doCall call inl k args H with
      | some (.ret v, H') => some (v, H')
      | _ => none
    | _ => none) = some (v, H')), ∃ G, H' = H ++ G := by
    intro hh
    generalize o.op = op at hx hh
    cases op with
    | alloc z => cases hh; exact ⟨_, rfl⟩
    | box x =>
      simp only [evOp] at hh
      split at hh
      · rename_i h1; split at h1 <;> cases h1; cases hh; exact ⟨_, rfl⟩
      · rename_i h1; split at h1 <;> cases h1
      · rename_i h1; split at h1 <;> cases h1
      · cases hh
    | buildSlice n l z ps =>
      simp only [evOp] at hh
      split at hh
      · rename_i h1
        split at h1
        · split at h1 <;> cases h1 <;> cases hh
          · exact ⟨[], (List.append_nil _).symm⟩
          · exact ⟨_, rfl⟩
        · cases h1
      · rename_i h1; repeat' split at h1
        all_goals cases h1
      · rename_i h1; repeat' split at h1
        all_goals cases h1
      · cases hh
    | makeSlice n b z l c =>
      simp only [evOp] at hh
      split at hh
      · rename_i h1
        repeat' split at h1
        all_goals first | (cases h1; done) | (cases h1; cases hh; first | exact ⟨[], (List.append_nil _).symm⟩ | exact ⟨_, rfl⟩)
      · rename_i h1
        repeat' split at h1
        all_goals cases h1
      · rename_i h1
        repeat' split at h1
        all_goals cases h1
      · cases hh
    | _ => cases hx
  unfold effOp at h
  dsimp only at h
  split at h
  · exact go h
  · split at h
    · split at h
      · exact go h
      · cases h; exact ⟨[], (List.append_nil _).symm⟩
    · cases h; exact ⟨[], (List.append_nil _).symm⟩
    · cases h
end Fz
