/- More fuel, the same answer. -/
import Derived.Test.YtpojglkaohhbkaaFzB
namespace Fz
open Go

def LeC (f g : CallT) : Prop := ∀ a b c r, f a b c = some r → g a b c = some r
def LeX (f g : ExecT) : Prop := ∀ a b c r, f a b c = some r → g a b c = some r

theorem doCall_mono {f g : CallT} (h : LeC f g) (inl : FuncId → Bool) : LeC (doCall f inl) (doCall g inl) := by
  intro a b H r hr
  unfold doCall at hr ⊢
  cases ha : (if inl a = true then some (b, H) else (mapS (freezeV depthF) b H).map fun x => (x.1.map nrm, x.2)) with
  | none => rw [ha] at hr; cases hr
  | some q =>
    rw [ha] at hr
    obtain ⟨args, H1⟩ := q
    dsimp only at hr ⊢
    cases hi : reach H1 1000 (refsL args) [] with
    | none => rw [hi] at hr; cases hr
    | some ids =>
      rw [hi] at hr
      dsimp only at hr ⊢
      cases hq : f a (renL (fun i => ids.idxOf i) args) (ids.map fun i => renOb (fun i => ids.idxOf i) (H1[i]?.getD .dead)) with
      | none => rw [hq] at hr; cases hr
      | some q =>
        rw [hq] at hr
        rw [h _ _ _ _ hq]
        exact hr

theorem runOps_mono {f g : CallT} (h : LeC f g) (inl : FuncId → Bool) (ops : List AO) (e : Env) (H : List Ob) (r : X × Env × List Ob)
    (hr : runOps f inl ops e H = some r) : runOps g inl ops e H = some r := by
  induction ops generalizing e H with
  | nil => exact hr
  | cons o t ih =>
    have go : ∀ (hh : (match evOp (evO e) H o.op with
      | none => none
      | some (.val v H') => runOps f inl t (putE e o.dst v) H'
      | some (.skip H') => runOps f inl t (putE e o.dst uv) H'
      | some (.panic v H') => some (.panic v, e, H')
      | some (.call k args) => match doCall f inl k args H with
        | none => none
        | some (.ret v, H') => runOps f inl t (putE e o.dst v) H'
        | some (.panic v, H') => some (.panic v, e, H')) = some r),
      (match evOp (evO e) H o.op with
      | none => none
      | some (.val v H') => runOps g inl t (putE e o.dst v) H'
      | some (.skip H') => runOps g inl t (putE e o.dst uv) H'
      | some (.panic v H') => some (.panic v, e, H')
      | some (.call k args) => match doCall g inl k args H with
        | none => none
        | some (.ret v, H') => runOps g inl t (putE e o.dst v) H'
        | some (.panic v, H') => some (.panic v, e, H')) = some r := by
      intro hh
      cases hv : evOp (evO e) H o.op with
      | none => rw [hv] at hh; cases hh
      | some q =>
        rw [hv] at hh
        cases q with
        | val v H' => exact ih _ _ hh
        | skip H' => exact ih _ _ hh
        | panic v H' => exact hh
        | call k args =>
          dsimp only at hh ⊢
          cases hd : doCall f inl k args H with
          | none => rw [hd] at hh; cases hh
          | some q =>
            rw [hd] at hh
            rw [doCall_mono h inl _ _ _ _ hd]
            obtain ⟨c, H'⟩ := q
            cases c with
            | ret v => exact ih _ _ hh
            | panic v => exact hh
    unfold runOps at hr ⊢
    dsimp only at hr ⊢
    cases hg : o.guard with
    | none => rw [hg] at hr; exact go hr
    | some tw =>
      rw [hg] at hr
      obtain ⟨t', w⟩ := tw
      dsimp only at hr ⊢
      cases he : e t' with
      | bool b =>
        simp only [he] at hr ⊢
        by_cases hb : b = w
        · simp only [hb, if_true] at hr ⊢; exact go hr
        · simp only [hb, if_false] at hr ⊢; exact ih _ _ hr
      | tuple l =>
        simp only [he] at hr ⊢
        cases l with
        | nil => exact ih _ _ hr
        | cons _ _ => cases hr
      | _ => simp only [he] at hr; cases hr

theorem quietOp_mono {f g : CallT} (h : LeC f g) (inl : FuncId → Bool) (e : Env) (H : List Ob) (o : AO) (v : V)
    (hr : quietOp f inl e H o = some v) : quietOp g inl e H o = some v := by
  have go : ∀ (hh : (match evOp (evO e) H o.op with
    | some (.val v _) => if pureOp o.op then some v else none
    | some (.call k args) => match mapOpt (lendV H depthF) args with
      | some l => if groundL l then (match doCall f inl k l [] with
        | some (.ret v, []) => if ground v && (listFree v || groundL args) then some v else none
        | _ => none) else none
      | none => none
    | _ => none) = some v), (match evOp (evO e) H o.op with
    | some (.val v _) => if pureOp o.op then some v else none
    | some (.call k args) => match mapOpt (lendV H depthF) args with
      | some l => if groundL l then (match doCall g inl k l [] with
        | some (.ret v, []) => if ground v && (listFree v || groundL args) then some v else none
        | _ => none) else none
      | none => none
    | _ => none) = some v := by
    intro hh
    cases hv : evOp (evO e) H o.op with
    | none => rw [hv] at hh; cases hh
    | some q =>
      rw [hv] at hh
      cases q with
      | val v H' => exact hh
      | skip H' => exact hh
      | panic v H' => exact hh
      | call k args =>
        dsimp only at hh ⊢
        cases hl : mapOpt (lendV H depthF) args with
        | none => rw [hl] at hh; cases hh
        | some l =>
          rw [hl] at hh
          dsimp only at hh ⊢
          by_cases hgr : groundL l = true
          · simp only [hgr, if_true] at hh ⊢
            cases hd : doCall f inl k l [] with
            | none => rw [hd] at hh; cases hh
            | some q => rw [hd] at hh; rw [doCall_mono h inl _ _ _ _ hd]; exact hh
          · simp only [hgr] at hh; cases hh
  unfold quietOp at hr ⊢
  dsimp only at hr ⊢
  cases hg : o.guard with
  | none => rw [hg] at hr; exact go hr
  | some tw =>
    rw [hg] at hr
    obtain ⟨t', w⟩ := tw
    dsimp only at hr ⊢
    cases he : e t' with
    | bool b =>
      simp only [he] at hr ⊢
      by_cases hb : b = w
      · simp only [hb, if_true] at hr ⊢; exact go hr
      · simp only [hb, if_false] at hr ⊢; exact hr
    | tuple l =>
      simp only [he] at hr ⊢
      cases l with
      | nil => exact hr
      | cons _ _ => cases hr
    | _ => simp only [he] at hr; cases hr

theorem effOp_mono {f g : CallT} (h : LeC f g) (inl : FuncId → Bool) (e : Env) (H : List Ob) (o : AO) (v : V × List Ob)
    (hr : effOp f inl e H o = some v) : effOp g inl e H o = some v := by
  have go : ∀ (hh : (match evOp (evO e) H o.op with
    | some (.val v H') => some (v, H')
    | some (.skip H') => some (uv, H')
    | some (.call k args) => match doCall f inl k args H with
      | some (.ret v, H') => some (v, H')
      | _ => none
    | _ => none) = some v), (match evOp (evO e) H o.op with
    | some (.val v H') => some (v, H')
    | some (.skip H') => some (uv, H')
    | some (.call k args) => match doCall g inl k args H with
      | some (.ret v, H') => some (v, H')
      | _ => none
    | _ => none) = some v := by
    intro hh
    cases hv : evOp (evO e) H o.op with
    | none => rw [hv] at hh; cases hh
    | some q =>
      rw [hv] at hh
      cases q with
      | val v H' => exact hh
      | skip H' => exact hh
      | panic v H' => exact hh
      | call k args =>
        dsimp only at hh ⊢
        cases hd : doCall f inl k args H with
        | none => rw [hd] at hh; cases hh
        | some q => rw [hd] at hh; rw [doCall_mono h inl _ _ _ _ hd]; exact hh
  unfold effOp at hr ⊢
  dsimp only at hr ⊢
  cases hg : o.guard with
  | none => rw [hg] at hr; exact go hr
  | some tw =>
    rw [hg] at hr
    obtain ⟨t', w⟩ := tw
    dsimp only at hr ⊢
    cases he : e t' with
    | bool b =>
      simp only [he] at hr ⊢
      by_cases hb : b = w
      · simp only [hb, if_true] at hr ⊢; exact go hr
      · simp only [hb, if_false] at hr ⊢; exact hr
    | tuple l =>
      simp only [he] at hr ⊢
      cases l with
      | nil => exact hr
      | cons _ _ => cases hr
    | _ => simp only [he] at hr; cases hr

theorem trace_mono {f g : CallT} (h : LeC f g) (inl : FuncId → Bool) (ops : List AO) (e : Env) (hs : List (List Ob)) (r)
    (hr : trace f inl ops e hs = some r) : trace g inl ops e hs = some r := by
  induction ops generalizing e hs r with
  | nil => exact hr
  | cons o t ih =>
    unfold trace at hr ⊢
    cases hl : hs.getLast? with
    | none => rw [hl] at hr; cases hr
    | some H =>
      rw [hl] at hr
      dsimp only at hr ⊢
      by_cases ho : o.eff = true
      · simp only [ho, if_true] at hr ⊢
        cases hv : effOp f inl e H o with
        | none => rw [hv] at hr; cases hr
        | some q =>
          rw [hv] at hr
          rw [effOp_mono h inl _ _ _ _ hv]
          dsimp only at hr ⊢
          cases ht : trace f inl t (putE e o.dst q.1) (hs ++ [q.2]) with
          | none => rw [ht] at hr; cases hr
          | some x => rw [ht] at hr; rw [ih _ _ _ ht]; exact hr
      · simp only [ho] at hr ⊢
        cases hv : quietOp f inl e H o with
        | none => rw [hv] at hr; cases hr
        | some q =>
          rw [hv] at hr
          rw [quietOp_mono h inl _ _ _ _ hv]
          dsimp only at hr ⊢
          cases ht : trace f inl t (putE e o.dst q) hs with
          | none => rw [ht] at hr; cases hr
          | some x => rw [ht] at hr; rw [ih _ _ _ ht]; exact hr

theorem steady_mono {f g : CallT} (h : LeC f g) (inl : FuncId → Bool) (e : Env) (v : V) (o : AO) (hs : List (List Ob))
    (hr : steady f inl e v o hs = true) : steady g inl e v o hs = true := by
  induction hs with
  | nil => rfl
  | cons H t ih =>
    unfold steady at hr ⊢
    rw [Bool.and_eq_true] at hr ⊢
    refine ⟨?_, ih hr.2⟩
    cases hv : quietOp f inl e H o with
    | none => rw [hv] at hr; simp at hr
    | some u => rw [hv] at hr; rw [quietOp_mono h inl _ _ _ _ hv]; exact hr.1

theorem steadyAll_mono {f g : CallT} (h : LeC f g) (inl : FuncId → Bool) (ops : List AO) (an : List (List Nat)) (hs : List (List Ob))
    (l : List (AO × Nat)) (t : List (Env × Nat × V))
    (hr : steadyAll f inl ops an hs l t = true) : steadyAll g inl ops an hs l t = true := by
  induction l generalizing t with
  | nil => cases t with
    | nil => rfl
    | cons _ _ => cases hr
  | cons q l ih =>
    obtain ⟨o, j⟩ := q
    cases t with
    | nil => cases hr
    | cons q t =>
      obtain ⟨e, k, v⟩ := q
      unfold steadyAll at hr ⊢
      rw [Bool.and_eq_true] at hr ⊢
      refine ⟨?_, ih _ hr.2⟩
      rw [Bool.or_eq_true] at hr ⊢
      exact hr.1.imp id (steady_mono h inl _ _ _ _)

theorem runDraw_mono {f g : CallT} (h : LeC f g) (inl : FuncId → Bool) (ops : List AO) (e : Env) (H : List Ob) (r)
    (hr : runDraw f inl ops e H = some r) : runDraw g inl ops e H = some r := by
  unfold runDraw at hr ⊢
  cases ht : trace f inl ops e [H] with
  | none => rw [ht] at hr; cases hr
  | some q =>
    rw [ht] at hr
    rw [trace_mono h inl _ _ _ _ ht]
    obtain ⟨t, hs, e'⟩ := q
    dsimp only at hr ⊢
    split at hr
    · rename_i hc
      rw [Bool.and_eq_true] at hc
      rw [if_pos (by rw [Bool.and_eq_true]; exact ⟨hc.1, steadyAll_mono h inl _ _ _ _ _ hc.2⟩)]
      exact hr
    · cases hr

theorem callW_mono {f g : ExecT} (h : LeX f g) (p : AP) : LeC (callW p f) (callW p g) := by
  intro a b H r hr
  unfold callW at hr ⊢
  cases hp : p.prim a with
  | some q => rw [hp] at hr; exact hr
  | none =>
    rw [hp] at hr
    dsimp only at hr ⊢
    cases hf : p.fn a with
    | none => rw [hf] at hr; cases hr
    | some af =>
      rw [hf] at hr
      dsimp only at hr ⊢
      cases hx : f af.code (env0 b) H with
      | none => rw [hx] at hr; cases hr
      | some q => rw [hx] at hr; rw [h _ _ _ _ hx]; exact hr

theorem exec_succ (p : AP) (n : Nat) : LeX (exec p n) (exec p (n + 1)) := by
  induction n with
  | zero => intro c e H r hr; cases hr
  | succ n ih =>
    intro c e H r hr
    cases c with
    | skip => exact hr
    | exit id => exact hr
    | ret => exact hr
    | region ops d =>
      unfold exec at hr ⊢
      cases d with
      | true => exact runDraw_mono (callW_mono ih p) _ _ _ _ _ hr
      | false => exact runOps_mono (callW_mono ih p) _ _ _ _ _ hr
    | seq a b =>
      rw [exec] at hr
      rw [exec]
      cases hx : exec p n a e H with
      | none => rw [hx] at hr; cases hr
      | some q =>
        rw [hx] at hr
        rw [ih _ _ _ _ hx]
        obtain ⟨x, e1, H1⟩ := q
        cases x with
        | normal => exact ih _ _ _ _ hr
        | _ => exact hr
    | cond c a b =>
      rw [exec] at hr
      rw [exec]
      cases hc : evO e c with
      | bool t =>
        rw [hc] at hr
        cases t with
        | true => exact ih _ _ _ _ hr
        | false => exact ih _ _ _ _ hr
      | _ => rw [hc] at hr; cases hr
    | block id b =>
      rw [exec] at hr
      rw [exec]
      cases hx : exec p n b e H with
      | none => rw [hx] at hr; cases hr
      | some q => rw [hx] at hr; rw [ih _ _ _ _ hx]; exact hr
    | fix t b =>
      cases t with
      | some t =>
        rw [exec] at hr
        rw [exec]
        cases hf : freezeV depthF (e t) H with
        | none => rw [hf] at hr; cases hr
        | some q => rw [hf] at hr; exact ih _ _ _ _ hr
      | none =>
        rw [exec] at hr
        rw [exec]
        cases hf : freezeObs 0 H H with
        | none => rw [hf] at hr; cases hr
        | some q => rw [hf] at hr; exact ih _ _ _ _ hr
    | loop b =>
      rw [exec] at hr
      rw [exec]
      cases hx : exec p n b e H with
      | none => rw [hx] at hr; cases hr
      | some q =>
        rw [hx] at hr
        rw [ih _ _ _ _ hx]
        obtain ⟨x, e1, H1⟩ := q
        cases x with
        | normal => exact ih _ _ _ _ hr
        | _ => exact hr

theorem exec_le (p : AP) {n m : Nat} (h : n ≤ m) : LeX (exec p n) (exec p m) := by
  induction h with
  | refl => intro a b c r hr; exact hr
  | step _ ih => intro a b c r hr; exact exec_succ p _ _ _ _ _ (ih _ _ _ _ hr)
theorem acall_le (p : AP) {n m : Nat} (h : n ≤ m) : LeC (acall p n) (acall p m) := callW_mono (exec_le p h) p
end Fz
