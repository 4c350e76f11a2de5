/- Code: what it needs, and what comes of it. -/
import Derived.Test.YtpojglkaohhbkaaFzZ
namespace Fz
open Go

theorem trace_more {call : CallT} {inl : FuncId → Bool} (r : List AO) : ∀ (e : Env) (hs : List (List Ob)) (t) (hs' : List (List Ob)) (e' : Env),
    trace call inl r e hs = some (t, hs', e') → ∃ m, hs' = hs ++ m := by
  induction r with
  | nil => intro e hs t hs' e' h; cases h; exact ⟨[], by simp⟩
  | cons o r ih =>
    intro e hs t hs' e' h
    unfold trace at h
    split at h
    · cases h
    · split at h
      · split at h
        · cases h
        · obtain ⟨x, hx, hh⟩ := Option.map_eq_some_iff.1 h
          obtain ⟨t1, h1, e1⟩ := x
          cases hh
          obtain ⟨m, hm⟩ := ih _ _ _ _ _ hx
          exact ⟨_, by rw [hm, List.append_assoc]⟩
      · split at h
        · cases h
        · obtain ⟨x, hx, hh⟩ := Option.map_eq_some_iff.1 h
          obtain ⟨t1, h1, e1⟩ := x
          cases hh
          exact ih _ _ _ _ _ hx

theorem trace_ext {call : CallT} {inl : FuncId → Bool} (r : List AO) : ∀ (m : Nat) (e : Env) (hs : List (List Ob)) (H : List Ob) (t) (hs' : List (List Ob)) (e' : Env),
    trace call inl r e hs = some (t, hs', e') → hs.getLast? = some H → (((r.filter fun o => o.eff).take m).all fun q => isExt q.op) = true →
    ∀ G ∈ (hs'.drop (hs.length - 1)).take (m + 1), ∃ A, G = H ++ A := by
  induction r with
  | nil =>
    intro m e hs H t hs' e' h hl _ G hG
    cases h
    have h2 : hs = hs.dropLast ++ [H] := by
      rw [List.getLast?_eq_some_iff] at hl
      obtain ⟨ys, rfl⟩ := hl
      simp
    rw [h2, show (hs.dropLast ++ [H]).length - 1 = hs.dropLast.length from by simp, List.drop_left] at hG
    have := List.mem_of_mem_take hG
    rw [List.mem_singleton] at this
    exact ⟨[], by rw [this, List.append_nil]⟩
  | cons o r ih =>
    intro m e hs H t hs' e' h hl hx G hG
    have hm := trace_more _ _ _ _ _ _ h
    unfold trace at h
    rw [hl] at h
    dsimp only at h
    split at h
    · rename_i heff
      split at h
      · cases h
      · rename_i v H1 hv
        obtain ⟨x, hx2, hh⟩ := Option.map_eq_some_iff.1 h
        obtain ⟨t1, h1, e1⟩ := x
        cases hh
        rw [List.filter_cons, if_pos heff] at hx
        obtain ⟨M, hM⟩ := hm
        have h2 : hs = hs.dropLast ++ [H] := by
          rw [List.getLast?_eq_some_iff] at hl
          obtain ⟨ys, rfl⟩ := hl
          simp
        have hd : hs'.drop (hs.length - 1) = H :: hs'.drop hs.length := by
          rw [hM]
          rw [List.drop_left]
          rw [h2, List.append_assoc, show (hs.dropLast ++ [H]).length - 1 = hs.dropLast.length from by simp, List.drop_left]
          rfl
        rw [hd, List.take_succ_cons, List.mem_cons] at hG
        rcases hG with rfl | hG
        · exact ⟨[], (List.append_nil _).symm⟩
        · cases m with
          | zero => rw [List.take_zero] at hG; cases hG
          | succ m =>
            rw [List.take_succ_cons, List.all_cons, Bool.and_eq_true] at hx
            obtain ⟨A, rfl⟩ := eff_ext hx.1 hv
            obtain ⟨B, rfl⟩ := ih m _ _ (H ++ A) _ _ _ hx2 (by simp) hx.2 G (by
              rw [List.length_append, List.length_singleton, Nat.add_sub_cancel]
              exact hG)
            exact ⟨A ++ B, List.append_assoc ..⟩
    · rename_i heff
      split at h
      · cases h
      · rename_i v hv
        obtain ⟨x, hx2, hh⟩ := Option.map_eq_some_iff.1 h
        obtain ⟨t1, h1, e1⟩ := x
        cases hh
        rw [List.filter_cons, if_neg heff] at hx
        exact ih m _ _ H _ _ _ hx2 hl hx G hG

theorem steady_calm {call : CallT} {inl : FuncId → Bool} {ops : List AO} {an : List (List Nat)} {effs : List AO} (r : List AO) : ∀ (s : Nat) (e : Env) (hs : List (List Ob)) (t) (hs' : List (List Ob)) (e' : Env),
    trace call inl r e hs = some (t, hs', e') → effs.drop (hs.length - 1) = (r.filter fun o => o.eff) → calmGo ops an effs (r.zipIdx s) (hs.length - 1) = true → steadyAll call inl ops an hs' (r.zipIdx s) t = true := by
  induction r with
  | nil => intro s e hs t hs' e' h _ _; cases h; rfl
  | cons o r ih =>
    intro s e hs t hs' e' h hE hc
    have hext := fun m H => trace_ext (o :: r) m e hs H t hs' e' h
    obtain ⟨m, hm⟩ := trace_more _ _ _ _ _ _ h
    rw [List.zipIdx_cons] at hc ⊢
    unfold calmGo at hc
    rw [Bool.and_eq_true] at hc
    obtain ⟨hc1, hc2⟩ := hc
    unfold trace at h
    split at h
    · cases h
    · rename_i H hl
      have hlen : hs.length ≠ 0 := by intro h0; rw [List.length_eq_zero_iff.1 h0] at hl; cases hl
      split at h
      · rename_i heff
        split at h
        · cases h
        · obtain ⟨x, hx, hh⟩ := Option.map_eq_some_iff.1 h
          obtain ⟨t1, h1, e1⟩ := x
          cases hh
          unfold steadyAll
          rw [Bool.and_eq_true]
          have e2 : hs.length + 1 - 1 = hs.length - 1 + 1 := by omega
          refine ⟨by rw [heff]; rfl, ih _ _ _ _ _ _ hx ?_ ?_⟩
          · rw [List.length_append, List.length_singleton, e2, ← List.drop_drop, hE, List.filter_cons, if_pos heff]
            rfl
          · rw [if_pos heff] at hc2
            rw [List.length_append, List.length_singleton, e2]
            exact hc2
      · rename_i heff
        split at h
        · cases h
        · rename_i v hv
          obtain ⟨x, hx, hh⟩ := Option.map_eq_some_iff.1 h
          obtain ⟨t1, h1, e1⟩ := x
          cases hh
          unfold steadyAll
          rw [Bool.and_eq_true]
          refine ⟨?_, ih _ _ _ _ _ _ hx (by rw [hE, List.filter_cons, if_neg heff]) (by rw [if_neg heff] at hc2; exact hc2)⟩
          rw [Bool.or_eq_true]
          refine .inr ?_
          rw [Bool.or_eq_true, Bool.or_eq_true] at hc1
          have key : ∀ l : List (List Ob), (∀ G ∈ l, quietOp call inl e G o = some v) → steady call inl e v o l = true := by
            intro l
            induction l with
            | nil => intro _; rfl
            | cons H' l ihl =>
              intro hq
              unfold steady
              rw [hq H' (List.mem_cons_self ..), Bool.and_eq_true]
              exact ⟨veq_refl v, ihl fun G hG => hq G (List.mem_cons_of_mem _ hG)⟩
          rcases hc1 with (h1 | h1) | h1
          · exact absurd h1 heff
          · exact key _ fun G _ => quiet_free h1 H G hv
          · rw [Bool.and_eq_true, beq_iff_eq] at h1
            obtain ⟨h1, h2⟩ := h1
            rw [h1]
            by_cases hh : hs.length - 1 ≤ hiOf ops an s
            · refine key _ fun G hG => ?_
              rw [hE] at h2
              rw [show hiOf ops an s + 1 - (hs.length - 1) = hiOf ops an s - (hs.length - 1) + 1 from by omega] at hG
              obtain ⟨A, rfl⟩ := hext _ H hl h2 G hG
              exact quiet_ext A hv
            · rw [show hiOf ops an s + 1 - (hs.length - 1) = 0 from by omega, List.take_zero]
              rfl

theorem runDraw_calm {call : CallT} {inl : FuncId → Bool} {ops : List AO} (hc : calm ops = true) {e : Env} {H : List Ob} {t hs e' H'}
    (h : trace call inl ops e [H] = some (t, hs, e')) (hl : hs.getLast? = some H') : runDraw call inl ops e H = some (.normal, e', H') := by
  unfold calm at hc
  rw [Bool.and_eq_true] at hc
  unfold runDraw
  rw [h]
  dsimp only
  rw [hc.1, steady_calm ops 0 _ _ _ _ _ h rfl hc.2, hl]
  rfl

/-- Operations in turn, those that leave the heap alone apart. -/
def wCalm (p : AP) (Q : X → Env → List Ob → Prop) : List AO → Env → List Ob → Prop
  | [], e, H => Q .normal e H
  | o :: r, e, H => if o.eff = true then
      wGuard e o.guard (wAct p e H (fun v H' => wCalm p Q r (putE e o.dst v) H') (fun _ _ => False) o.op) (wCalm p Q r (putE e o.dst uv) H)
    else wGuard e o.guard (wQ p e H (fun v => wCalm p Q r (putE e o.dst v) H) o.op) (wCalm p Q r (putE e o.dst uv) H)

theorem noskip {ρ : Opd → V} {H H' : List Ob} {op : AOp} (h : pureOp op = true) : evOp ρ H op ≠ some (.skip H') := by
  intro h2
  cases op with
  | store n a x => cases h
  | append _ _ _ _ _ => cases h
  | mem _ _ => cases h
  | conv k x =>
    cases k with
    | b2s =>
      simp only [evOp] at h2
      split at h2
      · obtain ⟨a, _, h2⟩ := Option.bind_eq_some_iff.1 h2
        split at h2 <;> cases h2
      · obtain ⟨a, _, h2⟩ := Option.bind_eq_some_iff.1 h2
        split at h2 <;> cases h2
      · cases h2
    | _ =>
      simp only [evOp] at h2
      first
      | (cases h2; done)
      | (split at h2 <;> cases h2)
  | _ =>
    simp only [evOp, ans] at h2
    repeat' split at h2
    all_goals first | (cases h2; done) | (obtain ⟨_, _, h2⟩ := Option.map_eq_some_iff.1 h2; cases h2)

theorem wQ_ok {p : AP} {e : Env} {H : List Ob} {K : V → Prop} {op : AOp} (h : wQ p e H K op) :
    (∃ v H', evOp (evO e) H op = some (.val v H') ∧ pureOp op = true ∧ K v) ∨
    (∃ f args, evOp (evO e) H op = some (.call f args) ∧ WQuiet p f args H K) := by
  unfold wQ at h
  split at h
  · exact .inr ⟨_, _, rfl, h⟩
  · split at h
    · rename_i hf; exact .inr ⟨_, _, by simp only [evOp, hf], h⟩
    · cases h
  · obtain ⟨h1, h⟩ := h
    obtain ⟨v, H', h2, h3⟩ := wOp_ok h
    rcases h2 with h2 | ⟨h2, _⟩
    · exact .inl ⟨v, H', h2, h1, h3⟩
    · exact absurd h2 (noskip h1)

theorem wEff_ok {p : AP} {e : Env} {H : List Ob} {K : V → List Ob → Prop} {o : AO} {N : Prop}
    (h : wGuard e o.guard (wAct p e H K (fun _ _ => False) o.op) N) :
    (∃ n v H', effOp (acall p n) p.inl e H o = some (v, H') ∧ K v H') ∨ ((∀ n, effOp (acall p n) p.inl e H o = some (uv, H)) ∧ N) := by
  have go : ∀ (hh : wAct p e H K (fun _ _ => False) o.op), ∃ n v H', (match evOp (evO e) H o.op with
      | some (.val v H') => some (v, H')
      | some (.skip H') => some (uv, H')
      | some (.call k args) => match doCall (acall p n) p.inl k args H with
        | some (.ret v, H') => some (v, H')
        | _ => none
      | _ => none) = some (v, H') ∧ K v H' := by
    intro hh
    rcases wAct_ok hh with ⟨v, H', h1, h2⟩ | ⟨v, H', h1, h2⟩ | ⟨f, args, h1, n, c, H', h2, h3⟩
    · rcases h1 with h1 | ⟨h1, rfl⟩
      · exact ⟨0, v, H', by rw [h1], h2⟩
      · exact ⟨0, _, H', by rw [h1], h2⟩
    · cases h2
    · cases c with
      | ret v => exact ⟨n, v, H', by rw [h1]; dsimp only; rw [h2], h3⟩
      | panic v => cases h3
  unfold wGuard at h
  unfold effOp
  dsimp only
  cases hg : o.guard with
  | none => rw [hg] at h; exact .inl (go h)
  | some tw =>
    obtain ⟨t, w⟩ := tw
    rw [hg] at h
    dsimp only at h ⊢
    cases he : e t with
    | bool b =>
      simp only [he] at h ⊢
      by_cases hb : b = w
      · rw [if_pos hb] at h; simp only [if_pos hb]; exact .inl (go h)
      · rw [if_neg hb] at h; simp only [if_neg hb]; exact .inr ⟨fun _ => trivial, h⟩
    | tuple l =>
      simp only [he] at h ⊢
      obtain ⟨rfl, h⟩ := h
      exact .inr ⟨fun _ => rfl, h⟩
    | _ => simp only [he] at h

theorem wQuiet_ok {p : AP} {e : Env} {H : List Ob} {K : V → Prop} {o : AO} {N : Prop}
    (h : wGuard e o.guard (wQ p e H K o.op) N) :
    (∃ n v, quietOp (acall p n) p.inl e H o = some v ∧ K v) ∨ ((∀ n, quietOp (acall p n) p.inl e H o = some uv) ∧ N) := by
  have go : ∀ (hh : wQ p e H K o.op), ∃ n v, (match evOp (evO e) H o.op with
      | some (.val v _) => if pureOp o.op then some v else none
      | some (.call k args) => match mapOpt (lendV H depthF) args with
        | some l => if groundL l then (match doCall (acall p n) p.inl k l [] with
          | some (.ret v, []) => if ground v && (listFree v || groundL args) then some v else none
          | _ => none) else none
        | none => none
      | _ => none) = some v ∧ K v := by
    intro hh
    rcases wQ_ok hh with ⟨v, H', h1, h2, h3⟩ | ⟨f, args, h1, n, l, v, h2, h3, h4, h5, h6⟩
    · exact ⟨0, v, by rw [h1]; simp only [h2, if_true], h3⟩
    · exact ⟨n, v, by rw [h1]; simp only [h2, h3, if_true, h4, h5], h6⟩
  unfold wGuard at h
  unfold quietOp
  dsimp only
  cases hg : o.guard with
  | none => rw [hg] at h; exact .inl (go h)
  | some tw =>
    obtain ⟨t, w⟩ := tw
    rw [hg] at h
    dsimp only at h ⊢
    cases he : e t with
    | bool b =>
      simp only [he] at h ⊢
      by_cases hb : b = w
      · rw [if_pos hb] at h; simp only [if_pos hb]; exact .inl (go h)
      · rw [if_neg hb] at h; simp only [if_neg hb]; exact .inr ⟨fun _ => trivial, h⟩
    | tuple l =>
      simp only [he] at h ⊢
      obtain ⟨rfl, h⟩ := h
      exact .inr ⟨fun _ => rfl, h⟩
    | _ => simp only [he] at h

theorem wCalm_trace {p : AP} {Q : X → Env → List Ob → Prop} (ops : List AO) : ∀ (e : Env) (H : List Ob) (hs : List (List Ob)), wCalm p Q ops e H → hs.getLast? = some H →
    ∃ n t hs' e' H', trace (acall p n) p.inl ops e hs = some (t, hs', e') ∧ hs'.getLast? = some H' ∧ Q .normal e' H' := by
  induction ops with
  | nil => intro e H hs h hl; exact ⟨0, _, _, _, _, rfl, hl, h⟩
  | cons o r ih =>
    intro e H hs h hl
    unfold wCalm at h
    unfold trace
    rw [hl]
    dsimp only
    by_cases he : o.eff = true
    · rw [if_pos he] at h
      simp only [if_pos he]
      rcases wEff_ok h with ⟨n, v, H', h1, h2⟩ | ⟨h1, h2⟩
      · obtain ⟨m, t, hs', e', H'', h3, h4, h5⟩ := ih _ _ (hs ++ [H']) h2 (by simp)
        refine ⟨max n m, (e, hs.length - 1, v) :: t, hs', e', H'', ?_, h4, h5⟩
        rw [effOp_mono (acall_le p (Nat.le_max_left n m)) _ _ _ _ _ h1]
        dsimp only
        rw [trace_mono (acall_le p (Nat.le_max_right n m)) _ _ _ _ _ h3]
        rfl
      · obtain ⟨m, t, hs', e', H'', h3, h4, h5⟩ := ih _ _ (hs ++ [H]) h2 (by simp)
        refine ⟨m, (e, hs.length - 1, uv) :: t, hs', e', H'', ?_, h4, h5⟩
        rw [h1]
        dsimp only
        rw [h3]
        rfl
    · rw [if_neg he] at h
      simp only [if_neg he]
      rcases wQuiet_ok h with ⟨n, v, h1, h2⟩ | ⟨h1, h2⟩
      · obtain ⟨m, t, hs', e', H'', h3, h4, h5⟩ := ih _ _ hs h2 hl
        refine ⟨max n m, (e, hs.length - 1, v) :: t, hs', e', H'', ?_, h4, h5⟩
        rw [quietOp_mono (acall_le p (Nat.le_max_left n m)) _ _ _ _ _ h1]
        dsimp only
        rw [trace_mono (acall_le p (Nat.le_max_right n m)) _ _ _ _ _ h3]
        rfl
      · obtain ⟨m, t, hs', e', H'', h3, h4, h5⟩ := ih _ _ hs h2 hl
        refine ⟨m, (e, hs.length - 1, uv) :: t, hs', e', H'', ?_, h4, h5⟩
        rw [h1]
        dsimp only
        rw [h3]
        rfl

def WDraw (p : AP) (ops : List AO) (e : Env) (H : List Ob) (Q : X → Env → List Ob → Prop) : Prop :=
  ∃ n x e' H', runDraw (acall p n) p.inl ops e H = some (x, e', H') ∧ Q x e' H'
theorem WDraw_calm {p : AP} {ops : List AO} (hc : calm ops = true) {e : Env} {H : List Ob} {Q : X → Env → List Ob → Prop} (h : wCalm p Q ops e H) : WDraw p ops e H Q := by
  obtain ⟨n, t, hs', e', H', h1, h2, h3⟩ := wCalm_trace ops e H [H] h rfl
  exact ⟨n, _, _, _, runDraw_calm hc h1 h2, h3⟩

/-- Operations of which none changes the heap, in turn. -/
def wSame (p : AP) (Q : X → Env → List Ob → Prop) : List AO → Env → List Ob → Prop
  | [], e, H => Q .normal e H
  | o :: r, e, H => if o.eff = true then
      wGuard e o.guard (wAct p e H (fun v H' => H' = H ∧ wSame p Q r (putE e o.dst v) H) (fun _ _ => False) o.op) (wSame p Q r (putE e o.dst uv) H)
    else wGuard e o.guard (wQ p e H (fun v => wSame p Q r (putE e o.dst v) H) o.op) (wSame p Q r (putE e o.dst uv) H)

theorem wSame_trace {p : AP} {Q : X → Env → List Ob → Prop} (ops : List AO) : ∀ (e : Env) (H : List Ob) (hs : List (List Ob)), wSame p Q ops e H → hs.getLast? = some H → (∀ G ∈ hs, G = H) →
    ∃ n t hs' e', trace (acall p n) p.inl ops e hs = some (t, hs', e') ∧ hs'.getLast? = some H ∧ (∀ G ∈ hs', G = H) ∧ Q .normal e' H := by
  induction ops with
  | nil => intro e H hs h hl ha; exact ⟨0, _, _, _, rfl, hl, ha, h⟩
  | cons o r ih =>
    intro e H hs h hl ha
    unfold wSame at h
    unfold trace
    rw [hl]
    dsimp only
    have ha' : ∀ G ∈ hs ++ [H], G = H := by
      intro G hG
      rcases List.mem_append.1 hG with h | h
      · exact ha G h
      · exact List.mem_singleton.1 h
    by_cases he : o.eff = true
    · rw [if_pos he] at h
      simp only [if_pos he]
      rcases wEff_ok h with ⟨n, v, H', h1, rfl, h2⟩ | ⟨h1, h2⟩
      · obtain ⟨m, t, hs', e', h3, h4, h5, h6⟩ := ih _ _ (hs ++ [H']) h2 (by simp) ha'
        refine ⟨max n m, (e, hs.length - 1, v) :: t, hs', e', ?_, h4, h5, h6⟩
        rw [effOp_mono (acall_le p (Nat.le_max_left n m)) _ _ _ _ _ h1]
        dsimp only
        rw [trace_mono (acall_le p (Nat.le_max_right n m)) _ _ _ _ _ h3]
        rfl
      · obtain ⟨m, t, hs', e', h3, h4, h5, h6⟩ := ih _ _ (hs ++ [H]) h2 (by simp) ha'
        refine ⟨m, (e, hs.length - 1, uv) :: t, hs', e', ?_, h4, h5, h6⟩
        rw [h1]
        dsimp only
        rw [h3]
        rfl
    · rw [if_neg he] at h
      simp only [if_neg he]
      rcases wQuiet_ok h with ⟨n, v, h1, h2⟩ | ⟨h1, h2⟩
      · obtain ⟨m, t, hs', e', h3, h4, h5, h6⟩ := ih _ _ hs h2 hl ha
        refine ⟨max n m, (e, hs.length - 1, v) :: t, hs', e', ?_, h4, h5, h6⟩
        rw [quietOp_mono (acall_le p (Nat.le_max_left n m)) _ _ _ _ _ h1]
        dsimp only
        rw [trace_mono (acall_le p (Nat.le_max_right n m)) _ _ _ _ _ h3]
        rfl
      · obtain ⟨m, t, hs', e', h3, h4, h5, h6⟩ := ih _ _ hs h2 hl ha
        refine ⟨m, (e, hs.length - 1, uv) :: t, hs', e', ?_, h4, h5, h6⟩
        rw [h1]
        dsimp only
        rw [h3]
        rfl

theorem steady_same {call : CallT} {inl : FuncId → Bool} {ops : List AO} {an : List (List Nat)} {H : List Ob} {hsF : List (List Ob)} (hF : ∀ G ∈ hsF, G = H) (r : List AO) :
    ∀ (s : Nat) (e : Env) (hs : List (List Ob)) (t) (hs' : List (List Ob)) (e' : Env), trace call inl r e hs = some (t, hs', e') → (∀ G ∈ hs', G = H) → steadyAll call inl ops an hsF (r.zipIdx s) t = true := by
  induction r with
  | nil => intro s e hs t hs' e' h _; cases h; rfl
  | cons o r ih =>
    intro s e hs t hs' e' h hall
    obtain ⟨m, hm⟩ := trace_more _ _ _ _ _ _ h
    rw [List.zipIdx_cons]
    unfold trace at h
    split at h
    · cases h
    · rename_i G hl
      have hG : G = H := hall G (by rw [hm]; exact List.mem_append_left _ (List.mem_of_getLast? hl))
      split at h
      · rename_i heff
        split at h
        · cases h
        · obtain ⟨x, hx, hh⟩ := Option.map_eq_some_iff.1 h
          obtain ⟨t1, h1, e1⟩ := x
          cases hh
          unfold steadyAll
          rw [Bool.and_eq_true]
          exact ⟨by rw [heff]; rfl, ih _ _ _ _ _ _ hx hall⟩
      · split at h
        · cases h
        · rename_i v hv
          obtain ⟨x, hx, hh⟩ := Option.map_eq_some_iff.1 h
          obtain ⟨t1, h1, e1⟩ := x
          cases hh
          unfold steadyAll
          rw [Bool.and_eq_true]
          refine ⟨?_, ih _ _ _ _ _ _ hx hall⟩
          rw [Bool.or_eq_true]
          refine .inr ?_
          have : ∀ l : List (List Ob), (∀ G ∈ l, G = H) → steady call inl e v o l = true := by
            intro l
            induction l with
            | nil => intro _; rfl
            | cons H' l ihl =>
              intro hl'
              unfold steady
              rw [hl' H' (List.mem_cons_self ..), ← hG, hv, Bool.and_eq_true]
              exact ⟨veq_refl v, ihl fun G hG => hl' G (List.mem_cons_of_mem _ hG)⟩
          exact this _ fun G hG => hF G (List.mem_of_mem_drop (List.mem_of_mem_take hG))

theorem WDraw_same {p : AP} {ops : List AO} (hc : okDraw ops = true) {e : Env} {H : List Ob} {Q : X → Env → List Ob → Prop} (h : wSame p Q ops e H) : WDraw p ops e H Q := by
  obtain ⟨n, t, hs', e', h1, h2, h3, h4⟩ := wSame_trace ops e H [H] h rfl (fun G hG => List.mem_singleton.1 hG)
  refine ⟨n, .normal, e', H, ?_, h4⟩
  unfold runDraw
  rw [h1]
  dsimp only
  rw [hc, steady_same h3 ops 0 _ _ _ _ _ h1 h3, h2]
  rfl
end Fz
