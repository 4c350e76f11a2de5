/- Code and calls are carried out as the abstract interpreter says. -/
import Derived.Test.YtpojglkaohhbkaaFzV
import Derived.Scope
namespace Fz
open Go

structure APOk (P : Program) (p : AP) : Prop where
  mixed : P.follows .mixedOrders = true
  fn : ∀ f af, p.fn f = some af → cFun P f = some af.erase
  prim : ∀ f g, p.prim f = some g → ∀ args v, g args = some v → ∀ (K : Kn) (β : Bi) (H : List Ob) (w : World) (cargs : Array Value), Inv K β H w → LR K β args cargs.toList → DoesOk P f cargs w (CallPost K β H w (.ret v) H)

theorem Post.after {K K1 : Kn} {β β1 : Bi} {H H1 H' : List Ob} {w w1 w' : World} {nt : Nat} {x : X} {e' : Env} {ds : List Deferred} {ex : Exit} {a' : Act} (h : Ev K β H w K1 β1 H1 w1) (g : Post K1 β1 H1 w1 nt x e' H' ds ex a' w') : Post K β H w nt x e' H' ds ex a' w' := by
  obtain ⟨K2, β2, q1, q2, q3, q4, q5⟩ := g
  exact ⟨K2, β2, q1, q2, q3, h.trans q4, q5⟩

theorem mapOpt_get {α β : Type} {f : α → Option β} : ∀ {l : List α} {m : List β}, mapOpt f l = some m → l.length = m.length ∧ ∀ (j : Nat) (b : β), m[j]? = some b → ∃ a, l[j]? = some a ∧ f a = some b
  | [], m, h => by simp [mapOpt] at h; subst h; exact ⟨rfl, fun j b hb => by simp at hb⟩
  | a :: l, m, h => by
    simp only [mapOpt] at h
    split at h <;> cases h
    rename_i x y hx hy
    obtain ⟨h1, h2⟩ := mapOpt_get hy
    refine ⟨by simp [h1], fun j b hb => ?_⟩
    cases j with
    | zero => simp at hb; subst hb; exact ⟨a, rfl, hx⟩
    | succ j => obtain ⟨q, hq, hq2⟩ := h2 j b (by simpa using hb); exact ⟨q, by simpa using hq, hq2⟩

def resF (tmps : Array Value) : ResultVar → Sem Value
  | .tmp t => pure (tmps.getD t Go.undef)
  | .cell b t => do loadVar t (← asAddr (tmps.getD b Go.undef))

theorem result_sound {P : Program} {K : Kn} {β : Bi} {H : List Ob} {w : World} {nt : Nat} {e : Env} {a : Act} (hI : Inv K β H w) (hE : ER K β nt e a) : ∀ {rs : List ResultVar} {qs : List (Nat × Option (Bool × Nat))} {vs : List V}, mapOpt (cRes P) rs = some qs → resultsV e H qs = some vs →
    ∃ cs : List Value, (rs.mapM (resF a.tmps)).run P w = .ok cs w ∧ LR K β vs cs
  | [], qs, vs, h1, h2 => by
    simp [mapOpt] at h1; subst h1
    simp [resultsV] at h2; subst h2
    exact ⟨[], rfl, .nil K β⟩
  | r :: rs, qs, vs, h1, h2 => by
    simp only [mapOpt] at h1
    split at h1 <;> cases h1
    rename_i q qs hq hqs
    simp only [resultsV] at h2
    split at h2 <;> cases h2
    rename_i v vs hv hvs
    obtain ⟨cs, g1, g2⟩ := result_sound hI hE hqs hvs
    have one : ∃ c, (resF a.tmps r).run P w = .ok c w ∧ VR K β v c := by
      cases r with
      | tmp t =>
        simp [cRes] at hq; subst hq
        simp [resultV] at hv; subst hv
        exact ⟨_, rfl, hE.val t⟩
      | cell b t =>
        simp only [cRes] at hq
        split at hq
        · rename_i g n hg hn
          split at hq <;> cases hq
          simp only [resultV] at hv
          split at hv
          · rename_i l hl
            obtain ⟨bb, oo, hc, p1, p2⟩ := loadVar_sound (P := P) hI (hE.val b) hl hg hn
            simp only [resF, hc]
            cases g with
            | true =>
              simp only [if_true, Option.some.injEq] at hv; subst hv
              obtain ⟨d, hd, hvd⟩ := p1 rfl
              exact ⟨d, by simp [asAddr, hd], hvd⟩
            | false =>
              simp only [Bool.false_eq_true, if_false] at hv
              split at hv <;> cases hv
              obtain ⟨d, hd, hvd⟩ := p2 rfl _ rfl
              exact ⟨d, by simp [asAddr, hd], hvd⟩
          · cases hv
        · cases hq
    obtain ⟨c, hc, hvc⟩ := one
    refine ⟨c :: cs, ?_, .cons hvc g2⟩
    simp only [List.mapM_cons, Sem.run_bind, Sem.run_pure]
    rw [hc]; simp only [Result.andThen_ok, g1]

theorem results_sound {P : Program} {K : Kn} {β : Bi} {H : List Ob} {w : World} {nt : Nat} {e : Env} {a : Act} (hI : Inv K β H w) (hE : ER K β nt e a) {fn : Func} {qs : List (Nat × Option (Bool × Nat))} {v : V} (h1 : mapOpt (cRes P) fn.results.toList = some qs) (h2 : resultOf e H qs = some v) :
    ∃ c, (results fn a.tmps).run P w = .ok c w ∧ VR K β v c := by
  unfold resultOf at h2
  have e1 : results fn a.tmps = (fn.results.mapM (resF a.tmps) >>= fun vs => pure (if h : vs.size = 1 then vs[0] else .tuple vs)) := by
    unfold results
    congr 1
  have run : ∀ {cs : List Value}, (fn.results.toList.mapM (resF a.tmps)).run P w = .ok cs w →
      (results fn a.tmps).run P w = .ok (if h : cs.toArray.size = 1 then cs.toArray[0] else .tuple cs.toArray) w := by
    intro cs h
    rw [e1, Sem.run_bind, Array.mapM_eq_mapM_toList, Sem.run_map, h]
    rfl
  split at h2
  · rename_i u hu
    cases h2
    obtain ⟨cs, g1, g2⟩ := result_sound hI hE h1 hu
    obtain ⟨c, r, rfl, g3, g4⟩ := g2.head
    have : r = [] := List.eq_nil_of_length_eq_zero g4.1.symm
    subst this
    exact ⟨c, by rw [run g1]; simp, g3⟩
  · rename_i l hne hl
    cases h2
    obtain ⟨cs, g1, g2⟩ := result_sound hI hE h1 hl
    refine ⟨.tuple cs.toArray, ?_, .tuple g2.arr.1 g2.arr.2⟩
    rw [run g1, dif_neg]
    intro hs
    have hs' : l.length = 1 := by rw [g2.1]; simpa using hs
    match l, hs' with
    | [u], _ => exact hne u rfl
  · cases h2

/-- A function that is compiled. -/
structure FunOk (P : Program) (f : FuncId) (af : AFun) (fn : Func) (c : Code) : Prop where
  get : P.funcs[f]? = some fn
  body : fn.body = some c
  code : cCode P c = some af.code
  res : mapOpt (cRes P) fn.results.toList = some af.results
  name : (fn.name == "runtime.NumGoroutine") = false
  nt : af.nt = fn.ntmps
  dsts : dstsOk af.nt af.code = true
theorem cFun_ok {P : Program} {f : FuncId} {af : AFun} (h : cFun P f = some af) : ∃ fn c, FunOk P f af fn c := by
  unfold cFun at h
  split at h
  · cases h
  · rename_i fn hf
    split at h
    · cases h
    · rename_i c hb
      split at h
      · rename_i code rs hc hr
        split at h
        · cases h
        · rename_i hcond
          cases h
          simp only [Bool.or_eq_true, Bool.not_eq_true', not_or] at hcond
          exact ⟨fn, c, hf, hb, hc, hr, Bool.eq_false_iff.2 hcond.1.1, rfl, by simpa using hcond.1.2⟩
      · cases h

theorem call_enter {P : Program} {f : FuncId} {af : AFun} {fn : Func} {c : Code} (h : FunOk P f af fn c) (cargs : Array Value) (w : World) : (callFunc f cargs).run P w = .ok (.enter f cargs) w := by
  have hn : ¬ fn.name = "runtime.NumGoroutine" := by simpa using h.name
  simp [callFunc, h.get, hn, h.body]

def ExecOk (P : Program) (p : AP) (ex : ExecT) : Prop :=
  ∀ (c : Code) (ac : ACode), cCode P c = some (erase ac) → ∀ (nt : Nat), dstsOk nt (erase ac) = true → ∀ (e : Env) (H : List Ob) (x : X) (e' : Env) (H' : List Ob), ex ac e H = some (x, e', H') →
    ∀ (K : Kn) (β : Bi) (a : Act) (w : World), Inv K β H w → ER K β nt e a → ∀ Q : Exit → Act → World → Prop, (∀ ex a' w', Post K β H w nt x e' H' a.defers ex a' w' → Q ex a' w') → c.wp P Q a w

theorem fnW_sound {P : Program} {p : AP} (hp : APOk P p) {ex : ExecT} (hex : ExecOk P p ex) {f : FuncId} {args : List V} {H : List Ob} {r : CR} {H' : List Ob} (hpr : p.prim f = none)
    (h : callW p ex f args H = some (r, H')) {K : Kn} {β : Bi} {w : World} {cargs : Array Value} (hI : Inv K β H w) (ha : LR K β args cargs.toList) :
    (callFunc f cargs).run P w = .ok (.enter f cargs) w ∧ Calls P f cargs w (CallPost K β H w r H') := by
  unfold callW at h
  rw [hpr] at h
  dsimp only at h
  split at h
  · cases h
  · rename_i af haf
    obtain ⟨fn, c, hf⟩ := cFun_ok (hp.fn f af haf)
    have hnt : af.nt = fn.ntmps := hf.nt
    refine ⟨call_enter hf cargs w, calls_of_wp hf.get hf.body ?_⟩
    have hE : ER K β af.nt (env0 args) { tmps := cargs ++ Array.replicate (fn.ntmps - cargs.size) Go.undef, defers := [] } := by
      refine ⟨by rw [hnt]; simp; omega, fun t => ?_⟩
      have hsz : args.length = cargs.size := by simpa using ha.1
      unfold env0
      by_cases ht : t < args.length
      · have h1 : args[t]? = some args[t] := List.getElem?_eq_getElem ht
        have h2 := ha.2 t _ h1
        have e1 : args.getD t uv = args[t] := by simp [List.getD, h1]
        rw [e1]
        have htc : t < cargs.size := by omega
        simpa [List.getD, htc, Array.getD_eq_getD_getElem?, Array.getElem?_append, ht] using h2
      · have e1 : args.getD t uv = uv := by simp [List.getD, ht]
        rw [e1]
        have : (cargs ++ Array.replicate (fn.ntmps - cargs.size) Go.undef).getD t Go.undef = Go.undef := by
          rw [Array.getD_eq_getD_getElem?, Array.getElem?_append, if_neg (by omega), Array.getElem?_replicate]
          split <;> rfl
        simp only [this]
        exact vr_uv K β
    have run : ∀ (x : X) (e' : Env) (H1 : List Ob), ex af.code (env0 args) H = some (x, e', H1) → (∀ ex' a' w', Post K β H w af.nt x e' H1 [] ex' a' w' → bodyPost P fn (CallPost K β H w r H') ex' a' w') →
        c.wp P (bodyPost P fn (CallPost K β H w r H')) { tmps := cargs ++ Array.replicate (fn.ntmps - cargs.size) Go.undef, defers := [] } w :=
      fun x e' H1 hx hQ => hex c af.code hf.code af.nt hf.dsts _ _ x e' H1 hx K β _ w hI hE _ hQ
    unfold finishF at h
    split at h
    · rename_i e' H1 hx
      obtain ⟨v, hv, h⟩ := Option.map_eq_some_iff.1 h
      cases h
      refine run _ _ _ hx ?_
      rintro ex' a' w' ⟨K', β', q1, q2, q3, q4, q5⟩
      cases ex' <;> try exact q1.elim
      obtain ⟨cv, hc, hvc⟩ := results_sound q3 q2 hf.res hv
      exact ⟨q5, cv, hc, K', β', hvc, q3, q4⟩
    · rename_i e' H1 hx
      obtain ⟨v, hv, h⟩ := Option.map_eq_some_iff.1 h
      cases h
      refine run _ _ _ hx ?_
      rintro ex' a' w' ⟨K', β', q1, q2, q3, q4, q5⟩
      cases ex' <;> try exact q1.elim
      obtain ⟨cv, hc, hvc⟩ := results_sound q3 q2 hf.res hv
      exact ⟨q5, cv, hc, K', β', hvc, q3, q4⟩
    · rename_i v e' H1 hx
      cases h
      refine run _ _ _ hx ?_
      rintro ex' a' w' ⟨K', β', q1, q2, q3, q4, q5⟩
      cases ex' <;> try exact q1.elim
      obtain ⟨cc, rfl, hvc⟩ := q1
      exact ⟨q5, K', β', ⟨cc, rfl, hvc⟩, q3, q4⟩
    · cases h

theorem callW_sound {P : Program} {p : AP} (hp : APOk P p) {ex : ExecT} (hex : ExecOk P p ex) : CallOk P (callW p ex) := by
  intro f args H r H' h K β w cargs hI ha
  cases hg : p.prim f with
  | some g =>
    unfold callW at h
    rw [hg] at h
    obtain ⟨v, hv, h⟩ := Option.map_eq_some_iff.1 h
    cases h
    exact hp.prim f g hg args v hv K β H w cargs hI ha
  | none =>
    obtain ⟨h1, h2⟩ := fnW_sound hp hex hg h hI ha
    exact .inr ⟨f, cargs, h1, h2⟩

def nofix : ACode → Bool
  | .fix _ _ => false
  | _ => true
theorem er_skip {ac : ACode} (h : erase ac = .skip) (hn : nofix ac = true) : ac = .skip := by
  cases ac <;> simp [erase, nofix] at h hn ⊢
theorem er_ret {ac : ACode} (h : erase ac = .ret) (hn : nofix ac = true) : ac = .ret := by
  cases ac <;> simp [erase, nofix] at h hn ⊢
theorem er_exit {ac : ACode} {i : Nat} (h : erase ac = .exit i) (hn : nofix ac = true) : ac = .exit i := by
  cases ac <;> simp [erase, nofix] at h hn ⊢
  exact h
theorem er_region {ac : ACode} {l : List AO} {d : Bool} (h : erase ac = .region l d) (hn : nofix ac = true) : ac = .region l d := by
  cases ac <;> simp [erase, nofix] at h hn ⊢
  exact h
theorem er_seq {ac x y : ACode} (h : erase ac = .seq x y) (hn : nofix ac = true) : ∃ a b, ac = .seq a b ∧ erase a = x ∧ erase b = y := by
  cases ac <;> simp only [erase, nofix, reduceCtorEq] at h hn
  cases h; exact ⟨_, _, rfl, rfl, rfl⟩
theorem er_cond {ac x y : ACode} {c : Opd} (h : erase ac = .cond c x y) (hn : nofix ac = true) : ∃ a b, ac = .cond c a b ∧ erase a = x ∧ erase b = y := by
  cases ac <;> simp only [erase, nofix, reduceCtorEq] at h hn
  cases h; exact ⟨_, _, rfl, rfl, rfl⟩
theorem er_block {ac x : ACode} {i : Nat} (h : erase ac = .block i x) (hn : nofix ac = true) : ∃ a, ac = .block i a ∧ erase a = x := by
  cases ac <;> simp only [erase, nofix, reduceCtorEq] at h hn
  cases h; exact ⟨_, rfl, rfl⟩
theorem er_loop {ac x : ACode} (h : erase ac = .loop x) (hn : nofix ac = true) : ∃ a, ac = .loop a ∧ erase a = x := by
  cases ac <;> simp [erase, nofix] at h hn ⊢
  exact h

theorem exec_sound {P : Program} {p : AP} (hp : APOk P p) : ∀ n, ExecOk P p (exec p n) ∧
    (∀ (c : Code) (b : ACode), cCode P c = some (erase b) → ∀ (nt : Nat), dstsOk nt (erase b) = true → ∀ (e : Env) (H : List Ob) (x : X) (e' : Env) (H' : List Ob), exec p n (.loop b) e H = some (x, e', H') →
      ∀ (K : Kn) (β : Bi) (a : Act) (w : World), Inv K β H w → ER K β nt e a → ∀ Q : Exit → Act → World → Prop, (∀ ex a' w', Post K β H w nt x e' H' a.defers ex a' w' → Q ex a' w') → Code.rounds P c Q n a w) := by
  intro n
  induction n with
  | zero => exact ⟨fun c ac _ nt _ e H x e' H' h => by simp [exec] at h, fun c b _ nt _ e H x e' H' h => by simp [exec] at h⟩
  | succ n ih =>
    obtain ⟨ihE, ihR⟩ := ih
    have hcall : CallOk P (callW p (exec p n)) := callW_sound hp ihE
    have rnd : ∀ (c : Code) (b : ACode), cCode P c = some (erase b) → ∀ (nt : Nat), dstsOk nt (erase b) = true → ∀ (e : Env) (H : List Ob) (x : X) (e' : Env) (H' : List Ob), exec p (n + 1) (.loop b) e H = some (x, e', H') →
        ∀ (K : Kn) (β : Bi) (a : Act) (w : World), Inv K β H w → ER K β nt e a → ∀ Q : Exit → Act → World → Prop, (∀ ex a' w', Post K β H w nt x e' H' a.defers ex a' w' → Q ex a' w') → Code.rounds P c Q (n + 1) a w := by
      intro c b hc nt hd e H x e' H' h K β a w hI hE Q hQ
      rw [rounds_succ]
      simp only [exec] at h
      split at h
      · rename_i e1 H1 hb
        refine ihE c b hc nt hd e H _ e1 H1 hb K β a w hI hE _ ?_
        rintro ex a' w' ⟨K1, β1, q1, q2, q3, q4, q5⟩
        cases ex <;> try exact q1.elim
        exact ihR c b hc nt hd e1 H1 x e' H' h K1 β1 a' w' q3 q2 Q fun ex a'' w'' hp => hQ _ _ _ (q5 ▸ hp.after q4)
      · rename_i hne
        refine ihE c b hc nt hd e H x e' H' h K β a w hI hE _ ?_
        intro ex a' w' hpost
        have hx : ex ≠ .normal := by
          rintro rfl
          obtain ⟨K1, β1, q1, _⟩ := hpost
          cases x <;> try exact q1.elim
          exact hne _ _ h
        cases ex <;> first | exact absurd rfl hx | exact hQ _ _ _ hpost
    refine ⟨?_, rnd⟩
    suffices key : ∀ (c : Code) (ac : ACode), nofix ac = true → cCode P c = some (erase ac) → ∀ (nt : Nat), dstsOk nt (erase ac) = true → ∀ (e : Env) (H : List Ob) (x : X) (e' : Env) (H' : List Ob), exec p (n + 1) ac e H = some (x, e', H') →
        ∀ (K : Kn) (β : Bi) (a : Act) (w : World), Inv K β H w → ER K β nt e a → ∀ Q : Exit → Act → World → Prop, (∀ ex a' w', Post K β H w nt x e' H' a.defers ex a' w' → Q ex a' w') → c.wp P Q a w by
      intro c ac hc nt hd e H x e' H' h K β a w hI hE Q hQ
      by_cases hn : nofix ac = true
      · exact key c ac hn hc nt hd e H x e' H' h K β a w hI hE Q hQ
      · cases ac with
        | fix t b =>
          cases t with
          | some t =>
            rw [exec] at h
            split at h
            · rename_i v H1 hf
              obtain ⟨K1, i1, e1, v1⟩ := freezeV_sound depthF (e t) H v H1 hf K _ hI (hE.val t)
              have hE1 : ER K1 β nt (upd e t v) a := by
                refine ⟨hE.size, fun s => ?_⟩
                unfold upd
                split
                · rename_i hs; subst hs; exact v1
                · exact (hE.val s).mono e1.k fun _ _ h => h
              exact ihE c b hc nt hd _ H1 x e' H' h K1 β a w i1 hE1 Q fun ex a' w' hp => hQ _ _ _ (hp.after e1)
            · cases h
          | none =>
            rw [exec] at h
            split at h
            · rename_i H1 hf
              obtain ⟨K1, i1, e1⟩ := freezeObs_sound hI H 0 H H1 hf (fun j o hj => by rw [Nat.zero_add]; exact hj) K (Kn.le_refl _) hI
              exact ihE c b hc nt hd _ H1 x e' H' h K1 β a w i1 (hE.mono e1.k fun _ _ h => h) Q fun ex a' w' hp => hQ _ _ _ (hp.after e1)
            · cases h
        | _ => exact absurd rfl hn
    intro c
    induction c with
    | skip =>
      intro ac hn hc nt hd e H x e' H' h K β a w hI hE Q hQ
      simp only [cCode, Option.some.injEq] at hc
      obtain rfl := er_skip hc.symm hn
      simp [exec] at h; obtain ⟨rfl, rfl, rfl⟩ := h
      exact wp_skip (hQ _ _ _ ⟨K, β, trivial, hE, hI, .refl K β H w, rfl⟩)
    | label l =>
      intro ac hn hc nt hd e H x e' H' h K β a w hI hE Q hQ
      simp only [cCode, Option.some.injEq] at hc
      obtain rfl := er_skip hc.symm hn
      simp [exec] at h; obtain ⟨rfl, rfl, rfl⟩ := h
      exact wp_label (hQ _ _ _ ⟨K, β, trivial, hE, hI, .refl K β H w, rfl⟩)
    | region id ops d =>
      intro ac hn hc nt hd e H x e' H' h K β a w hI hE Q hQ
      simp only [cCode] at hc
      split at hc
      · cases hc
      · obtain ⟨l, hl, hc⟩ := Option.map_eq_some_iff.1 hc
        obtain rfl := er_region hc.symm hn
        obtain ⟨hlen, hget⟩ := mapOpt_get hl
        have hops : ∀ (j : Nat) (ao : AO), l[j]? = some ao → ∃ o, ops[j]? = some o ∧ cOper P ops o = some ao := fun j ao hj => by
          obtain ⟨o, ho, hc⟩ := hget j ao hj
          exact ⟨o, by simpa using ho, hc⟩
        have hdst : ∀ ao ∈ (if d then l else l.map AO.bare), ∀ t, ao.dst = some t → t < nt := by
          intro ao hao t ht
          have := List.all_eq_true.1 (by simpa only [dstsOk, erase] using hd : (if d then l else l.map AO.bare).all _ = true) ao hao
          rw [ht] at this; simpa using this
        simp only [exec] at h
        cases d with
        | true => exact draw_sound hcall hp.mixed (by simpa using hlen.symm) hops hdst (by simpa using h) hI hE id hQ
        | false =>
          refine wp_region ?_
          have := runOps_sound hcall (l.map AO.bare) 0 (fun j ao hj => by
            rw [List.getElem?_map] at hj
            obtain ⟨ao', hj', rfl⟩ := Option.map_eq_some_iff.1 hj
            obtain ⟨o, ho, hc⟩ := hops j ao' hj'
            exact ⟨o, by rwa [Nat.zero_add], made_bare hc⟩) hdst e H (by simpa using h) K β a w hI hE hQ
          rwa [List.length_map, ← hlen, Array.length_toList, ← List.range_eq_range'] at this
    | seq c1 c2 ih1 ih2 =>
      intro ac hn hc nt hd e H x e' H' h K β a w hI hE Q hQ
      simp only [cCode] at hc
      split at hc
      case h_2 => cases hc
      rename_i c1' c2' h1 h2
      obtain ⟨b1, b2, rfl, rfl, rfl⟩ := er_seq (Option.some.inj hc).symm hn
      simp only [erase, dstsOk, Bool.and_eq_true] at hd
      simp only [exec] at h
      refine wp_seq ?_
      split at h
      · rename_i e1 H1 hb
        refine ihE c1 b1 h1 nt hd.1 e H _ e1 H1 hb K β a w hI hE _ ?_
        rintro ex a' w' ⟨K1, β1, q1, q2, q3, q4, q5⟩
        cases ex <;> try exact q1.elim
        exact ihE c2 b2 h2 nt hd.2 e1 H1 x e' H' h K1 β1 a' w' q3 q2 Q fun ex a'' w'' hp => hQ _ _ _ (q5 ▸ hp.after q4)
      · rename_i hne
        refine ihE c1 b1 h1 nt hd.1 e H x e' H' h K β a w hI hE _ ?_
        intro ex a' w' hpost
        have hx : ex ≠ .normal := by
          rintro rfl
          obtain ⟨K1, β1, q1, _⟩ := hpost
          cases x <;> try exact q1.elim
          exact hne _ _ h
        cases ex <;> first | exact absurd rfl hx | exact hQ _ _ _ hpost
    | cond o c1 c2 ih1 ih2 =>
      intro ac hn hc nt hd e H x e' H' h K β a w hI hE Q hQ
      simp only [cCode] at hc
      split at hc
      case h_2 => cases hc
      rename_i y c1' c2' hy h1 h2
      obtain ⟨b1, b2, rfl, rfl, rfl⟩ := er_cond (Option.some.inj hc).symm hn
      simp only [erase, dstsOk, Bool.and_eq_true] at hd
      simp only [exec] at h
      have hv := hE.opd hy
      split at h
      · rename_i hb
        rw [hb] at hv
        generalize hcc : a.eval o = cc at hv
        cases hv
        exact wp_cond_true hcc (ihE c1 b1 h1 nt hd.1 e H x e' H' h K β a w hI hE Q hQ)
      · rename_i hb
        rw [hb] at hv
        generalize hcc : a.eval o = cc at hv
        cases hv
        exact wp_cond_false hcc (ihE c2 b2 h2 nt hd.2 e H x e' H' h K β a w hI hE Q hQ)
      · cases h
    | block id c1 ih1 =>
      intro ac hn hc nt hd e H x e' H' h K β a w hI hE Q hQ
      simp only [cCode] at hc
      obtain ⟨c1', h1, hc⟩ := Option.map_eq_some_iff.1 hc
      obtain ⟨b1, rfl, rfl⟩ := er_block hc.symm hn
      simp only [exec] at h
      refine wp_block ?_
      have hd' : dstsOk nt (erase b1) = true := by simpa [erase, dstsOk] using hd
      split at h
      · rename_i i e1 H1 hb
        refine ihE c1 b1 h1 nt hd' e H _ e1 H1 hb K β a w hI hE _ ?_
        rintro ex a' w' ⟨K1, β1, q1, q2, q3, q4, q5⟩
        cases ex <;> try exact q1.elim
        rename_i j
        have hij : i = j := q1
        subst hij
        simp only [Exit.inBlock]
        split at h <;> cases h
        · rename_i hi; rw [if_pos hi]; exact hQ _ _ _ ⟨K1, β1, trivial, q2, q3, q4, q5⟩
        · rename_i hi; rw [if_neg hi]; exact hQ _ _ _ ⟨K1, β1, rfl, q2, q3, q4, q5⟩
      · rename_i hne
        refine ihE c1 b1 h1 nt hd' e H x e' H' h K β a w hI hE _ ?_
        intro ex a' w' hpost
        have hx : ∀ j, ex ≠ .exit j := by
          rintro j rfl
          obtain ⟨K1, β1, q1, _⟩ := hpost
          cases x <;> try exact q1.elim
          exact hne _ _ _ h
        cases ex <;> first | exact absurd rfl (hx _) | exact hQ _ _ _ hpost
    | loop c1 ih1 =>
      intro ac hn hc nt hd e H x e' H' h K β a w hI hE Q hQ
      simp only [cCode] at hc
      obtain ⟨c1', h1, hc⟩ := Option.map_eq_some_iff.1 hc
      obtain ⟨b1, rfl, rfl⟩ := er_loop hc.symm hn
      exact wp_loop_rounds (n + 1) (rnd c1 b1 h1 nt (by simpa [erase, dstsOk] using hd) e H x e' H' h K β a w hI hE Q hQ)
    | scope c1 ih1 =>
      intro ac hn hc nt hd e H x e' H' h K β a w hI hE Q hQ
      simp only [cCode] at hc
      refine wp_scope_straight (ih1 ac hn hc nt hd e H x e' H' h K β a w hI hE _ ?_)
      intro ex a' w' hpost
      cases ex with
      | goto l => obtain ⟨K1, β1, q1, _⟩ := hpost; cases x <;> exact q1.elim
      | _ => exact hQ _ _ _ hpost
    | exit id =>
      intro ac hn hc nt hd e H x e' H' h K β a w hI hE Q hQ
      simp only [cCode, Option.some.injEq] at hc
      obtain rfl := er_exit hc.symm hn
      simp [exec] at h; obtain ⟨rfl, rfl, rfl⟩ := h
      exact wp_exit (hQ _ _ _ ⟨K, β, rfl, hE, hI, .refl K β H w, rfl⟩)
    | ret =>
      intro ac hn hc nt hd e H x e' H' h K β a w hI hE Q hQ
      simp only [cCode, Option.some.injEq] at hc
      obtain rfl := er_ret hc.symm hn
      simp [exec] at h; obtain ⟨rfl, rfl, rfl⟩ := h
      exact wp_ret (hQ _ _ _ ⟨K, β, trivial, hE, hI, .refl K β H w, rfl⟩)
    | goto l => intro ac hn hc; cases hc
    | refuse s => intro ac hn hc; cases hc
    | rangeFunc f ps as b ih1 ih2 => intro ac hn hc; cases hc

theorem acall_calls {P : Program} {p : AP} (hp : APOk P p) (n : Nat) {f : FuncId} {args : List V} {H : List Ob} {r : CR} {H' : List Ob} (hpr : p.prim f = none)
    (h : acall p n f args H = some (r, H')) {K : Kn} {β : Bi} {w : World} {cargs : Array Value} (hI : Inv K β H w) (ha : LR K β args cargs.toList) :
    Calls P f cargs w (CallPost K β H w r H') := (fnW_sound hp (exec_sound hp n).1 hpr h hI ha).2

theorem acall_sound {P : Program} {p : AP} (hp : APOk P p) (n : Nat) : CallOk P (acall p n) := callW_sound hp (exec_sound hp n).1
end Fz
