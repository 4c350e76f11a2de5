/- Code and calls are carried out as the abstract interpreter says. -/
import Derived.Test.YtnngbniomonabaaFzLaw3M4
import Derived.RecoverIn
import Derived.ProofKit
import Derived.OpenShut
import Derived.JoinedCond
import Derived.Carry
import Derived.Below
import Derived.Test.YtnngbniomonabaaRows
set_option linter.all false
set_option linter.unusedVariables false
set_option linter.unusedSimpArgs false
set_option linter.unnecessarySimpa false
namespace Fz
open Go

/-- Its loops over functions have the bodies that are on record. -/
def rOk (p : AP) : ACode → Prop
  | .seq a b => rOk p a ∧ rOk p b
  | .cond _ a b => rOk p a ∧ rOk p b
  | .block _ b => rOk p b
  | .loop b => rOk p b
  | .fix _ b => rOk p b
  | .range k _ ps a b => ∃ ab, p.body k = some ab ∧ ps = ab.ps ∧ a = ab.assign ∧ b = ab.body
  | _ => True
theorem rOk_of {p : AP} : ∀ (ac : ACode), hasR ac = false → rOk p ac
  | .skip, _ | .region _ _, _ | .exit _, _ | .ret, _ => trivial
  | .seq a b, h => by simp only [hasR, Bool.or_eq_false_iff] at h; exact ⟨rOk_of a h.1, rOk_of b h.2⟩
  | .cond _ a b, h => by simp only [hasR, Bool.or_eq_false_iff] at h; exact ⟨rOk_of a h.1, rOk_of b h.2⟩
  | .block _ b, h => rOk_of b (by simpa only [hasR] using h)
  | .loop b, h => rOk_of b (by simpa only [hasR] using h)
  | .fix _ b, h => rOk_of b (by simpa only [hasR] using h)
  | .range _ _ _ _ _, h => by cases h
def rOkF (p : AP) (af : AFun) : Prop := rOk p af.code ∧ ∀ x, af.dfr = some x → (∀ c ∈ x.1, rOk p c) ∧ rOk p x.2.2.2

structure APOk (P : Program) (p : AP) : Prop where
  mixed : P.follows .mixedOrders = true
  fn : ∀ f af, p.fn f = some af → cFun P f = some af.erase
  prim : ∀ f g, p.prim f = some g → ∀ args v, g args = some v → ∀ (K : Kn) (β : Bi) (H : List Ob) (w : World) (cargs : Array Value), Inv K β H w → LR K β args cargs.toList → DoesOk P f cargs w (CallPost K β H w (.ret v) H)
  rng : ∀ f af, p.fn f = some af → rOkF p af
  bods : ∀ k ab, p.body k = some ab → hasR ab.assign = false ∧ hasR ab.body = false

theorem mapOpt_get {α β : Type} {f : α → Option β} : ∀ {l : List α} {m : List β}, mapOpt f l = some m → l.length = m.length ∧ ∀ (j : Nat) (b : β), m[j]? = some b → ∃ a, l[j]? = some a ∧ f a = some b
  | [], m, h => by simp [mapOpt] at h; subst h; exact ⟨rfl, fun j b hb => by simp at hb⟩
  | a :: l, m, h => by
    simp only [mapOpt] at h
    split at h <;> cases h
    rename_i x y hx hy
    obtain ⟨h1, h2⟩ := mapOpt_get hy
    refine ⟨by simp [h1], fun j b hb => ?_⟩
    cases j with
    | zero => simp at hb; subst hb; exact ⟨a, rfl, hx⟩
    | succ j => obtain ⟨q, hq, hq2⟩ := h2 j b (by simpa using hb); exact ⟨q, by simpa using hq, hq2⟩

def resF (tmps : Array Value) : ResultVar → Sem Value
  | .tmp t => pure (tmps.getD t Go.undef)
  | .cell b t => do loadVar t (← asAddr (tmps.getD b Go.undef))

theorem result_sound {P : Program} {K : Kn} {β : Bi} {H : List Ob} {w : World} {nt : Nat} {e : Env} {a : Act} (hI : Inv K β H w) (hE : ER K β nt e a) : ∀ {rs : List ResultVar} {qs : List (Nat × Option (Bool × Nat))} {vs : List V}, mapOpt (cRes P) rs = some qs → resultsV e H qs = some vs →
    ∃ cs : List Value, (rs.mapM (resF a.tmps)).run P w = .ok cs w ∧ LR K β vs cs
  | [], qs, vs, h1, h2 => by
    simp [mapOpt] at h1; subst h1
    simp [resultsV] at h2; subst h2
    exact ⟨[], rfl, .nil K β⟩
  | r :: rs, qs, vs, h1, h2 => by
    simp only [mapOpt] at h1
    split at h1 <;> cases h1
    rename_i q qs hq hqs
    simp only [resultsV] at h2
    split at h2 <;> cases h2
    rename_i v vs hv hvs
    obtain ⟨cs, g1, g2⟩ := result_sound hI hE hqs hvs
    have one : ∃ c, (resF a.tmps r).run P w = .ok c w ∧ VR K β v c := by
      cases r with
      | tmp t =>
        simp [cRes] at hq; subst hq
        simp [resultV] at hv; subst hv
        exact ⟨_, rfl, hE.val t⟩
      | cell b t =>
        simp only [cRes] at hq
        split at hq
        · rename_i g n hg hn
          split at hq <;> cases hq
          simp only [resultV] at hv
          split at hv
          · rename_i l hl
            obtain ⟨bb, oo, hc, p1, p2⟩ := loadVar_sound (P := P) hI (hE.val b) hl hg hn
            simp only [resF, hc]
            cases g with
            | true =>
              simp only [if_true, Option.some.injEq] at hv; subst hv
              obtain ⟨d, hd, hvd⟩ := p1 rfl
              exact ⟨d, by simp [asAddr, hd], hvd⟩
            | false =>
              simp only [Bool.false_eq_true, if_false] at hv
              split at hv <;> cases hv
              obtain ⟨d, hd, hvd⟩ := p2 rfl _ rfl
              exact ⟨d, by simp [asAddr, hd], hvd⟩
          · cases hv
        · cases hq
    obtain ⟨c, hc, hvc⟩ := one
    refine ⟨c :: cs, ?_, .cons hvc g2⟩
    simp only [List.mapM_cons, Sem.run_bind, Sem.run_pure]
    rw [hc]; simp only [Result.andThen_ok, g1]

theorem results_sound {P : Program} {K : Kn} {β : Bi} {H : List Ob} {w : World} {nt : Nat} {e : Env} {a : Act} (hI : Inv K β H w) (hE : ER K β nt e a) {fn : Func} {qs : List (Nat × Option (Bool × Nat))} {v : V} (h1 : mapOpt (cRes P) fn.results.toList = some qs) (h2 : resultOf e H qs = some v) :
    ∃ c, (results fn a.tmps).run P w = .ok c w ∧ VR K β v c := by
  unfold resultOf at h2
  have e1 : results fn a.tmps = (fn.results.mapM (resF a.tmps) >>= fun vs => pure (if h : vs.size = 1 then vs[0] else .tuple vs)) := by
    unfold results
    congr 1
  have run : ∀ {cs : List Value}, (fn.results.toList.mapM (resF a.tmps)).run P w = .ok cs w →
      (results fn a.tmps).run P w = .ok (if h : cs.toArray.size = 1 then cs.toArray[0] else .tuple cs.toArray) w := by
    intro cs h
    rw [e1, Sem.run_bind, Array.mapM_eq_mapM_toList, Sem.run_map, h]
    rfl
  split at h2
  · rename_i u hu
    cases h2
    obtain ⟨cs, g1, g2⟩ := result_sound hI hE h1 hu
    obtain ⟨c, r, rfl, g3, g4⟩ := g2.head
    have : r = [] := List.eq_nil_of_length_eq_zero g4.1.symm
    subst this
    exact ⟨c, by rw [run g1]; simp, g3⟩
  · rename_i l hne hl
    cases h2
    obtain ⟨cs, g1, g2⟩ := result_sound hI hE h1 hl
    refine ⟨.tuple cs.toArray, ?_, .tuple g2.arr.1 g2.arr.2⟩
    rw [run g1, dif_neg]
    intro hs
    have hs' : l.length = 1 := by rw [g2.1]; simpa using hs
    match l, hs' with
    | [u], _ => exact hne u rfl
  · cases h2

theorem stepR_scope {P : Program} {b : Frame} {a : Act} {k : List Item} {cs : List Frame} {w : World} {c : Code} : step P (lone (b.atR a (.code (.scope c) :: k)) cs w) = .next (lone (b.atR a (.code c :: .inScope c :: k)) cs w) :=
  step_lone_go (by simp [stepG, stepG.exec, Frame.atR])
theorem stepR_inScope {P : Program} {b : Frame} {a : Act} {k : List Item} {cs : List Frame} {w : World} {c : Code} : step P (lone (b.atR a (.inScope c :: k)) cs w) = .next (lone (b.atR a k) cs w) :=
  step_lone_go (by simp [stepG, stepG.exec, Frame.atR])
/-- A scope in which nothing jumps back. -/
def noGoto (Q : Exit → Act → World → Prop) : Exit → Act → World → Prop
  | .goto _, _, _ => False
  | e, a, w => Q e a w
theorem wpIn_scope {F : Fence} {n : Nat} {P : Program} {Q : Exit → Act → World → Prop} {a : Act} {w : World} {c : Code} (h : c.wpIn F n P (noGoto Q) a w) : (Code.scope c).wpIn F n P Q a w := by
  intro b k cs hro hb hr
  obtain ⟨e, a₁, w₁, hq, harr⟩ := h b (.inScope c :: k) cs hro hb hr
  have h0 : StepsIn (Machine.fenced P F) P (lone (b.atR a (.code (.scope c) :: k)) cs w) (lone (b.atR a (.code c :: .inScope c :: k)) cs w) := .one (fenced_calm hb hr rfl) stepR_scope
  cases e with
  | normal => exact ⟨.normal, a₁, w₁, hq, StepsIn.trans h0 (StepsIn.trans harr (.one (fenced_calm hb hr rfl) stepR_inScope))⟩
  | exit id => exact ⟨.exit id, a₁, w₁, hq, .of_steps h0 ⟨fun k' hk => harr.1 k' (by simpa [exitTo] using hk), fun hr hk => harr.2 hr (by simpa [exitTo] using hk)⟩⟩
  | goto l => exact hq.elim
  | ret => exact ⟨.ret, a₁, w₁, hq, .of_steps h0 harr⟩
  | panic ch => exact ⟨.panic ch, a₁, w₁, hq, .of_steps h0 harr⟩
  | outgrown => exact ⟨.outgrown, a₁, w₁, hq, .of_steps h0 harr⟩

/-- A loop's record, as the code has it. -/
def lpOf (P : Program) (p : AP) : LpT := fun k r => ∃ ab nt, p.body k = some ab ∧ cCode P r.assign = some (erase ab.assign) ∧ cCode P r.body = some (erase ab.body) ∧ r.params.toList = ab.ps ∧
  dstsOk nt (erase ab.assign) = true ∧ dstsOk nt (erase ab.body) = true ∧ nt ≤ r.tmps.size ∧ ∀ t ∈ ab.ps, t < nt

/-- A function that is compiled. -/
structure FunOk (P : Program) (f : FuncId) (af : AFun) (fn : Func) (c : Code) : Prop where
  get : P.funcs[f]? = some fn
  body : fn.body = some c
  res : mapOpt (cRes P) fn.results.toList = some af.results
  name : (fn.name == "runtime.NumGoroutine") = false
  nt : af.nt = fn.ntmps
inductive FunCode (P : Program) (c : Code) (af : AFun) : Prop
  | plain (hd : af.dfr = none) (hr : af.rcv = none) (hc : cCode P c = some af.code) (hs : dstsOk af.nt af.code = true)
  | dfr (pre : List Code) (id : Nat) (ops : Array Oper) (call : Call) (ty : TypeId) (rest : Code) (apre : List ACode) (reg : List AO) (clo : Opd) (arest : ACode) (hsp : splitD c = some (pre, id, ops, call, ty, rest)) (h1 : mapOpt (cCode P) pre = some apre)
      (h2 : cBare P ops ops.pop.toList = some reg) (h3 : cTarget call = some clo) (h4 : cCode P rest = some arest) (s1 : apre.all (dstsOk af.nt) = true) (s2 : dstsOk af.nt (.region reg false) = true) (s3 : dstsOk af.nt arest = true)
      (hd : af.dfr = some (apre, reg, clo, arest)) (hr : af.rcv = none)
  | rcv (t : Nat) (b : Code) (hsp : splitR c = some (t, b)) (hc : cCode P b = some af.code) (hs : dstsOk af.nt af.code = true) (ht : t < af.nt) (hd : af.dfr = none) (hr : af.rcv = some t)

theorem cFun_ok {P : Program} {f : FuncId} {af : AFun} (h : cFun P f = some af) : ∃ fn c, FunOk P f af fn c ∧ FunCode P c af := by
  unfold cFun at h
  split at h
  · cases h
  · rename_i fn hf
    split at h
    · cases h
    · rename_i c hb
      split at h
      · cases h
      · rename_i rs hr
        split at h
        · cases h
        · rename_i hcond
          simp only [Bool.or_eq_true, not_or] at hcond
          have hn : (fn.name == "runtime.NumGoroutine") = false := Bool.eq_false_iff.2 hcond.1
          split at h
          · rename_i code hc
            split at h <;> cases h
            exact ⟨fn, c, ⟨hf, hb, hr, hn, rfl⟩, .plain rfl rfl hc ‹_›⟩
          · split at h
            · rename_i pre id ops call ty rest hsp
              split at h
              · rename_i apre reg clo arest h1 h2 h3 h4
                split at h <;> cases h
                rename_i hs
                simp only [Bool.and_eq_true] at hs
                exact ⟨fn, c, ⟨hf, hb, hr, hn, rfl⟩, .dfr pre id ops call ty rest apre reg clo arest hsp h1 h2 h3 h4 hs.1.1 hs.1.2 hs.2 rfl rfl⟩
              · cases h
            · split at h
              · rename_i t b hsp
                split at h
                · rename_i code hc
                  split at h <;> cases h
                  rename_i hs
                  simp only [Bool.and_eq_true, decide_eq_true_eq] at hs
                  exact ⟨fn, c, ⟨hf, hb, hr, hn, rfl⟩, .rcv t b hsp hc hs.1 hs.2 rfl rfl⟩
                · cases h
              · cases h

theorem call_enter {P : Program} {f : FuncId} {af : AFun} {fn : Func} {c : Code} (h : FunOk P f af fn c) (cargs : Array Value) (w : World) : (callFunc f cargs).run P w = .ok (.enter f cargs) w := by
  have hn : ¬ fn.name = "runtime.NumGoroutine" := by simpa using h.name
  simp [callFunc, h.get, hn, h.body]

structure ExecOk (P : Program) (p : AP) (ex : ExecT) : Prop where
  code : ∀ (c : Code) (ac : ACode), cCode P c = some (erase ac) → rOk p ac → ∀ (nt : Nat), dstsOk nt (erase ac) = true → ∀ (e : Env) (H : List Ob) (x : X) (e' : Env) (H' : List Ob), ex ac e H = some (x, e', H') →
    ∀ (K : Kn) (β : Bi) (a : Act) (w : World), K.lp = lpOf P p → Inv K β H w → ER K β nt e a → ∀ Q : Exit → Act → World → Prop, (∀ ex a' w', PostM (hasR ac) K β H w nt x e' H' a.defers ex a' w' → Q ex a' w') →
    ∀ (ro : Option Nat) (bud : Nat), (hasR ac = true → ro = none) → c.wpIn (Fr ro) bud P Q a w
  reg : ∀ (ops : Array Oper) (l : List AO), (∀ (j : Nat) (ao : AO), l[j]? = some ao → ∃ o, ops[j]? = some o ∧ Made P ops o ao) → ∀ (nt : Nat), (∀ ao ∈ l, ∀ t, ao.dst = some t → t < nt) →
    ∀ (e : Env) (H : List Ob) (x : X) (e' : Env) (H' : List Ob), ex (.region l false) e H = some (x, e', H') →
    ∀ (K : Kn) (β : Bi) (a : Act) (w : World), K.lp = lpOf P p → Inv K β H w → ER K β nt e a → ∀ (Q : Exit → Act → World → Prop) (ro : Option Nat) (bud : Nat) (tl : List Nat),
    (∀ ex a' w', Post K β H w nt x e' H' a.defers ex a' w' → TlQ ro bud P ops Q tl ex a' w') → wpOpsIn (Fr ro) bud P ops Q (List.range' 0 l.length ++ tl) a w

theorem enter_ER {K : Kn} {β : Bi} {args : List V} {cargs : Array Value} (ha : LR K β args cargs.toList) {nt n : Nat} (hnt : nt = n) : ER K β nt (env0 args) { tmps := cargs ++ Array.replicate (n - cargs.size) Go.undef, defers := [] } := by
  refine ⟨by rw [hnt]; simp; omega, fun t => ?_⟩
  have hsz : args.length = cargs.size := by simpa using ha.1
  unfold env0
  by_cases ht : t < args.length
  · have h1 : args[t]? = some args[t] := List.getElem?_eq_getElem ht
    have h2 := ha.2 t _ h1
    have e1 : args.getD t uv = args[t] := by simp [List.getD, h1]
    rw [e1]
    have htc : t < cargs.size := by omega
    simpa [List.getD, htc, Array.getD_eq_getD_getElem?, Array.getElem?_append, ht] using h2
  · have e1 : args.getD t uv = uv := by simp [List.getD, ht]
    rw [e1]
    have : (cargs ++ Array.replicate (n - cargs.size) Go.undef).getD t Go.undef = Go.undef := by
      rw [Array.getD_eq_getD_getElem?, Array.getElem?_append, if_neg (by omega), Array.getElem?_replicate]
      split <;> rfl
    simp only [this]
    exact vr_uv K β

/-- A function's end. -/
theorem finish_sound {P : Program} {F : Fence} {n : Nat} {b : Bool} {K : Kn} {β : Bi} {H H1 H' : List Ob} {w w' : World} {nt : Nat} {x : X} {e' : Env} {ex : Exit} {a' : Act} {af : AFun} {fn : Func} {r : CR} (hres : mapOpt (cRes P) fn.results.toList = some af.results)
    (h : finishF af (some (x, e', H1)) = some (r, H')) (hp : PostM b K β H w nt x e' H1 [] ex a' w') : bodyPostM F n P fn (CallPost K β H w r H') ex a' w' := by
  obtain ⟨K', β', q1, q2, q3, q4, Ds, -, d2, d3, d4⟩ := hp
  rw [List.append_nil] at d2
  have ends : ∀ v, resultOf e' H1 af.results = some v → LeavesInM F n P fn a'.tmps (CallPost K β H w (.ret v) H1) a'.defers .returning w' := by
    intro v hv
    have := leaves_marks (P := P) (F := F) (n := n) (fn := fn) (tmps := a'.tmps) (R := CallPost K β H w (.ret v) H1) (u := .returning) (by simp) (K := K') (β := β') (H := H1) (rest := []) (K0 := K) (β0 := β) (H0 := H) (w0 := w) (fun w2 i2 e2 => by
      obtain ⟨cv, hc, hvc⟩ := results_sound i2 q2 hres hv
      exact ⟨cv, hc, K', β', hvc, i2, e2⟩) Ds w' d3 d4 q3 q4
    rw [List.append_nil] at this
    rw [d2]; exact this
  cases x with
  | normal =>
    obtain ⟨v, hv, h⟩ := Option.map_eq_some_iff.1 h
    cases h
    cases ex <;> try exact q1.elim
    exact ends v hv
  | ret =>
    obtain ⟨v, hv, h⟩ := Option.map_eq_some_iff.1 h
    cases h
    cases ex <;> try exact q1.elim
    exact ends v hv
  | exit i => cases h
  | mayRet => cases h
  | panic v =>
    cases h
    cases ex <;> try exact q1.elim
    obtain ⟨cc, rfl, hvc⟩ := q1
    have := leaves_marks (P := P) (F := F) (n := n) (fn := fn) (tmps := a'.tmps) (R := CallPost K β H w (.panic v) H1) (u := .panicking [{ v := cc, recovered := false }]) (by simp) (K := K') (β := β') (H := H1) (rest := []) (K0 := K) (β0 := β) (H0 := H) (w0 := w)
      (fun w2 i2 e2 => ⟨K', β', ⟨cc, rfl, hvc⟩, i2, e2⟩) Ds w' d3 d4 q3 q4
    rw [List.append_nil] at this
    show LeavesInM F n P fn a'.tmps _ a'.defers _ w'
    rw [d2]; exact this
end Fz
namespace Fz
open Go

/-- The end of a function that leaves no marks. -/
theorem finish_plain {P : Program} {K : Kn} {β : Bi} {H H1 H' : List Ob} {w w' : World} {nt : Nat} {x : X} {e' : Env} {ex : Exit} {a' : Act} {af : AFun} {fn : Func} {v : V} (hres : mapOpt (cRes P) fn.results.toList = some af.results)
    (h : finishF af (some (x, e', H1)) = some (.ret v, H')) (hp : PostM false K β H w nt x e' H1 [] ex a' w') :
    (ex = .normal ∨ ex = .ret) ∧ a'.defers = [] ∧ ∃ cv K' β', (results fn a'.tmps).run P w' = .ok cv w' ∧ Inv K' β' H' w' ∧ Ev K β H w K' β' H' w' := by
  obtain ⟨K', β', q1, q2, q3, q4, Ds, d1, d2, d3, d4⟩ := hp
  rw [d1 rfl] at d2
  cases x with
  | normal =>
    obtain ⟨u, hv, h⟩ := Option.map_eq_some_iff.1 h
    cases h
    cases ex <;> try exact q1.elim
    obtain ⟨cv, hc, _⟩ := results_sound q3 q2 hres hv
    exact ⟨.inl rfl, d2, cv, K', β', hc, q3, q4⟩
  | ret =>
    obtain ⟨u, hv, h⟩ := Option.map_eq_some_iff.1 h
    cases h
    cases ex <;> try exact q1.elim
    obtain ⟨cv, hc, _⟩ := results_sound q3 q2 hres hv
    exact ⟨.inr rfl, d2, cv, K', β', hc, q3, q4⟩
  | exit i => cases h
  | mayRet => cases h
  | panic v => cases h

theorem splitR_ok {c b : Code} {t : Nat} (h : splitR c = some (t, b)) : ∃ id o, c = .seq (.region id #[o] false) b ∧ isRecover o = some t := by
  unfold splitR at h
  split at h
  · rename_i id ops b'
    split at h
    · rename_i o ho
      obtain ⟨t', ht, h⟩ := Option.map_eq_some_iff.1 h
      cases h
      have : ops = #[o] := Array.ext' (by simpa using ho)
      subst this
      exact ⟨id, o, rfl, ht⟩
    · cases h
  · cases h
theorem isRecover_ok {P : Program} {o : Oper} {t : Nat} (h : isRecover o = some t) : o.guard = none ∧ o.dst = some t ∧ ∀ (ρ : Operand → Value) (w : World), (execOp ρ o).run P w = .ok .recover w := by
  unfold isRecover at h
  split at h
  · rename_i xs ats t' hop hg hd
    cases h
    exact ⟨hg, hd, fun ρ w => by simp [execOp, hop, resolve, invoke, builtin]⟩
  · cases h

/-- How a frame stands that leaves. -/
def Going (K : Kn) (β : Bi) (pv : Option V) (u : FrameMode) : Prop := (pv = none ∧ u = .returning) ∨ ∃ v c, pv = some v ∧ VR K β v c ∧ u = .panicking [{ v := c, recovered := false }]

theorem callR_sound {P : Program} {p : AP} (hp : APOk P p) {ex : ExecT} (hex : ExecOk P p ex) {d : V} {pv : Option V} {H H' : List Ob} {b : Bool} (h : callR p ex d pv H = some (b, H')) {K : Kn} {β : Bi} {w : World} (hL : K.lp = lpOf P p) (hI : Inv K β H w)
    {dc : Value} (hd : VR K β d dc) {u : FrameMode} (hu : Going K β pv u) (n : Nat) :
    ∃ g cs ds, dc = .func (.func g) cs ds ∧ (callFunc g (cs ++ ds)).run P w = .ok (.enter g (cs ++ ds)) w ∧
      CallsDIn (Fr none) n P g (cs ++ ds) u w (fun e u' w' => ∃ c K' β', e = .returned c ∧ Inv K' β' H' w' ∧ Ev K β H w K' β' H' w' ∧ settle u' = if b || pv.isNone then .returning else u) := by
  unfold callR at h
  split at h
  case h_2 => cases h
  rename_i g first cap
  cases hd with
  | fn h1 h2 h3 h4 =>
    rename_i cs ds
    have ha : LR K β (first ++ cap) (cs ++ ds).toList := by
      have := (LR.of_arr h1 h2).append (LR.of_arr h3 h4)
      simpa using this
    split at h
    · cases h
    split at h
    case h_2 => cases h
    rename_i af hpr haf
    split at h
    case h_2 => cases h
    rename_i hdf hnoR
    obtain ⟨fn, c, hf, hcode⟩ := cFun_ok (hp.fn g af haf)
    have hnt : af.nt = fn.ntmps := hf.nt
    refine ⟨g, cs, ds, rfl, call_enter hf _ w, ?_⟩
    split at h
    · rename_i hrc
      obtain ⟨-, -, hc, hs⟩ : af.erase.dfr = none ∧ af.erase.rcv = none ∧ cCode P c = some af.erase.code ∧ dstsOk af.erase.nt af.erase.code = true := by
        cases hcode with
        | plain hd hr hc hs => exact ⟨hd, hr, hc, hs⟩
        | dfr pre id ops call ty rest apre reg clo arest hsp h1 h2 h3 h4 s1 s2 s3 hd hr => simp [AFun.erase, hdf] at hd
        | rcv t b hsp hc hs ht hd hr => simp [AFun.erase, hrc] at hr
      split at h
      · rename_i v H1 hfin
        cases h
        cases hx : ex af.code (env0 (first ++ cap)) H with
        | none => rw [hx] at hfin; cases hfin
        | some y =>
          obtain ⟨x, e', H2⟩ := y
          rw [hx] at hfin
          refine (callsDIn_of_wp (F := Fr none) (R := fun e w' => ∃ c K' β', e = .returned c ∧ Inv K' β' H' w' ∧ Ev K β H w K' β' H' w') hf.get hf.body trivial ?_).mono ?_
          · refine hex.code c af.code hc (rOk_of _ hnoR) af.nt hs _ H x e' H2 hx K β _ w hL hI (enter_ER ha hnt) _ ?_ none n (fun _ => rfl)
            intro ex' a' w' hpost
            rw [hnoR] at hpost
            obtain ⟨hor, hdef, cv, K', β', hc, i', e'⟩ := finish_plain hf.res hfin hpost
            rcases hor with rfl | rfl <;> exact ⟨hdef, cv, hc, cv, K', β', rfl, i', e'⟩
          · rintro e u' w' ⟨rfl, c', K', β', rfl, i', e'⟩
            refine ⟨c', K', β', rfl, i', e', ?_⟩
            rcases hu with ⟨rfl, rfl⟩ | ⟨v, cc, rfl, hv, rfl⟩ <;> simp [settle]
      · cases h
    · rename_i t hrc
      obtain ⟨b', hsp, hc, hs, ht⟩ : ∃ b', splitR c = some (t, b') ∧ cCode P b' = some af.erase.code ∧ dstsOk af.erase.nt af.erase.code = true ∧ t < af.nt := by
        cases hcode with
        | plain hd hr hc hs => simp [AFun.erase, hrc] at hr
        | dfr pre id ops call ty rest apre reg clo arest hsp h1 h2 h3 h4 s1 s2 s3 hd hr => simp [AFun.erase, hdf] at hd
        | rcv t' b' hsp hc hs ht hd hr =>
          simp [AFun.erase, hrc] at hr; subst hr
          exact ⟨b', hsp, hc, hs, ht⟩
      obtain ⟨id, o, rfl, hrec⟩ := splitR_ok hsp
      obtain ⟨hog, hod, hor⟩ := isRecover_ok (P := P) hrec
      split at h
      · rename_i v H1 hfin
        cases h
        cases hx : ex af.code (upd (env0 (first ++ cap)) t (pv.getD .niliface)) H with
        | none => rw [hx] at hfin; cases hfin
        | some y =>
          obtain ⟨x, e', H2⟩ := y
          rw [hx] at hfin
          refine callsDIn_of_wpSIn (F := Fr none) hf.get hf.body trivial fun c₀ cs' hc0 => ?_
          refine wpSIn_seq (wpSIn_region ?_)
          have hE := enter_ER ha hnt
          have run : ∀ (cv : Value) (st : List Frame), VR K β (pv.getD .niliface) cv → (∀ a' w', a'.defers = [] → (∃ cv K' β', (results fn a'.tmps).run P w' = .ok cv w' ∧ Inv K' β' H' w' ∧ Ev K β H w K' β' H' w') →
              ∀ ex', (ex' = .normal ∨ ex' = .ret) → bodyPostS P fn c₀ cs' (fun e u' w' => ∃ c K' β', e = .returned c ∧ Inv K' β' H' w' ∧ Ev K β H w K' β' H' w' ∧ settle u' = if pv.isSome || pv.isNone then .returning else u) ex' a' st w') →
              b'.wpSIn (Fr none) n P (bodyPostS P fn c₀ cs' (fun e u' w' => ∃ c K' β', e = .returned c ∧ Inv K' β' H' w' ∧ Ev K β H w K' β' H' w' ∧ settle u' = if pv.isSome || pv.isNone then .returning else u))
                (({ tmps := (cs ++ ds) ++ Array.replicate (fn.ntmps - (cs ++ ds).size) Go.undef, defers := [] } : Act).put (some t) cv) st w := by
            intro cv st hcv hend
            refine wpSIn_of_wpIn rfl (hex.code b' af.code hc (rOk_of _ hnoR) af.nt hs _ H x e' H2 hx K β _ w hL hI ?_ _ ?_ none n (fun _ => rfl))
            · exact hE.put (d := some t) (fun s hs => by cases hs; exact ht) hcv
            · intro ex' a' w' hpost
              rw [hnoR, put_defers] at hpost
              obtain ⟨hor, hdef, hrest⟩ := finish_plain hf.res hfin hpost
              exact hend a' w' hdef hrest ex' hor
          have hw : Region.wanted o (yielded #[o] (((cs ++ ds) ++ Array.replicate (fn.ntmps - (cs ++ ds).size) Go.undef))) = true := by simp [Region.wanted, hog]
          have hrg : List.range (#[o] : Array Oper).size = [0] := rfl
          rw [hrg]
          simp only [wpOpsSIn, List.getElem?_toArray, List.getElem?_cons_zero, hw, if_true, hor]
          refine ⟨fun _ _ => trivial, ?_⟩
          rcases hu with ⟨rfl, hu⟩ | ⟨v, cc, rfl, hv, hu⟩
          · have hre : recoverD (c₀ :: cs') = none := by simp [recoverD, hc0, hu]
            simp only [hre, hod]
            refine run _ _ .niliface fun a' w' hdef ⟨cv, K', β', h1, h2, h3⟩ ex' hor => ?_
            have key : a'.defers = [] ∧ ∃ u', c₀ :: cs' = { c₀ with mode := u' } :: cs' ∧ ∃ v, (results fn a'.tmps).run P w' = .ok v w' ∧ ∃ c K' β', Ending.returned v = .returned c ∧ Inv K' β' H' w' ∧ Ev K β H w K' β' H' w' ∧ settle u' = if (none : Option V).isSome || (none : Option V).isNone then .returning else u :=
              ⟨hdef, .returning, by rw [← hu, ← hc0], cv, h1, cv, K', β', rfl, h2, h3, by simp [settle]⟩
            rcases hor with rfl | rfl <;> exact key
          · have hre : recoverD (c₀ :: cs') = some (cc, { c₀ with mode := .panicking [{ v := cc, recovered := true }] } :: cs') := by simp [recoverD, hc0, hu]
            simp only [hre, hod]
            refine run _ _ hv fun a' w' hdef ⟨cv, K', β', h1, h2, h3⟩ ex' hor => ?_
            have key : a'.defers = [] ∧ ∃ u', ({ c₀ with mode := .panicking [{ v := cc, recovered := true }] } : Frame) :: cs' = { c₀ with mode := u' } :: cs' ∧ ∃ v', (results fn a'.tmps).run P w' = .ok v' w' ∧ ∃ c K' β', Ending.returned v' = .returned c ∧ Inv K' β' H' w' ∧ Ev K β H w K' β' H' w' ∧ settle u' = if (some v).isSome || (some v).isNone then .returning else u :=
              ⟨hdef, _, rfl, cv, h1, cv, K', β', rfl, h2, h3, by simp [settle]⟩
            rcases hor with rfl | rfl <;> exact key
      · cases h

/-! ### A function with a deferred call -/

theorem wpIn_mono' {F : Fence} {n : Nat} {P : Program} {Q Q' : Exit → Act → World → Prop} {a : Act} {w : World} {c : Code} (h : c.wpIn F n P Q a w) (hq : ∀ e a w, Q e a w → Q' e a w) : c.wpIn F n P Q' a w :=
  fun b k cs hro hb hr => let ⟨e, a', w', q, r⟩ := h b k cs hro hb hr; ⟨e, a', w', hq _ _ _ q, r⟩

/-- Pieces of code in turn, and what comes behind them. -/
def wpL (F : Fence) (n : Nat) (P : Program) (Q : Exit → Act → World → Prop) : List Code → (Act → World → Prop) → Act → World → Prop
  | [], nx, a, w => nx a w
  | c :: r, nx, a, w => c.wpIn F n P (Exit.then (wpL F n P Q r nx) Q) a w

theorem splitD_ok : ∀ {c : Code} {pre : List Code} {id : Nat} {ops : Array Oper} {call : Call} {ty : TypeId} {rest : Code}, splitD c = some (pre, id, ops, call, ty, rest) →
    (∃ o, ops.back? = some o ∧ o.op = .defer call ∧ o.guard = none ∧ o.dst = none) ∧
    ∀ {F : Fence} {n : Nat} {P : Program} {Q : Exit → Act → World → Prop} {a : Act} {w : World}, wpL F n P Q pre ((Code.region id ops false).wpIn F n P (Exit.then (rest.wpIn F n P Q) Q)) a w → c.wpIn F n P Q a w := by
  intro c
  induction c with
  | seq a r ih1 ih2 =>
    intro pre id ops call ty rest h
    simp only [splitD] at h
    split at h
    · rename_i p' x hx
      cases h
      obtain ⟨h1, h2⟩ := ih2 hx
      refine ⟨h1, fun hw => wpIn_seq (wpIn_mono' hw fun e a w hq => ?_)⟩
      cases e <;> first | exact h2 hq | exact hq
    · split at h
      · split at h
        · rename_i hb
          cases h
          exact ⟨⟨_, hb, rfl, rfl, rfl⟩, fun hw => wpIn_seq hw⟩
        · cases h
      · cases h
  | _ => intro pre id ops call ty rest h; simp [splitD] at h

theorem runL_sound {P : Program} {p : AP} {ex : ExecT} (hex : ExecOk P p ex) {nt : Nat} {x : X} {e' : Env} {H' : List Ob} {n : Nat} {Q : Exit → Act → World → Prop} {nx : Act → World → Prop} :
    ∀ (pre : List Code) (apre : List ACode), mapOpt (cCode P) pre = some (apre.map erase) → (∀ c ∈ apre, rOk p c) → (∀ c ∈ apre, dstsOk nt (erase c) = true) → ∀ (e : Env) (H : List Ob), runL ex apre e H = some (x, e', H') →
    ∀ (K : Kn) (β : Bi) (a : Act) (w : World), K.lp = lpOf P p → Inv K β H w → ER K β nt e a → (∀ ex a' w', PostM true K β H w nt x e' H' a.defers ex a' w' → Exit.then nx Q ex a' w') → wpL (Fr none) n P Q pre nx a w
  | [], apre, hm, _, _, e, H, h, K, β, a, w, hL, hI, hE, hQ => by
    simp [mapOpt] at hm
    have : apre = [] := by simpa using hm
    subst this
    simp [runL] at h
    obtain ⟨rfl, rfl, rfl⟩ := h
    exact hQ .normal a w ⟨K, β, trivial, hE, hI, .refl K β H w, .refl ..⟩
  | c :: pre, apre, hm, hro, hds, e, H, h, K, β, a, w, hL, hI, hE, hQ => by
    simp only [mapOpt] at hm
    split at hm
    case h_2 => cases hm
    rename_i y z hy hz
    have heq := (Option.some.inj hm).symm
    cases apre with
    | nil => simp at heq
    | cons ac apre =>
      simp only [List.map_cons, List.cons.injEq] at heq
      obtain ⟨rfl, rfl⟩ := heq
      simp only [runL] at h
      split at h
      · rename_i e1 H1 hx
        refine hex.code c ac hy (hro _ (by simp)) nt (hds _ (by simp)) e H _ e1 H1 hx K β a w hL hI hE _ ?_ none n (fun _ => rfl)
        rintro ex' a' w' ⟨K1, β1, q1, q2, q3, q4, q5⟩
        cases ex' <;> try exact q1.elim
        refine runL_sound hex pre apre hz (fun c hc => hro c (by simp [hc])) (fun c hc => hds c (by simp [hc])) e1 H1 h K1 β1 a' w' (q4.k.2.2.trans hL) q3 q2 fun ex'' a'' w'' hp => hQ _ _ _ ?_
        exact hp.after q4 q5 (by simp)
      · cases h
      · rename_i hne hne2
        refine hex.code c ac hy (hro _ (by simp)) nt (hds _ (by simp)) e H x e' H' h K β a w hL hI hE _ ?_ none n (fun _ => rfl)
        intro ex' a' w' hpost
        have hx : ex' ≠ .normal := by
          rintro rfl
          obtain ⟨K1, β1, q1, _⟩ := hpost
          cases x <;> try exact q1.elim
          · exact hne _ _ h
          · exact hne2 _ _ h
        have := hQ ex' a' w' (hpost.weak (by simp))
        cases ex' <;> first | exact absurd rfl hx | exact this

theorem deferF_sound {P : Program} {p : AP} (hp : APOk P p) {ex : ExecT} (hex : ExecOk P p ex) {af : AFun} {fn : Func} (hres : mapOpt (cRes P) fn.results.toList = some af.results) {dv : V} {x : X} {e' : Env} {H2 H' : List Ob} {r : CR}
    (h : deferF p ex af dv (some (x, e', H2)) = some (r, H')) {K K1 : Kn} {β β1 : Bi} {H H1 : List Ob} {w w1 : World} (hL : K.lp = lpOf P p) (e1 : Ev K β H w K1 β1 H1 w1) {d1 : List Deferred} (m1 : Marked true K1 β1 H1 w1 w.heap.size d1 [])
    {fv : Fn} {cs ds : Array Value} (hd : VR K1 β1 dv (.func fv cs ds)) {nt : Nat} {b : Bool} {ex' : Exit} {a' : Act} {w' : World} {n : Nat} (hp2 : PostM b K1 β1 H1 w1 nt x e' H2 ({ target := .fn fv ds, args := cs } :: d1) ex' a' w') :
    bodyPostM (Fr none) n P fn (CallPost K β H w r H') ex' a' w' := by
  obtain ⟨K2, β2, q1, q2, q3, q4, Es, -, g2, g3, g4⟩ := hp2
  obtain ⟨Ds, -, f2, f3, f4⟩ := m1
  rw [List.append_nil] at f2
  have core : ∀ (pv : Option V) (u : FrameMode), u ≠ .run → Going K2 β2 pv u → ∀ (bb : Bool) (H3 : List Ob), callR p ex dv pv H2 = some (bb, H3) →
      (∀ (w4 : World) (K4 : Kn) (β4 : Bi), Inv K4 β4 H3 w4 → Ev K β H w K4 β4 H3 w4 → K2.le K4 → (∀ i b, β2 i = some b → β4 i = some b) →
        LeavesIn (Fr none) n P fn a'.tmps (CallPost K β H w r H') [] (if bb || pv.isNone then .returning else u) w4) →
      LeavesInM (Fr none) n P fn a'.tmps (CallPost K β H w r H') a'.defers u w' := by
    intro pv u hu hg bb H3 hc hend
    rw [g2]
    refine leaves_marks hu (K0 := K1) (β0 := β1) (H0 := H1) (w0 := w1) (fun w2 i2 e2 => ?_) Es w' g3 g4 q3 q4
    obtain ⟨g, cs', ds', hdc, henter, hcall⟩ := callR_sound hp hex hc (e2.k.2.2.trans (e1.k.2.2.trans hL)) i2 (hd.mono e2.k e2.b) hg (n - 1)
    cases hdc
    refine ⟨hu, .inr ⟨fun h => Bool.noConfusion h, .func g, ds, g, cs ++ ds, rfl, henter, fun _ _ => trivial, hcall.mono ?_⟩⟩
    rintro e u' w3 ⟨c, K3, β3, rfl, i3, e3, hset⟩
    show LeavesInM (Fr none) n P fn a'.tmps _ d1 (settle u') w3
    rw [hset, f2]
    have hne : (if bb || pv.isNone then FrameMode.returning else u) ≠ .run := by split <;> simp_all
    have := leaves_marks hne (P := P) (F := Fr none) (n := n) (fn := fn) (tmps := a'.tmps) (R := CallPost K β H w r H') (K := K3) (β := β3) (H := H3) (rest := []) (K0 := K) (β0 := β) (H0 := H) (w0 := w)
      (fun w4 i4 e4 => hend w4 K3 β3 i4 e4 e3.k e3.b) Ds w3 f3 (fun D hD => ⟨(f4 D hD).1, ((f4 D hD).2.ev e2).ev e3⟩) i3 ((e1.trans e2).trans e3)
    rwa [List.append_nil] at this
  cases x with
  | normal =>
    simp only [deferF] at h
    cases ex' <;> try exact q1.elim
    split at h
    · rename_i bb H3 hc
      obtain ⟨v, hv, h⟩ := Option.map_eq_some_iff.1 h
      cases h
      refine core none .returning (by simp) (.inl ⟨rfl, rfl⟩) bb H' hc fun w4 K4 β4 i4 e4 hK hβ => ?_
      obtain ⟨cv, hc, hvc⟩ := results_sound i4 (q2.mono hK hβ) hres hv
      simp only [Option.isNone_none, Bool.or_true, if_true]
      exact ⟨cv, hc, K4, β4, hvc, i4, e4⟩
    · cases h
  | ret =>
    simp only [deferF] at h
    cases ex' <;> try exact q1.elim
    split at h
    · rename_i bb H3 hc
      obtain ⟨v, hv, h⟩ := Option.map_eq_some_iff.1 h
      cases h
      refine core none .returning (by simp) (.inl ⟨rfl, rfl⟩) bb H' hc fun w4 K4 β4 i4 e4 hK hβ => ?_
      obtain ⟨cv, hc, hvc⟩ := results_sound i4 (q2.mono hK hβ) hres hv
      simp only [Option.isNone_none, Bool.or_true, if_true]
      exact ⟨cv, hc, K4, β4, hvc, i4, e4⟩
    · cases h
  | exit i => simp [deferF] at h
  | mayRet => simp [deferF] at h
  | panic v =>
    simp only [deferF] at h
    cases ex' <;> try exact q1.elim
    obtain ⟨cc, rfl, hvc⟩ := q1
    split at h
    · rename_i H3 hc
      obtain ⟨v', hv, h⟩ := Option.map_eq_some_iff.1 h
      cases h
      refine core (some v) (.panicking [{ v := cc, recovered := false }]) (by simp) (.inr ⟨v, cc, rfl, hvc, rfl⟩) true H' hc fun w4 K4 β4 i4 e4 hK hβ => ?_
      obtain ⟨cv, hc, hvc⟩ := results_sound i4 (q2.mono hK hβ) hres hv
      simp only [Bool.true_or, if_true]
      exact ⟨cv, hc, K4, β4, hvc, i4, e4⟩
    · rename_i H3 hc
      cases h
      refine core (some v) (.panicking [{ v := cc, recovered := false }]) (by simp) (.inr ⟨v, cc, rfl, hvc, rfl⟩) false H' hc fun w4 K4 β4 i4 e4 hK hβ => ?_
      simp only [Option.isNone_some, Bool.or_false, Bool.false_eq_true, if_false]
      exact ⟨K4, β4, ⟨cc, rfl, hvc.mono hK hβ⟩, i4, e4⟩
    · cases h

theorem cTarget_ok {P : Program} {call : Call} {clo : Opd} (h : cTarget call = some clo) {K : Kn} {β : Bi} {nt : Nat} {e : Env} {a : Act} (hE : ER K β nt e a) :
    ∃ x, VR K β (evO e clo) (a.eval x) ∧ ∀ fv cs ds, a.eval x = .func fv cs ds → ∀ (ty : TypeId) (w : World), (resolve a.eval call ty).run P w = .ok { target := .fn fv ds, args := cs } w := by
  obtain ⟨callee, args, ats⟩ := call
  unfold cTarget at h
  split at h
  · rename_i f hc ha
    cases h
    simp only at hc ha
    have : args = #[] := Array.ext' (by simpa using ha)
    subst this; subst hc
    refine ⟨.func f, .fn rfl (fun i v h => by simp at h) rfl (fun i v h => by simp at h), fun fv cs ds hv ty w => ?_⟩
    simp [Act.eval] at hv
    obtain ⟨rfl, rfl, rfl⟩ := hv
    simp [resolve, Act.eval, Deferred.ofValue]
  · rename_i x hne hc ha
    simp only at hc ha
    have : args = #[] := Array.ext' (by simpa using ha)
    subst this; subst hc
    refine ⟨x, hE.opd h, fun fv cs ds hv ty w => ?_⟩
    simp [resolve, hv, Deferred.ofValue]
  · cases h

theorem callR_fn {p : AP} {ex : ExecT} {d : V} {pv : Option V} {H : List Ob} {y : Bool × List Ob} (h : callR p ex d pv H = some y) : ∃ g l m, d = .fn (.func g) l m := by
  unfold callR at h
  split at h
  · exact ⟨_, _, _, rfl⟩
  · cases h
theorem deferF_fn {p : AP} {ex : ExecT} {af : AFun} {d : V} {y : Option (X × Env × List Ob)} {z : CR × List Ob} (h : deferF p ex af d y = some z) : ∃ g l m, d = .fn (.func g) l m := by
  unfold deferF at h
  split at h
  · split at h
    · exact callR_fn ‹_›
    · cases h
  · split at h
    · exact callR_fn ‹_›
    · cases h
  · split at h
    · exact callR_fn ‹_›
    · exact callR_fn ‹_›
    · cases h
  · cases h

theorem runFn_sound {P : Program} {p : AP} (hp : APOk P p) {ex : ExecT} (hex : ExecOk P p ex) {f : FuncId} {af : AFun} (haf : p.fn f = some af) {args : List V} {H : List Ob} {r : CR} {H' : List Ob}
    (h : runFn p ex af args H = some (r, H')) {K : Kn} {β : Bi} {w : World} {cargs : Array Value} (hL : K.lp = lpOf P p) (hI : Inv K β H w) (ha : LR K β args cargs.toList) :
    (callFunc f cargs).run P w = .ok (.enter f cargs) w ∧ Calls P f cargs w (CallPost K β H w r H') := by
  obtain ⟨fn, c, hf, hcode⟩ := cFun_ok (hp.fn f af haf)
  obtain ⟨rk1, rk2⟩ := hp.rng f af haf
  have hnt : af.nt = fn.ntmps := hf.nt
  have hfr : mapOpt (cRes P) fn.results.toList = some af.results := hf.res
  refine ⟨call_enter hf cargs w, (callsIn_wide (n := 0)).1 (callsIn_of_wp_marks (F := Fr none) hf.get hf.body trivial ?_)⟩
  have hE := enter_ER ha hnt
  unfold runFn at h
  split at h
  · cases h
  rename_i hrc
  split at h
  · rename_i hdf
    obtain ⟨hc, hs⟩ : cCode P c = some af.erase.code ∧ dstsOk af.erase.nt af.erase.code = true := by
      cases hcode with
      | plain hd hr hc hs => exact ⟨hc, hs⟩
      | dfr pre id ops call ty rest apre reg clo arest hsp h1 h2 h3 h4 s1 s2 s3 hd hr => simp [AFun.erase, hdf] at hd
      | rcv t b hsp hc hs ht hd hr => simp [AFun.erase, hrc] at hr
    cases hx : ex af.code (env0 args) H with
    | none => rw [hx] at h; cases h
    | some y =>
      obtain ⟨x, e', H2⟩ := y
      rw [hx] at h
      exact hex.code c af.code hc rk1 af.nt hs _ H x e' H2 hx K β _ w hL hI hE _ (fun ex a' w' hp => finish_sound hfr h hp) none 0 (fun _ => rfl)
  · rename_i pre l clo rest hdf
    obtain ⟨rk3, rk4⟩ := rk2 _ hdf
    cases hcode with
    | plain hd hr hc hs => simp [AFun.erase, hdf] at hd
    | rcv t b hsp hc hs ht hd hr => simp [AFun.erase, hrc] at hr
    | dfr pre' id ops call ty rest' apre reg clo' arest hsp h1 h2 h3 h4 s1 s2 s3 hd hr =>
      simp only [AFun.erase, hdf, Option.map_some, Option.some.injEq, Prod.mk.injEq] at hd
      obtain ⟨rfl, rfl, rfl, rfl⟩ := hd
      obtain ⟨⟨o, ho1, ho2, ho3, ho4⟩, hwp⟩ := splitD_ok hsp
      refine hwp ?_
      cases hxl : runL ex pre (env0 args) H with
      | none => rw [hxl] at h; cases h
      | some y =>
        obtain ⟨x0, e0, H0⟩ := y
        rw [hxl] at h
        refine runL_sound (nt := af.nt) hex pre' pre h1 rk3 (fun c hc => List.all_eq_true.1 s1 _ (List.mem_map_of_mem hc)) _ H hxl K β _ w hL hI hE ?_
        intro ex0 a0 w0 hp0
        have other : (∀ e H, (x0, e, H) ≠ (X.normal, e0, H0)) → finishF af (some (x0, e0, H0)) = some (r, H') → Exit.then ((Code.region id ops false).wpIn (Fr none) 0 P (Exit.then (rest'.wpIn (Fr none) 0 P (bodyPostM (Fr none) 0 P fn (CallPost K β H w r H'))) (bodyPostM (Fr none) 0 P fn (CallPost K β H w r H'))))
            (bodyPostM (Fr none) 0 P fn (CallPost K β H w r H')) ex0 a0 w0 := by
          intro hne hfin
          have := finish_sound (F := Fr none) (n := 0) hfr hfin hp0
          cases ex0 with
          | normal =>
            obtain ⟨K1, β1, q1, _⟩ := hp0
            cases x0 <;> try exact q1.elim
            · exact absurd rfl (hne e0 H0)
            · cases hfin
          | _ => exact this
        cases x0 with
        | normal =>
          dsimp only at h
          obtain ⟨K0, β0, q1, q2, q3, q4, q5⟩ := hp0
          cases ex0 <;> try exact q1.elim
          show (Code.region id ops false).wpIn (Fr none) 0 P _ a0 w0
          refine wpIn_region ?_
          obtain ⟨lm, hlm, rfl⟩ := Option.map_eq_some_iff.1 h2
          obtain ⟨hlen, hget⟩ := mapOpt_get hlm
          have hsz : ops.size = lm.length + 1 := by
            have hb : ops.size ≠ 0 := by
              intro h0
              have : ops = #[] := Array.eq_empty_of_size_eq_zero h0
              subst this; simp at ho1
            rw [Array.length_toList, Array.size_pop] at hlen
            omega
          have hrg : List.range ops.size = List.range' 0 (lm.map AO.bare).length ++ [lm.length] := by
            rw [hsz, List.range_succ, List.length_map, List.range_eq_range']
          rw [hrg]
          cases hxr : ex (.region (lm.map AO.bare) false) e0 H0 with
          | none => rw [hxr] at h; cases h
          | some y =>
            obtain ⟨x1, e1, H1⟩ := y
            rw [hxr] at h
            refine hex.reg ops (lm.map AO.bare) (fun j ao hj => ?_) af.nt (fun ao hao t ht => ?_) e0 H0 x1 e1 H1 hxr K0 β0 a0 w0 (q4.k.2.2.trans hL) q3 q2 _ none 0 [lm.length] ?_
            · rw [List.getElem?_map] at hj
              obtain ⟨ao', hj', rfl⟩ := Option.map_eq_some_iff.1 hj
              obtain ⟨o', ho', hc⟩ := hget j ao' hj'
              refine ⟨o', ?_, made_bare hc⟩
              have hjl : j < ops.pop.size := by
                have := (List.getElem?_eq_some_iff.1 ho').1
                simpa using this
              rw [Array.getElem?_toList, Array.getElem?_pop] at ho'
              split at ho'
              · exact ho'
              · cases ho'
            · have := List.all_eq_true.1 (by simpa only [dstsOk] using s2 : (lm.map AO.bare).all _ = true) ao hao
              rw [ht] at this
              have h' : t < af.erase.nt := by simpa using this
              exact h'
            · intro ex1 a1 w1 hp1
              have hp1' : PostM true K β H w af.nt x1 e1 H1 [] ex1 a1 w1 := (hp1.marked (b := true)).after q4 q5 (by simp)
              cases x1 with
              | normal =>
                dsimp only at h
                obtain ⟨g, gl, gm, hclo⟩ := deferF_fn h
                obtain ⟨K1, β1, p1, p2, p3, p4, p5⟩ := hp1
                cases ex1 <;> try exact p1.elim
                show wpOpsIn (Fr none) 0 P ops _ [lm.length] a1 w1
                rw [wpOpsIn_cons]
                have ho : ops[lm.length]? = some o := by
                  rw [Array.back?_eq_getElem?] at ho1
                  rw [show lm.length = ops.size - 1 from by omega]; exact ho1
                unfold wpOpIn
                simp only [ho]
                rw [if_pos (by simp [Region.wanted, ho3])]
                refine ⟨fun _ _ => trivial, ?_⟩
                obtain ⟨xo, hv, hres⟩ := cTarget_ok (P := P) h3 p2
                rw [hclo] at hv
                generalize hcv : a1.eval xo = cv at hv
                have hv' := hv
                cases hv with
                | fn v1 v2 v3 v4 =>
                  rename_i cs ds
                  have hrun : (o.semAt none a1.eval).run P w1 = .ok (.defer { target := .fn (.func g) ds, args := cs }) w1 := by
                    rw [Oper.semAt_none]
                    simp [execOp, ho2, hres _ _ _ hcv]
                  rw [show (Fr none).round = none from rfl, hrun, Oper.uponIn_defer, ho4]
                  show rest'.wpIn (Fr none) 0 P _ ({ a1 with defers := { target := .fn (.func g) ds, args := cs } :: a1.defers } : Act) w1
                  cases hxs : ex rest e1 H1 with
                  | none => rw [hxs] at h; simp [deferF] at h
                  | some y =>
                    obtain ⟨x2, e2, H2⟩ := y
                    rw [hxs] at h
                    have m1 : Marked true K1 β1 H1 w1 w.heap.size a1.defers [] := by rw [p5]; exact q5.ev p4
                    refine hex.code rest' rest h4 rk4 af.nt s3 e1 H1 x2 e2 H2 hxs K1 β1 ({ a1 with defers := { target := .fn (.func g) ds, args := cs } :: a1.defers } : Act) w1 (p4.k.2.2.trans (q4.k.2.2.trans hL)) p3 ⟨p2.size, p2.val⟩ _ ?_ none 0 (fun _ => rfl)
                    intro ex2 a2 w2 hp2
                    exact deferF_sound hp hex hfr h hL (q4.trans p4) m1 (by rw [hclo]; exact hv') hp2
              | _ =>
                dsimp only at h
                have := finish_sound (F := Fr none) (n := 0) hfr h hp1'
                cases ex1 with
                | normal => obtain ⟨K1, β1, p1, _⟩ := hp1; first | exact p1.elim | cases h
                | _ => exact this
        | _ => exact other (by simp) h
end Fz
namespace Fz
open Go

theorem setPs_ER {K : Kn} {β : Bi} : ∀ (ps : List Nat) (vs : List V) (cs : List Value) (e : Env) (tm : Array Value), (∀ t, VR K β (e t) (tm.getD t Go.undef)) → LR K β vs cs → ps.length = vs.length → (∀ t ∈ ps, t < tm.size) →
    ((ps.zip cs).foldl (fun tmps (p : Nat × Value) => tmps.setIfInBounds p.1 p.2) tm).size = tm.size ∧ ∀ t, VR K β (setPs e ps vs t) (((ps.zip cs).foldl (fun tmps (p : Nat × Value) => tmps.setIfInBounds p.1 p.2) tm).getD t Go.undef)
  | [], vs, cs, e, tm, he, _, _, _ => by exact ⟨rfl, he⟩
  | s :: ps, [], cs, e, tm, _, _, hl, _ => by simp at hl
  | s :: ps, v :: vs, cs, e, tm, he, ha, hl, hlt => by
    obtain ⟨c, r, rfl, h1, h2⟩ := ha.head
    have hs : s < tm.size := hlt s (by simp)
    obtain ⟨g1, g2⟩ := setPs_ER ps vs r (upd e s v) (tm.setIfInBounds s c) (fun t => by
      by_cases et : t = s
      · subst et; simpa [upd, hs] using h1
      · have := he t
        simpa [upd, et, Array.getElem?_setIfInBounds, Ne.symm et] using this) h2 (by simpa using hl) (fun t ht => by simpa using hlt t (by simp [ht]))
    refine ⟨?_, fun t => ?_⟩
    · simp only [List.zip_cons_cons, List.foldl_cons]; rw [g1]; simp
    · simp only [List.zip_cons_cons, List.foldl_cons, setPs]; exact g2 t

theorem envT_VR {K : Kn} {β : Bi} {tm : Array Value} : ∀ (ts : List Nat) (l : List V), (∀ (i t : Nat) (v : V), ts[i]? = some t → l[i]? = some v → VR K β v (tm.getD t Go.undef)) → ∀ t, VR K β (envT ts l t) (tm.getD t Go.undef)
  | [], l, _, t => by simp only [envT]; exact .any _
  | s :: ts, [], _, t => by simp only [envT]; exact .any _
  | s :: ts, v :: l, h, t => by
    simp only [envT, upd]
    split
    · rename_i hs; subst hs; exact h 0 _ v rfl rfl
    · exact envT_VR ts l (fun i t' v' ht hv => h (i + 1) t' v' (by simpa using ht) (by simpa using hv)) t

/-- A loop's record, written anew. -/
theorem loop_put {P : Program} {p : AP} {K : Kn} {β : Bi} {H : List Ob} {w : World} (hL : K.lp = lpOf P p) (hI : Inv K β H w) {id k : Nat} {ts : List Nat} {l : List V} {st : LSt} (ho : H[id]? = some (.loop k ts l st)) {b : Nat} (hb : β id = some b) :
    ∃ r, w.heap[b]? = some (.loop r) ∧ stR st r ∧ K.fixed b = none ∧ ∀ (st' : LSt) (s : LoopState) (j : Option Code), stR st' { r with state := s, pending := j } →
      Inv K β (H.set id (.loop k ts l st')) (w.putObj b (.loop { r with state := s, pending := j })) ∧ Ev K β H w K β (H.set id (.loop k ts l st')) (w.putObj b (.loop { r with state := s, pending := j })) := by
  obtain ⟨b', r, h1, h2, h4, h5, h6, h7, h8⟩ := hI.obj id _ ho
  rw [hb] at h1; cases h1
  refine ⟨r, h4, h8, h2, fun st' s j hs => ?_⟩
  have hlt := heap_lt h4
  refine hI.putO ho rfl hb h2 (size_none hI h4 (by simp)) (fun x => putObj_get hlt x) (by simp) rfl rfl rfl ⟨b, _, hb, h2, World.putObj_heap_same hlt, ?_, h6, h7, hs⟩
  rw [hL] at h5 ⊢
  exact h5

theorem round_sound {P : Program} {p : AP} (hp : APOk P p) {ex : ExecT} (hex : ExecOk P p ex) {args : List V} {H : List Ob} {r : CR} {H' : List Ob} (h : roundW p ex args H = some (r, H')) {K : Kn} {β : Bi} {w : World} {cargs : Array Value}
    (hL : K.lp = lpOf P p) (hI : Inv K β H w) (ha : LR K β args cargs.toList) : DoesOk P YF cargs w (CallPost K β H w r H') := by
  unfold roundW at h
  split at h
  case h_2 => cases h
  rename_i id rest
  split at h
  case h_2 => cases h
  rename_i k ts l hob
  split at h
  case h_2 => cases h
  rename_i b hb
  split at h
  case isFalse => cases h
  rename_i hlen
  split at h
  case h_2 => cases h
  rename_i e1 H1 hx1
  split at h
  case h_2 => cases h
  rename_i k1 ts1 l1 hob1
  split at h
  case h_2 => cases h
  rename_i x e2 H2 hx2
  split at h
  case h_2 => cases h
  rename_i k2 ts2 l2 hob2
  obtain ⟨c, cr, hcr, hc, har⟩ := ha.head
  cases hc with
  | yld hβ =>
    rename_i bb
    obtain ⟨b', rr, g1, g2, g3, g4, g5, g6, g7⟩ := hI.obj id _ hob
    rw [hβ] at g1; cases g1
    have hlp : lpOf P p k rr := by rw [← hL]; exact g4
    obtain ⟨ab, nt, q1, q2, q3, q4, q5, q6, q7, q8⟩ := hlp
    rw [hb] at q1; cases q1
    obtain ⟨nr1, nr2⟩ := hp.bods k b hb
    have hs : cr.toArray.size = rr.params.size := by
      have h1 := har.1
      rw [← Array.length_toList (xs := rr.params), q4, ← hlen, h1]; simp
    have hrun : (callG YF cargs).run P w = .ok (.round bb rr.fn ((rr.params.zip cr.toArray).foldl (fun tmps (t, a) => tmps.setIfInBounds t a) rr.tmps) rr.assign rr.body) w := by
      simp only [callG, if_true, hcr]
      exact run_yield g3 hs
    refine .inr (.inr ⟨_, _, _, _, _, hrun, roundIn_of_wpIn (F := Fence.wide) trivial ?_⟩)
    have htm : (rr.params.zip cr.toArray).foldl (fun tmps (t, a) => tmps.setIfInBounds t a) rr.tmps = (b.ps.zip cr).foldl (fun tmps (p : Nat × Value) => tmps.setIfInBounds p.1 p.2) rr.tmps := by
      rw [← q4, ← Array.foldl_toList, Array.toList_zip]
    rw [htm]
    obtain ⟨z1, z2⟩ := setPs_ER b.ps rest cr (envT ts l) rr.tmps (envT_VR ts l g6) har hlen.symm (fun t ht => Nat.lt_of_lt_of_le (q8 t ht) q7)
    refine hex.code rr.assign b.assign q2 (rOk_of _ nr1) nt q5 _ H _ e1 H1 hx1 K β _ w hL hI ⟨by rw [z1]; exact q7, z2⟩ _ ?_ (some bb) 0 (fun h => by rw [nr1] at h; cases h)
    rintro ex1 a1 w1 ⟨K1, β1, p1, p2, p3, p4, -⟩
    cases ex1 <;> try exact p1.elim
    have hL1 : K1.lp = lpOf P p := p4.k.2.2.trans hL
    have hβ1 : β1 id = some bb := p4.b _ _ hβ
    obtain ⟨r1, m1, m2, m3, m4⟩ := loop_put hL1 p3 hob1 hβ1
    refine ⟨_, run_beginRound m1 m2.1, ?_⟩
    obtain ⟨i2, e2'⟩ := m4 .busy .busy r1.pending rfl
    refine hex.code rr.body b.body q3 (rOk_of _ nr2) nt q6 e1 _ x e2 H2 hx2 K1 β1 a1 _ hL1 i2 p2 _ ?_ (some bb) 0 (fun h => by rw [nr2] at h; cases h)
    rintro ex2 a2 w2 ⟨K2, β2, t1, t2, t3, t4, -⟩
    have hL2 : K2.lp = lpOf P p := t4.k.2.2.trans hL1
    obtain ⟨r2, n1, n2, n3, n4⟩ := loop_put hL2 t3 hob2 (t4.b _ _ hβ1)
    have fin : ∀ (jump : Option Code) (st : LSt), stR st { r2 with state := if jump.isNone then .ready else .done, pending := jump } →
        ∃ v w', (Instr.endRound bb jump).run P w2 = .ok v w' ∧ CallPost K β H w (.ret (.bool jump.isNone)) (H2.set id (.loop k2 ts2 l2 st)) (.returned v) w' := by
      intro jump st hst
      obtain ⟨i3, e3⟩ := n4 st _ jump hst
      exact ⟨_, _, run_endRound jump n1, K2, β2, .bool _, i3, ((p4.trans e2').trans t4).trans e3⟩
    cases x with
    | normal =>
      cases h
      cases ex2 <;> try exact t1.elim
      exact fin none .ready ⟨rfl, rfl⟩
    | ret =>
      cases h
      cases ex2 <;> try exact t1.elim
      exact fin (some .ret) (.done .ret) ⟨rfl, rfl⟩
    | exit i =>
      cases h
      cases ex2 <;> try exact t1.elim
      rename_i j
      have hij : i = j := t1
      subst hij
      exact fin (some (.exit i)) (.done (.exit i)) ⟨rfl, rfl⟩
    | panic v => cases h
    | mayRet => cases h

theorem callW_sound {P : Program} {p : AP} (hp : APOk P p) {ex : ExecT} (hex : ExecOk P p ex) : CallOk P (lpOf P p) (callW p ex) := by
  intro f args H r H' h K β w cargs hL hI ha
  unfold callW at h
  split at h
  · rename_i hf; subst hf
    exact round_sound hp hex h hL hI ha
  rename_i hf
  split at h
  · rename_i g hg
    obtain ⟨v, hv, h⟩ := Option.map_eq_some_iff.1 h
    cases h
    exact hp.prim f g hg args v hv K β H w cargs hI ha
  · split at h
    · cases h
    · rename_i af haf
      obtain ⟨h1, h2⟩ := runFn_sound hp hex haf h hL hI ha
      exact .inr (.inl ⟨f, cargs, by rw [callG_fn hf]; exact h1, h2⟩)

/-- A function that is entered. -/
def Enters (P : Program) : DoesT := fun f cargs w R => (callFunc f cargs).run P w = .ok (.enter f cargs) w ∧ Calls P f cargs w R
theorem callE_sound {P : Program} {p : AP} (hp : APOk P p) {ex : ExecT} (hex : ExecOk P p ex) : CallOkG (lpOf P p) (Enters P) (callE p ex) := by
  intro f args H r H' h K β w cargs hL hI ha
  unfold callE at h
  split at h
  · cases h
  split at h
  · cases h
  · split at h
    · cases h
    · rename_i af haf
      exact runFn_sound hp hex haf h hL hI ha

theorem range_sound {P : Program} {p : AP} (hp : APOk P p) {ex : ExecT} (hex : ExecOk P p ex) {g : Operand} {ps : Array Tmp} {asg bo : Code} {f : Opd} {ab : ABody} {k : Nat} (hg : cOpd g = some f) (hb : p.body k = some ab) (ha1 : cCode P asg = some (erase ab.assign)) (ha2 : cCode P bo = some (erase ab.body))
    (hps : ps.toList = ab.ps) {nt : Nat} (hd1 : dstsOk nt (erase ab.assign) = true) (hd2 : dstsOk nt (erase ab.body) = true) (hd3 : ∀ t ∈ ab.ps, t < nt) {e : Env} {H : List Ob} {gf : FuncId} {first cap : List V} (hf : evO e f = .fn (.func gf) first cap)
    {x : X} {e' : Env} {H' : List Ob} (h : endRange H.length e (doCall (callE p ex) (fun _ => true) gf (first ++ [.yld H.length] ++ cap) (H ++ [.loop k ab.keep (ab.keep.map e) .ready])) = some (x, e', H'))
    {K : Kn} {β : Bi} {a : Act} {w : World} (hL : K.lp = lpOf P p) (hI : Inv K β H w) (hE : ER K β nt e a) {Q : Exit → Act → World → Prop} (hQ : ∀ ex a' w', PostM true K β H w nt x e' H' a.defers ex a' w' → Q ex a' w') (bud : Nat) :
    (Code.rangeFunc g ps asg bo).wpIn (Fr none) bud P Q a w := by
  refine wpIn_rangeFunc fun fn _ => ?_
  have hv := hE.opd hg
  rw [hf] at hv
  generalize hcg : a.eval g = cg at hv
  cases hv with
  | fn v1 v2 v3 v4 =>
    rename_i cs ds
    let rec0 : Loop := { state := .ready, pending := none, fn, tmps := a.tmps, params := ps, assign := asg, body := bo, defers := w.heap.size }
    let wa := w.alloc (.deferred (some []))
    let w1 := wa.alloc (.loop rec0)
    have hwa : wa.heap.size = w.heap.size + 1 := World.size_alloc ..
    obtain ⟨i1, e1⟩ := hI.junk (w' := wa) (x := .deferred (some [])) rfl rfl rfl rfl
    have hlp : K.lp k rec0 := by rw [hL]; exact ⟨ab, nt, hb, ha1, ha2, hps, hd1, hd2, hE.size, hd3⟩
    obtain ⟨b2, hβl, i2, e2⟩ := i1.newO (w' := w1) (ob := .loop k ab.keep (ab.keep.map e) .ready) (x := .loop rec0) rfl rfl rfl rfl
      ⟨wa.heap.size, rec0, by simp [setB], i1.fresh, World.alloc_heap_new .., hlp, by simp, fun i t v ht hv => by
        rw [List.getElem?_map, ht] at hv
        cases hv
        exact (hE.val t).mono (Kn.le_refl _) (setB_le i1.freshB), rfl, rfl⟩
    cases hdc : doCall (callE p ex) (fun _ => true) gf (first ++ [.yld H.length] ++ cap) (H ++ [.loop k ab.keep (ab.keep.map e) .ready]) with
    | none => rw [hdc] at h; cases h
    | some y =>
      obtain ⟨r, H2⟩ := y
      rw [hdc] at h
      have hargs : LR K (setB β H.length wa.heap.size) (first ++ [.yld H.length] ++ cap) (cs ++ #[Value.func (.yield wa.heap.size) #[] #[]] ++ ds).toList := by
        have l1 := (LR.of_arr v1 v2).mono (K' := K) (β' := setB β H.length wa.heap.size) (Kn.le_refl _) b2
        have l3 := (LR.of_arr v3 v4).mono (K' := K) (β' := setB β H.length wa.heap.size) (Kn.le_refl _) b2
        have := (l1.append (LR.single (.yld hβl))).append l3
        simpa using this
      obtain ⟨hen, hcalls⟩ := doCall_soundG (D := Enters P) (fun _ _ _ _ _ h hr => ⟨h.1, h.2.mono hr⟩) (callE_sound hp hex) hdc hL i2 hargs
      have hen1 : (Instr.enterLoop fn a.tmps ps asg bo (Fr none).round).run P w = .ok (wa.heap.size, [mark w.heap.size]) w1 := by
        rw [hwa]; exact run_enterLoop_outer ..
      refine ⟨wa.heap.size, [mark w.heap.size], w1, { target := .fn (.func gf) ds, args := cs ++ #[Value.func (.yield wa.heap.size) #[] #[]] }, w1, gf, _, w1, hen1, ?_, fun _ _ => trivial, hen, fun h => Bool.noConfusion h, callsIn_fr (hcalls.mono ?_)⟩
      · have hcc : a.eval (.const (.func (.yield wa.heap.size) #[] #[])) = .func (.yield wa.heap.size) #[] #[] := rfl
        simp [resolve, rangeCall, hcg, Deferred.ofValue, hcc]
      · rintro en w3 ⟨K3, β3, c3, i3, e3⟩
        unfold endRange at h
        split at h
        case h_2 => cases h
        rename_i v H3 heq
        cases heq
        cases en with
        | panicked chain => exact c3.elim
        | outgrown => exact c3.elim
        | returned cv =>
          have hβ3 : β3 H.length = some wa.heap.size := e3.b _ _ hβl
          have e13 := (e1.trans e2).trans e3
          -- whatever state: the end
          have fin : ∀ (k' : Nat) (ts : List Nat) (l : List V) (st : LSt), H2[H.length]? = some (.loop k' ts l st) → (∀ r, stR st r → r.state ≠ .busy) →
              ∃ r w4, w3.heap[wa.heap.size]? = some (.loop r) ∧ stR st r ∧ (Instr.endLoop wa.heap.size).run P w3 = .ok r.pending w4 ∧
                ∃ K4 β4, ER K4 β4 nt e { a with defers := [mark w.heap.size] ++ a.defers } ∧ Inv K4 β4 (H2.set H.length .dead) w4 ∧ Ev K β H w K4 β4 (H2.set H.length .dead) w4 ∧ Marked true K4 β4 (H2.set H.length .dead) w4 w.heap.size ([mark w.heap.size] ++ a.defers) a.defers := by
            intro k' ts l st ho hnb
            obtain ⟨b', r, g1, g2, g3, g4, g5, g6, g7⟩ := i3.obj _ _ ho
            rw [hβ3] at g1; cases g1
            have hlt := heap_lt g3
            obtain ⟨ik, ek⟩ := i3.kill H.length
            have hnl : ¬ liveB (H2.set H.length .dead) β3 wa.heap.size := by
              rintro ⟨i, ⟨o, ho', hl'⟩, hb'⟩
              by_cases ei : H.length = i
              · subst ei; rw [set_self ho] at ho'; cases ho'; cases hl'
              · rw [set_get ei] at ho'
                exact ei (i3.inj H.length i _ ⟨_, ho, rfl⟩ ⟨o, ho', hl'⟩ hβ3 hb')
            obtain ⟨i4, e4⟩ := ik.junkPut (w' := w3.putObj wa.heap.size (.loop { r with state := .exhausted })) hnl g2 (size_none i3 g3 (by simp)) (fun y => putObj_get hlt y) (by simp) rfl rfl rfl
            have e5 := e4 (e13.trans ek) (.inr (by omega))
            refine ⟨r, _, g3, g7, run_endLoop g3 (hnb r g7), K3, β3, ⟨hE.size, fun t => (hE.val t).mono e5.k e5.b⟩, i4, e5, [w.heap.size], by simp, rfl, by simp, ?_⟩
            intro D hD
            have hD' : D = w.heap.size := by simpa using hD
            subst hD'
            refine ⟨Nat.le_refl _, ?_⟩
            have m0 : Mk K (setB β H.length wa.heap.size) (H ++ [.loop k ab.keep (ab.keep.map e) .ready]) w1 w.heap.size := by
              refine ⟨?_, ?_, hI.fresh⟩
              · show (wa.heap.push (.loop rec0))[w.heap.size]? = _
                rw [push_get (by omega)]
                exact World.alloc_heap_new ..
              · intro hl
                rcases e2.live _ hl with hl | hl
                · obtain ⟨i, ⟨o, ho', hl'⟩, hb'⟩ := hl
                  obtain ⟨b'', z1, z2, _⟩ := (hI.obj i o ho').lt hl'
                  rw [hb'] at z1; cases z1; omega
                · omega
            have m3 := (m0.ev e3).ev ek
            exact ⟨by rw [World.putObj_heap_other (by omega)]; exact m3.there, m3.dead, m3.fix⟩
          split at h
          · rename_i ho
            cases h
            obtain ⟨r, w4, g3, g7, hend, K4, β4, f1, f2, f3, f4⟩ := fin _ _ _ _ ho (fun r hr => by rw [hr.1]; simp)
            refine ⟨_, w4, hend, ?_⟩
            rw [g7.2]
            exact hQ .normal _ w4 ⟨K4, β4, trivial, f1, f2, f3, f4⟩
          · rename_i i ho
            cases h
            obtain ⟨r, w4, g3, g7, hend, K4, β4, f1, f2, f3, f4⟩ := fin _ _ _ _ ho (fun r hr => by rw [hr.1]; simp)
            refine ⟨_, w4, hend, ?_⟩
            rw [g7.2]
            exact wpIn_exit (hQ (.exit i) _ w4 ⟨K4, β4, rfl, f1, f2, f3, f4⟩)
          · rename_i ho
            cases h
            obtain ⟨r, w4, g3, g7, hend, K4, β4, f1, f2, f3, f4⟩ := fin _ _ _ _ ho (fun r hr => by rw [hr.1]; simp)
            refine ⟨_, w4, hend, ?_⟩
            rw [g7.2]
            exact wpIn_ret (hQ .ret _ w4 ⟨K4, β4, trivial, f1, f2, f3, f4⟩)
          · cases h

def nofix : ACode → Bool
  | .fix _ _ => false
  | _ => true
theorem er_skip {ac : ACode} (h : erase ac = .skip) (hn : nofix ac = true) : ac = .skip := by
  cases ac <;> simp [erase, nofix] at h hn ⊢
theorem er_ret {ac : ACode} (h : erase ac = .ret) (hn : nofix ac = true) : ac = .ret := by
  cases ac <;> simp [erase, nofix] at h hn ⊢
theorem er_exit {ac : ACode} {i : Nat} (h : erase ac = .exit i) (hn : nofix ac = true) : ac = .exit i := by
  cases ac <;> simp [erase, nofix] at h hn ⊢
  exact h
theorem er_region {ac : ACode} {l : List AO} {d : Bool} (h : erase ac = .region l d) (hn : nofix ac = true) : ac = .region l d := by
  cases ac <;> simp [erase, nofix] at h hn ⊢
  exact h
theorem er_seq {ac x y : ACode} (h : erase ac = .seq x y) (hn : nofix ac = true) : ∃ a b, ac = .seq a b ∧ erase a = x ∧ erase b = y := by
  cases ac <;> simp only [erase, nofix, reduceCtorEq] at h hn
  cases h; exact ⟨_, _, rfl, rfl, rfl⟩
theorem er_cond {ac x y : ACode} {c : Opd} (h : erase ac = .cond c x y) (hn : nofix ac = true) : ∃ a b, ac = .cond c a b ∧ erase a = x ∧ erase b = y := by
  cases ac <;> simp only [erase, nofix, reduceCtorEq] at h hn
  cases h; exact ⟨_, _, rfl, rfl, rfl⟩
theorem er_block {ac x : ACode} {i : Nat} (h : erase ac = .block i x) (hn : nofix ac = true) : ∃ a, ac = .block i a ∧ erase a = x := by
  cases ac <;> simp only [erase, nofix, reduceCtorEq] at h hn
  cases h; exact ⟨_, rfl, rfl⟩
theorem er_loop {ac x : ACode} (h : erase ac = .loop x) (hn : nofix ac = true) : ∃ a, ac = .loop a ∧ erase a = x := by
  cases ac <;> simp [erase, nofix] at h hn ⊢
  exact h

theorem er_range {ac x y : ACode} {f : Opd} {ps : List Nat} (h : erase ac = .range 0 f ps x y) (hn : nofix ac = true) : ∃ k a b, ac = .range k f ps a b ∧ erase a = x ∧ erase b = y := by
  cases ac <;> simp only [erase, nofix, reduceCtorEq] at h hn
  cases h; exact ⟨_, _, _, rfl, rfl, rfl⟩

theorem obEq_eq {a b : Ob} (h : obEq a b = true) : a = b := by
  cases a <;> cases b <;> simp only [obEq, Bool.false_eq_true, Bool.and_eq_true] at h
  · rw [veqL_eq _ _ h]
  · rw [veqL_eq _ _ h]
  · rfl
  · rw [veqL_eq _ _ h.1, veqL_eq _ _ h.2]
  · rename_i s i t j
    have h1 : s.data = t.data := by simpa using h.1
    have h2 : i = j := by simpa using h.2
    cases s; cases t; simp_all
theorem obsEq_eq : ∀ {x y : List Ob}, obsEq x y = true → x = y
  | [], [], _ => rfl
  | a :: x, b :: y, h => by
    simp only [obsEq, Bool.and_eq_true] at h
    rw [obEq_eq h.1, obsEq_eq h.2]
  | [], _ :: _, h => by cases h
  | _ :: _, [], h => by cases h
theorem xEq_eq {x y : X} (h : xEq x y = true) : x = y := by
  cases x <;> cases y <;> simp [xEq] at h <;> simp_all
theorem ER_join1 {e1 e2 : Env} {K : Kn} {β : Bi} {nt : Nat} {a : Act} (hE : ER K β nt e1 a) : ER K β nt (joinE e1 e2) a := ⟨hE.size, fun t => by
  unfold joinE
  split
  · exact hE.val t
  · exact .any _⟩
theorem ER_join2 {e1 e2 : Env} {K : Kn} {β : Bi} {nt : Nat} {a : Act} (hE : ER K β nt e2 a) : ER K β nt (joinE e1 e2) a := ⟨hE.size, fun t => by
  unfold joinE
  split
  · rename_i hv; rw [veq_eq _ _ hv]; exact hE.val t
  · exact .any _⟩
theorem joinR_ok {r1 r2 : Option (X × Env × List Ob)} {x : X} {e' : Env} {H' : List Ob} (h : joinR r1 r2 = some (x, e', H')) :
    ∃ x1 x2 e1 e2, r1 = some (x1, e1, H') ∧ r2 = some (x2, e2, H') ∧ (x1 = x ∧ x2 = x ∨ x = .mayRet ∧ (x1 = .ret ∧ x2 = .normal ∨ x1 = .normal ∧ x2 = .ret)) ∧ (∀ {K : Kn} {β : Bi} {nt : Nat} {a : Act}, ER K β nt e1 a → ER K β nt e' a) ∧ ∀ {K : Kn} {β : Bi} {nt : Nat} {a : Act}, ER K β nt e2 a → ER K β nt e' a := by
  unfold joinR at h
  split at h
  case h_2 => cases h
  rename_i x1 e1 H1 x2 e2 H2
  split at h
  case isFalse => cases h
  rename_i hc
  obtain rfl := obsEq_eq hc
  have f1 : ∀ {K : Kn} {β : Bi} {nt : Nat} {a : Act}, ER K β nt e1 a → ER K β nt (joinE e1 e2) a := fun hE => ⟨hE.size, fun t => by
    unfold joinE
    split
    · exact hE.val t
    · exact .any _⟩
  have f2 : ∀ {K : Kn} {β : Bi} {nt : Nat} {a : Act}, ER K β nt e2 a → ER K β nt (joinE e1 e2) a := fun hE => ⟨hE.size, fun t => by
    unfold joinE
    split
    · rename_i hv; rw [veq_eq _ _ hv]; exact hE.val t
    · exact .any _⟩
  split at h
  · rename_i hx
    cases h
    obtain rfl := xEq_eq hx
    exact ⟨_, _, e1, e2, rfl, rfl, .inl ⟨rfl, rfl⟩, f1, f2⟩
  · split at h <;> cases h
    rename_i hx
    simp only [Bool.or_eq_true, Bool.and_eq_true] at hx
    rcases hx with ⟨h1, h2⟩ | ⟨h1, h2⟩
    · obtain rfl := xEq_eq h1; obtain rfl := xEq_eq h2
      exact ⟨_, _, e1, e2, rfl, rfl, .inr ⟨rfl, .inl ⟨rfl, rfl⟩⟩, f1, f2⟩
    · obtain rfl := xEq_eq h1; obtain rfl := xEq_eq h2
      exact ⟨_, _, e1, e2, rfl, rfl, .inr ⟨rfl, .inr ⟨rfl, rfl⟩⟩, f1, f2⟩
theorem XR_may {K : Kn} {β : Bi} {x y : X} {ex : Exit} (hx : y = x ∨ x = .mayRet ∧ (y = .ret ∨ y = .normal)) (h : XR K β y ex) : XR K β x ex := by
  rcases hx with rfl | ⟨rfl, rfl | rfl⟩
  · exact h
  · cases ex <;> first | exact h.elim | trivial
  · cases ex <;> first | exact h.elim | trivial

theorem exec_sound {P : Program} {p : AP} (hp : APOk P p) : ∀ n, ExecOk P p (exec p n) ∧
    (∀ (c : Code) (b : ACode), cCode P c = some (erase b) → rOk p b → ∀ (nt : Nat), dstsOk nt (erase b) = true → ∀ (e : Env) (H : List Ob) (x : X) (e' : Env) (H' : List Ob), exec p n (.loop b) e H = some (x, e', H') →
      ∀ (K : Kn) (β : Bi) (a : Act) (w : World), K.lp = lpOf P p → Inv K β H w → ER K β nt e a → ∀ Q : Exit → Act → World → Prop, (∀ ex a' w', PostM (hasR b) K β H w nt x e' H' a.defers ex a' w' → Q ex a' w') → ∀ (ro : Option Nat) (bud : Nat), (hasR b = true → ro = none) → Code.roundsIn (Fr ro) bud P c Q n a w) := by
  intro n
  induction n with
  | zero => exact ⟨⟨fun c ac _ _ nt _ e H x e' H' h => by simp [exec] at h, fun ops l _ nt _ e H x e' H' h => by simp [exec] at h⟩, fun c b _ _ nt _ e H x e' H' h => by simp [exec] at h⟩
  | succ n ih =>
    obtain ⟨ihE, ihR⟩ := ih
    have hcall : CallOk P (lpOf P p) (callW p (exec p n)) := callW_sound hp ihE
    have rnd : ∀ (c : Code) (b : ACode), cCode P c = some (erase b) → rOk p b → ∀ (nt : Nat), dstsOk nt (erase b) = true → ∀ (e : Env) (H : List Ob) (x : X) (e' : Env) (H' : List Ob), exec p (n + 1) (.loop b) e H = some (x, e', H') →
        ∀ (K : Kn) (β : Bi) (a : Act) (w : World), K.lp = lpOf P p → Inv K β H w → ER K β nt e a → ∀ Q : Exit → Act → World → Prop, (∀ ex a' w', PostM (hasR b) K β H w nt x e' H' a.defers ex a' w' → Q ex a' w') → ∀ (ro : Option Nat) (bud : Nat), (hasR b = true → ro = none) → Code.roundsIn (Fr ro) bud P c Q (n + 1) a w := by
      intro c b hc hk nt hd e H x e' H' h K β a w hL hI hE Q hQ ro bud hro
      rw [roundsIn_succ]
      simp only [exec] at h
      split at h
      · rename_i e1 H1 hb
        refine ihE.code c b hc hk nt hd e H _ e1 H1 hb K β a w hL hI hE _ ?_ ro bud hro
        rintro ex a' w' ⟨K1, β1, q1, q2, q3, q4, q5⟩
        cases ex <;> try exact q1.elim
        exact ihR c b hc hk nt hd e1 H1 x e' H' h K1 β1 a' w' (q4.k.2.2.trans hL) q3 q2 Q (fun ex a'' w'' hp => hQ _ _ _ (hp.after q4 q5 (fun h => ⟨h, h⟩))) ro bud hro
      · cases h
      · rename_i hne hne2
        refine ihE.code c b hc hk nt hd e H x e' H' h K β a w hL hI hE _ ?_ ro bud hro
        intro ex a' w' hpost
        have hx : ex ≠ .normal := by
          rintro rfl
          obtain ⟨K1, β1, q1, _⟩ := hpost
          cases x <;> try exact q1.elim
          · exact hne _ _ h
          · exact hne2 _ _ h
        cases ex <;> first | exact absurd rfl hx | exact hQ _ _ _ hpost
    have hreg : ∀ (ops : Array Oper) (l : List AO), (∀ (j : Nat) (ao : AO), l[j]? = some ao → ∃ o, ops[j]? = some o ∧ Made P ops o ao) → ∀ (nt : Nat), (∀ ao ∈ l, ∀ t, ao.dst = some t → t < nt) →
        ∀ (e : Env) (H : List Ob) (x : X) (e' : Env) (H' : List Ob), exec p (n + 1) (.region l false) e H = some (x, e', H') →
        ∀ (K : Kn) (β : Bi) (a : Act) (w : World), K.lp = lpOf P p → Inv K β H w → ER K β nt e a → ∀ (Q : Exit → Act → World → Prop) (ro : Option Nat) (bud : Nat) (tl : List Nat),
        (∀ ex a' w', Post K β H w nt x e' H' a.defers ex a' w' → TlQ ro bud P ops Q tl ex a' w') → wpOpsIn (Fr ro) bud P ops Q (List.range' 0 l.length ++ tl) a w := by
      intro ops l hops nt hdst e H x e' H' h K β a w hL hI hE Q ro bud tl hQ
      simp only [exec] at h
      exact runOps_sound (ro := ro) (bud := bud) hcall l 0 (fun j ao hj => by rw [Nat.zero_add]; exact hops j ao hj) hdst e H (by simpa using h) K β a w hL hI hE tl hQ
    refine ⟨⟨?_, hreg⟩, rnd⟩
    suffices key : ∀ (c : Code) (ac : ACode), nofix ac = true → cCode P c = some (erase ac) → rOk p ac → ∀ (nt : Nat), dstsOk nt (erase ac) = true → ∀ (e : Env) (H : List Ob) (x : X) (e' : Env) (H' : List Ob), exec p (n + 1) ac e H = some (x, e', H') →
        ∀ (K : Kn) (β : Bi) (a : Act) (w : World), K.lp = lpOf P p → Inv K β H w → ER K β nt e a → ∀ Q : Exit → Act → World → Prop, (∀ ex a' w', PostM (hasR ac) K β H w nt x e' H' a.defers ex a' w' → Q ex a' w') → ∀ (ro : Option Nat) (bud : Nat), (hasR ac = true → ro = none) → c.wpIn (Fr ro) bud P Q a w by
      intro c ac hc hk nt hd e H x e' H' h K β a w hL hI hE Q hQ ro bud hro
      by_cases hn : nofix ac = true
      · exact key c ac hn hc hk nt hd e H x e' H' h K β a w hL hI hE Q hQ ro bud hro
      · cases ac with
        | fix t b =>
          cases t with
          | some t =>
            rw [exec] at h
            split at h
            · rename_i v H1 hf
              obtain ⟨K1, i1, e1, v1⟩ := freezeV_sound depthF (e t) H v H1 hf K _ hI (hE.val t)
              have hE1 : ER K1 β nt (upd e t v) a := by
                refine ⟨hE.size, fun s => ?_⟩
                unfold upd
                split
                · rename_i hs; subst hs; exact v1
                · exact (hE.val s).mono e1.k fun _ _ h => h
              exact ihE.code c b hc hk nt hd _ H1 x e' H' h K1 β a w (e1.k.2.2.trans hL) i1 hE1 Q (fun ex a' w' hp => hQ _ _ _ (hp.after e1 (.refl false ..) (fun h => ⟨rfl, h⟩))) ro bud hro
            · cases h
          | none =>
            rw [exec] at h
            split at h
            · rename_i H1 hf
              obtain ⟨K1, i1, e1⟩ := freezeObs_sound hI H 0 H H1 hf (fun j o hj => by rw [Nat.zero_add]; exact hj) K (Kn.le_refl _) hI
              exact ihE.code c b hc hk nt hd _ H1 x e' H' h K1 β a w (e1.k.2.2.trans hL) i1 (hE.mono e1.k fun _ _ h => h) Q (fun ex a' w' hp => hQ _ _ _ (hp.after e1 (.refl false ..) (fun h => ⟨rfl, h⟩))) ro bud hro
            · cases h
        | _ => exact absurd rfl hn
    intro c
    induction c with
    | skip =>
      intro ac hn hc hk nt hd e H x e' H' h K β a w hL hI hE Q hQ ro bud hro
      simp only [cCode, Option.some.injEq] at hc
      obtain rfl := er_skip hc.symm hn
      simp [exec] at h; obtain ⟨rfl, rfl, rfl⟩ := h
      exact wpIn_skip (hQ _ _ _ ⟨K, β, trivial, hE, hI, .refl K β H w, .refl ..⟩)
    | label l =>
      intro ac hn hc hk nt hd e H x e' H' h K β a w hL hI hE Q hQ ro bud hro
      simp only [cCode, Option.some.injEq] at hc
      obtain rfl := er_skip hc.symm hn
      simp [exec] at h; obtain ⟨rfl, rfl, rfl⟩ := h
      exact wpIn_label (hQ _ _ _ ⟨K, β, trivial, hE, hI, .refl K β H w, .refl ..⟩)
    | region id ops d =>
      intro ac hn hc hk nt hd e H x e' H' h K β a w hL hI hE Q hQ ro bud hro
      cases d with
      | true =>
        simp only [cCode] at hc
        split at hc
        case isFalse => cases hc
        obtain ⟨l, hl, hc⟩ := Option.map_eq_some_iff.1 hc
        obtain rfl := er_region hc.symm hn
        obtain ⟨hlen, hget⟩ := mapOpt_get hl
        have hops : ∀ (j : Nat) (ao : AO), l[j]? = some ao → ∃ o, ops[j]? = some o ∧ cOperL P ops o = some ao := fun j ao hj => by
          obtain ⟨o, ho, hc⟩ := hget j ao hj
          exact ⟨o, by simpa using ho, hc⟩
        have hdst : ∀ ao ∈ l, ∀ t, ao.dst = some t → t < nt := by
          intro ao hao t ht
          have := List.all_eq_true.1 (by simpa only [dstsOk, erase] using hd : l.all _ = true) ao hao
          rw [ht] at this; simpa using this
        simp only [exec] at h
        exact draw_sound hcall hp.mixed (by simpa using hlen.symm) hops hdst (by simpa using h) hL hI hE id fun ex a' w' hp => hQ _ _ _ hp.marked
      | false =>
        simp only [cCode] at hc
        obtain ⟨l, hl, hc⟩ := Option.map_eq_some_iff.1 hc
        obtain rfl := er_region hc.symm hn
        obtain ⟨hlen, hget⟩ := mapOpt_get hl
        have hops : ∀ (j : Nat) (ao : AO), l[j]? = some ao → ∃ o, ops[j]? = some o ∧ cOper P ops o = some ao := fun j ao hj => by
          obtain ⟨o, ho, hc⟩ := hget j ao hj
          exact ⟨o, by simpa using ho, hc⟩
        have hdst : ∀ ao ∈ l.map AO.bare, ∀ t, ao.dst = some t → t < nt := by
          intro ao hao t ht
          have := List.all_eq_true.1 (by simpa only [dstsOk, erase] using hd : (l.map AO.bare).all _ = true) ao hao
          rw [ht] at this; simpa using this
        refine wpIn_region ?_
        have := hreg ops (l.map AO.bare) (fun j ao hj => by
          rw [List.getElem?_map] at hj
          obtain ⟨ao', hj', rfl⟩ := Option.map_eq_some_iff.1 hj
          obtain ⟨o, ho, hc⟩ := hops j ao' hj'
          exact ⟨o, ho, made_bare hc⟩) nt hdst e H x e' H' h K β a w hL hI hE Q ro bud [] (fun ex a' w' hp => by
            have := hQ _ _ _ (hp.marked (b := hasR (.region (l.map AO.bare) false)))
            cases ex <;> exact this)
        rwa [List.append_nil, List.length_map, ← hlen, Array.length_toList, ← List.range_eq_range'] at this
    | seq c1 c2 ih1 ih2 =>
      intro ac hn hc hk nt hd e H x e' H' h K β a w hL hI hE Q hQ ro bud hro
      simp only [cCode] at hc
      split at hc
      case h_2 => cases hc
      rename_i c1' c2' h1 h2
      obtain ⟨b1, b2, rfl, rfl, rfl⟩ := er_seq (Option.some.inj hc).symm hn
      simp only [erase, dstsOk, Bool.and_eq_true] at hd
      simp only [exec] at h
      refine wpIn_seq ?_
      split at h
      · rename_i e1 H1 hb
        refine ihE.code c1 b1 h1 hk.1 nt hd.1 e H _ e1 H1 hb K β a w hL hI hE _ ?_ ro bud (fun h => hro (by simp [hasR, h]))
        rintro ex a' w' ⟨K1, β1, q1, q2, q3, q4, q5⟩
        cases ex <;> try exact q1.elim
        exact ihE.code c2 b2 h2 hk.2 nt hd.2 e1 H1 x e' H' h K1 β1 a' w' (q4.k.2.2.trans hL) q3 q2 Q (fun ex a'' w'' hp => hQ _ _ _ (hp.after q4 q5 (fun h => by simpa [hasR] using h))) ro bud (fun h => hro (by simp [hasR, h]))
      · rename_i e1 H1 hb
        split at h
        case h_2 => cases h
        rename_i e2 H2 hb2
        split at h <;> cases h
        rename_i hobs
        have hHH := obsEq_eq hobs
        subst hHH
        refine ihE.code c1 b1 h1 hk.1 nt hd.1 e H _ e1 _ hb K β a w hL hI hE _ ?_ ro bud (fun h => hro (by simp [hasR, h]))
        rintro ex a' w' ⟨K1, β1, q1, q2, q3, q4, q5⟩
        cases ex <;> try exact q1.elim
        · refine ihE.code c2 b2 h2 hk.2 nt hd.2 e1 _ _ e2 _ hb2 K1 β1 a' w' (q4.k.2.2.trans hL) q3 q2 Q (fun ex a'' w'' hp => ?_) ro bud (fun h => hro (by simp [hasR, h]))
          obtain ⟨K2, β2, p1, p2, p3, p4, p5⟩ := hp
          exact hQ _ _ _ (PostM.after (c := hasR b2) q4 q5 (fun h => by simpa [hasR] using h) ⟨K2, β2, p1, ER_join2 p2, p3, p4, p5⟩)
        · exact hQ .ret _ _ ⟨K1, β1, trivial, ER_join1 q2, q3, q4, q5.weak (fun h => by simp [hasR] at h; exact h.1)⟩
      · rename_i hne hne2
        refine ihE.code c1 b1 h1 hk.1 nt hd.1 e H x e' H' h K β a w hL hI hE _ ?_ ro bud (fun h => hro (by simp [hasR, h]))
        intro ex a' w' hpost
        have hx : ex ≠ .normal := by
          rintro rfl
          obtain ⟨K1, β1, q1, _⟩ := hpost
          cases x <;> try exact q1.elim
          · exact hne _ _ h
          · exact hne2 _ _ h
        cases ex <;> first | exact absurd rfl hx | exact hQ _ _ _ (hpost.weak (fun h => by simp [hasR] at h; exact h.1))
    | cond o c1 c2 ih1 ih2 =>
      intro ac hn hc hk nt hd e H x e' H' h K β a w hL hI hE Q hQ ro bud hro
      simp only [cCode] at hc
      split at hc
      case h_2 => cases hc
      rename_i y c1' c2' hy h1 h2
      obtain ⟨b1, b2, rfl, rfl, rfl⟩ := er_cond (Option.some.inj hc).symm hn
      simp only [erase, dstsOk, Bool.and_eq_true] at hd
      simp only [exec] at h
      have hv := hE.opd hy
      split at h
      · rename_i hb
        rw [hb] at hv
        generalize hcc : a.eval o = cc at hv
        cases hv
        exact wpIn_cond_true hcc (ihE.code c1 b1 h1 hk.1 nt hd.1 e H x e' H' h K β a w hL hI hE Q (fun ex a' w' hp => hQ _ _ _ (hp.weak (fun h => by simp [hasR] at h; exact h.1))) ro bud (fun h => hro (by simp [hasR, h])))
      · rename_i hb
        rw [hb] at hv
        generalize hcc : a.eval o = cc at hv
        cases hv
        exact wpIn_cond_false hcc (ihE.code c2 b2 h2 hk.2 nt hd.2 e H x e' H' h K β a w hL hI hE Q (fun ex a' w' hp => hQ _ _ _ (hp.weak (fun h => by simp [hasR] at h; exact h.2))) ro bud (fun h => hro (by simp [hasR, h])))
      · rename_i hb
        rw [hb] at hv
        generalize hcc : a.eval o = cc at hv
        obtain ⟨x1, x2, e1, e2, r1, r2, hxx, f1, f2⟩ := joinR_ok h
        have hx1 : x1 = x ∨ x = .mayRet ∧ (x1 = .ret ∨ x1 = .normal) := by
          rcases hxx with ⟨h1, _⟩ | ⟨h0, ⟨h1, _⟩ | ⟨h1, _⟩⟩
          · exact .inl h1
          · exact .inr ⟨h0, .inl h1⟩
          · exact .inr ⟨h0, .inr h1⟩
        have hx2 : x2 = x ∨ x = .mayRet ∧ (x2 = .ret ∨ x2 = .normal) := by
          rcases hxx with ⟨_, h1⟩ | ⟨h0, ⟨_, h1⟩ | ⟨_, h1⟩⟩
          · exact .inl h1
          · exact .inr ⟨h0, .inr h1⟩
          · exact .inr ⟨h0, .inl h1⟩
        cases hv with
        | anyb t =>
          cases t with
          | true =>
            exact wpIn_cond_true hcc (ihE.code c1 b1 h1 hk.1 nt hd.1 e H x1 e1 H' r1 K β a w hL hI hE Q (fun ex a' w' hp => hQ _ _ _ (by
              obtain ⟨K1, β1, q1, q2, q3, q4, q5⟩ := hp
              exact ⟨K1, β1, XR_may hx1 q1, f1 q2, q3, q4, q5.weak (fun h => by simp [hasR] at h; exact h.1)⟩)) ro bud (fun h => hro (by simp [hasR, h])))
          | false =>
            exact wpIn_cond_false hcc (ihE.code c2 b2 h2 hk.2 nt hd.2 e H x2 e2 H' r2 K β a w hL hI hE Q (fun ex a' w' hp => hQ _ _ _ (by
              obtain ⟨K1, β1, q1, q2, q3, q4, q5⟩ := hp
              exact ⟨K1, β1, XR_may hx2 q1, f2 q2, q3, q4, q5.weak (fun h => by simp [hasR] at h; exact h.2)⟩)) ro bud (fun h => hro (by simp [hasR, h])))
      · cases h
    | block id c1 ih1 =>
      intro ac hn hc hk nt hd e H x e' H' h K β a w hL hI hE Q hQ ro bud hro
      simp only [cCode] at hc
      obtain ⟨c1', h1, hc⟩ := Option.map_eq_some_iff.1 hc
      obtain ⟨b1, rfl, rfl⟩ := er_block hc.symm hn
      simp only [exec] at h
      refine wpIn_block ?_
      have hd' : dstsOk nt (erase b1) = true := by simpa [erase, dstsOk] using hd
      split at h
      · rename_i i e1 H1 hb
        refine ihE.code c1 b1 h1 hk nt hd' e H _ e1 H1 hb K β a w hL hI hE _ ?_ ro bud hro
        rintro ex a' w' ⟨K1, β1, q1, q2, q3, q4, q5⟩
        cases ex <;> try exact q1.elim
        rename_i j
        have hij : i = j := q1
        subst hij
        simp only [Exit.inBlock]
        split at h <;> cases h
        · rename_i hi; rw [if_pos hi]; exact hQ _ _ _ ⟨K1, β1, trivial, q2, q3, q4, q5⟩
        · rename_i hi; rw [if_neg hi]; exact hQ _ _ _ ⟨K1, β1, rfl, q2, q3, q4, q5⟩
      · rename_i hne
        refine ihE.code c1 b1 h1 hk nt hd' e H x e' H' h K β a w hL hI hE _ ?_ ro bud hro
        intro ex a' w' hpost
        have hx : ∀ j, ex ≠ .exit j := by
          rintro j rfl
          obtain ⟨K1, β1, q1, _⟩ := hpost
          cases x <;> try exact q1.elim
          exact hne _ _ _ h
        cases ex <;> first | exact absurd rfl (hx _) | exact hQ _ _ _ hpost
    | loop c1 ih1 =>
      intro ac hn hc hk nt hd e H x e' H' h K β a w hL hI hE Q hQ ro bud hro
      simp only [cCode] at hc
      obtain ⟨c1', h1, hc⟩ := Option.map_eq_some_iff.1 hc
      obtain ⟨b1, rfl, rfl⟩ := er_loop hc.symm hn
      exact wpIn_loop_rounds (n + 1) (rnd c1 b1 h1 hk nt (by simpa [erase, dstsOk] using hd) e H x e' H' h K β a w hL hI hE Q hQ ro bud hro)
    | scope c1 ih1 =>
      intro ac hn hc hk nt hd e H x e' H' h K β a w hL hI hE Q hQ ro bud hro
      simp only [cCode] at hc
      refine wpIn_scope (ih1 ac hn hc hk nt hd e H x e' H' h K β a w hL hI hE _ ?_ ro bud hro)
      intro ex a' w' hpost
      cases ex with
      | goto l => obtain ⟨K1, β1, q1, _⟩ := hpost; cases x <;> exact q1.elim
      | _ => exact hQ _ _ _ hpost
    | exit id =>
      intro ac hn hc hk nt hd e H x e' H' h K β a w hL hI hE Q hQ ro bud hro
      simp only [cCode, Option.some.injEq] at hc
      obtain rfl := er_exit hc.symm hn
      simp [exec] at h; obtain ⟨rfl, rfl, rfl⟩ := h
      exact wpIn_exit (hQ _ _ _ ⟨K, β, rfl, hE, hI, .refl K β H w, .refl ..⟩)
    | ret =>
      intro ac hn hc hk nt hd e H x e' H' h K β a w hL hI hE Q hQ ro bud hro
      simp only [cCode, Option.some.injEq] at hc
      obtain rfl := er_ret hc.symm hn
      simp [exec] at h; obtain ⟨rfl, rfl, rfl⟩ := h
      exact wpIn_ret (hQ _ _ _ ⟨K, β, trivial, hE, hI, .refl K β H w, .refl ..⟩)
    | goto l => intro ac hn hc; cases hc
    | refuse s => intro ac hn hc; cases hc
    | rangeFunc g ps asg bo ih1 ih2 =>
      intro ac hn hc hk nt hd e H x e' H' h K β a w hL hI hE Q hQ ro bud hro
      simp only [cCode] at hc
      split at hc
      case h_2 => cases hc
      rename_i f' as' bo' hf h1 h2
      obtain ⟨k, a1, b1, rfl, rfl, rfl⟩ := er_range (Option.some.inj hc).symm hn
      obtain ⟨ab, hab, hps, rfl, rfl⟩ := hk
      obtain rfl := hro rfl
      simp only [erase, dstsOk, Bool.and_eq_true] at hd
      simp only [exec] at h
      split at h
      · rename_i b' gf first cap hb' hfv
        rw [hab] at hb'; cases hb'
        exact range_sound hp ihE hf hab h1 h2 hps hd.1.2 hd.2 (fun t ht => by have := List.all_eq_true.1 hd.1.1 t (by rw [hps]; exact ht); simpa using this) hfv h hL hI hE (fun ex a' w' hp => hQ _ _ _ hp) bud
      · cases h

theorem acall_calls {P : Program} {p : AP} (hp : APOk P p) (n : Nat) {f : FuncId} {args : List V} {H : List Ob} {r : CR} {H' : List Ob} (hpr : p.prim f = none) (hf : f ≠ YF)
    (h : acall p n f args H = some (r, H')) {K : Kn} {β : Bi} {w : World} {cargs : Array Value} (hL : K.lp = lpOf P p) (hI : Inv K β H w) (ha : LR K β args cargs.toList) :
    Calls P f cargs w (CallPost K β H w r H') := by
  unfold acall callW at h
  rw [if_neg hf, hpr] at h
  dsimp only at h
  split at h
  · cases h
  · rename_i af haf
    exact (runFn_sound hp (exec_sound hp n).1 haf h hL hI ha).2

theorem acall_sound {P : Program} {p : AP} (hp : APOk P p) (n : Nat) : CallOk P (lpOf P p) (acall p n) := callW_sound hp (exec_sound hp n).1
end Fz
namespace Fz
open Go Go.ChangeShapes Go.WideShapes Go.ChangeAt Go.RowKit

/-- Types of plain data. -/
inductive Ty where
  | bool
  | int (k : IntKind)
  | float (k : FloatKind)
  | str
  | sl (e : Ty)
  | agg (l : List Ty)

mutual
def width : Ty → Nat
  | .agg l => widths l
  | _ => 1
def widths : List Ty → Nat
  | [] => 0
  | t :: l => width t + widths l
end

mutual
/-- A value is of a type. -/
def HasT : Ty → V → Prop
  | .bool, v => ∃ b, v = .bool b
  | .int k, v => ∃ n, v = .int k n ∧ k.min ≤ n ∧ n ≤ k.max
  | .float k, v => ∃ n, v = .float k n ∧ (Lit.float k n).wf = true
  | .str, v => ∃ s, v = .str s
  | .sl e, v => ∃ l, v = .list l false ∧ ∀ x ∈ l, HasT e x
  | .agg ts, v => ∃ l, v = .agg (flat l) ∧ HasTs ts l
def HasTs : List Ty → List V → Prop
  | [], l => l = []
  | t :: ts, l => ∃ v r, l = v :: r ∧ HasT t v ∧ HasTs ts r
end

mutual
/-- How much a value holds. -/
def bulk : V → Nat
  | .str s => s.size + 1
  | .list l _ => bulkL l + 1
  | .agg l => bulkL l + 1
  | _ => 1
def bulkL : List V → Nat
  | [] => 0
  | v :: l => bulk v + bulkL l
end

def fieldsOk (P : Program) : Nat → List Field → List Ty → Bool
  | _, [], [] => true
  | o, f :: fs, t :: ts => f.offset == o && P.cellsOf f.type == width t && fieldsOk P (o + width t) fs ts
  | _, _, _ => false

def tyOf (P : Program) : Nat → TypeId → Option Ty
  | 0, _ => none
  | d + 1, t => match P.underlying t with
    | some .bool => some .bool
    | some (.int k) => some (.int k)
    | some (.float k) => some (.float k)
    | some .string => some .str
    | some (.slice e) => match tyOf P d e with
      | some T => if P.cellsOf e = width T ∧ width T ≠ 0 then some (.sl T) else none
      | none => none
    | some (.struct fs) => match mapOpt (fun f => tyOf P d f.type) fs.toList with
      | some Ts => if fieldsOk P 0 fs.toList Ts = true ∧ P.cellsOf t = widths Ts then some (.agg Ts) else none
      | none => none
    | some (.array n e) => match tyOf P d e with
      | some T => if P.cellsOf e = width T ∧ P.cellsOf t = n * width T then some (.agg (List.replicate n T)) else none
      | none => none
    | _ => none

theorem widths_replicate (n : Nat) (T : Ty) : widths (List.replicate n T) = n * width T := by
  induction n with
  | zero => simp [widths]
  | succ n ih => rw [List.replicate_succ, widths, ih, Nat.succ_mul]; omega

theorem bulkL_append (a b : List V) : bulkL (a ++ b) = bulkL a + bulkL b := by
  induction a with
  | nil => simp [bulkL]
  | cons v l ih => simp only [List.cons_append, bulkL, ih]; omega
theorem bulk_cells (v : V) : bulkL (cellsOf v) ≤ bulk v := by
  cases v <;> simp [cellsOf, bulkL, bulk]
theorem bulk_flat (l : List V) : bulkL (flat l) ≤ bulkL l := by
  induction l with
  | nil => simp [flat, bulkL]
  | cons v l ih =>
    have e : flat (v :: l) = cellsOf v ++ flat l := by simp [flat]
    rw [e, bulkL_append, bulkL]
    have := bulk_cells v
    omega
theorem bulk_pos (v : V) : 1 ≤ bulk v := by cases v <;> simp [bulk]
theorem bulk_length (l : List V) : l.length ≤ bulkL l := by
  induction l with
  | nil => simp
  | cons v l ih => have := bulk_pos v; simp only [List.length_cons, bulkL]; omega
theorem bulk_mem {v : V} {l : List V} (h : v ∈ l) : bulk v ≤ bulkL l := by
  induction l with
  | nil => cases h
  | cons x l ih =>
    simp only [bulkL]
    rcases List.mem_cons.1 h with rfl | h
    · omega
    · have := ih h; omega

/-- What the rows' bulk is. -/
structure Bulk (ub : {H : Type} → DataW H → Nat) (ubAll : {H : Type} → List (DataW H) → Nat) : Prop where
  lit : ∀ {H : Type} (b : List UInt8), ub (DataW.lit (H := H) (.string b)) = b.length + 1
  pos : ∀ {H : Type} (d : DataW H), 1 ≤ ub d
  agg : ∀ {H : Type} (l : List (DataW H)), ub (.agg l) = ubAll l + 1
  slice : ∀ {H : Type} (l m : List (DataW H)), ub (.slice l m) = ubAll l + ubAll m + 1
  nil : ∀ {H : Type}, ubAll ([] : List (DataW H)) = 0
  cons : ∀ {H : Type} (d : DataW H) (l : List (DataW H)), ubAll (d :: l) = ub d + ubAll l

/-- All that there is, known for good. -/
def Kall (L : Nat → Loop → Prop) (w : World) : Kn := ⟨fun b => w.heap[b]?, fun b => match w.heap[b]? with | some (.cells cs _ _) => some cs.size | _ => none, L⟩
theorem inv_all (L : Nat → Loop → Prop) (w : World) : Inv (Kall L w) (fun _ => none) [] w where
  fixed b o h := h
  size b z h := by
    unfold Kall at h
    dsimp only at h
    split at h
    · rename_i cs e fr hb
      exact ⟨cs, e, fr, hb, Option.some.inj h⟩
    · cases h
  dom _ _ h := by cases h
  obj id o h := by simp at h
  inj i j b _ _ h := by cases h

theorem cells_get {w : World} {base : Nat} {a : Addr} {n : Nat} {cs : List Value} (h : w.cells? base a n = some cs) :
    cs.length = n ∧ ∀ i, i < n → w.cell? (a.add i) = cs[i]? := by
  unfold World.cells? at h
  split at h
  · refine ⟨by simpa using mapM_some_length h, fun i hi => ?_⟩
    exact mapM_some_get h i i (by simp [hi])
  · cases h

theorem cell_block {w : World} {a : Addr} {v : Value} (h : w.cell? a = some v) : a.spot = none ∧ ∃ cs e fr, w.heap[a.block]? = some (.cells cs e fr) ∧ cs[a.off]? = some v := by
  unfold World.cell? at h
  split at h
  · rename_i c e fr hb
    split at h
    · cases h
    · rename_i hs
      exact ⟨by simpa using hs, c, e, fr, hb, h⟩
  · cases h

/-- A value's cells. -/
def CellsR (K : Kn) (β : Bi) (v : V) (cs : List Value) : Prop := (cellsOf v).length = cs.length ∧ ∀ i c, (cellsOf v)[i]? = some c → VR K β c (cs.getD i Go.undef)

theorem mapOpt_cons {α β : Type} {f : α → Option β} {a : α} {l : List α} {r : List β} (h : mapOpt f (a :: l) = some r) : ∃ b t, f a = some b ∧ mapOpt f l = some t ∧ r = b :: t := by
  unfold mapOpt at h
  split at h
  · rename_i x y hx hy; cases h; exact ⟨_, _, hx, hy, rfl⟩
  · cases h

theorem ubAll_le {ub : {H : Type} → DataW H → Nat} {ubAll : {H : Type} → List (DataW H) → Nat} (hu : Bulk ub ubAll) {H : Type} : ∀ (vs : List V) (ds : List (DataW H)), vs.length = ds.length →
    (∀ (i : Nat) (v : V) (d : DataW H), vs[i]? = some v → ds[i]? = some d → bulk v ≤ ub d) → bulkL vs ≤ ubAll ds
  | [], [], _, _ => by simp [bulkL, hu.nil]
  | v :: vs, d :: ds, hl, h => by
    rw [bulkL, hu.cons]
    have h1 := h 0 v d rfl rfl
    have h2 := ubAll_le hu vs ds (by simpa using hl) fun i v d hv hd => h (i + 1) v d (by simpa using hv) (by simpa using hd)
    omega
  | [], _ :: _, hl, _ => by simp at hl
  | _ :: _, [], hl, _ => by simp at hl

theorem flat_get {vs : List V} {n : Nat} (hn : ∀ v ∈ vs, (cellsOf v).length = n) : ∀ (i : Nat) (c : V), (flat vs)[i]? = some c → 0 < n ∧ ∃ v, vs[i / n]? = some v ∧ (cellsOf v)[i % n]? = some c := by
  induction vs with
  | nil => intro i c h; simp [flat] at h
  | cons a vs ih =>
    intro i c h
    have e : flat (a :: vs) = cellsOf a ++ flat vs := by simp [flat]
    have ha := hn a (List.mem_cons_self ..)
    rw [e] at h
    by_cases hi : i < n
    · rw [List.getElem?_append_left (by omega)] at h
      exact ⟨by omega, a, by rw [Nat.div_eq_of_lt hi]; rfl, by rw [Nat.mod_eq_of_lt hi]; exact h⟩
    · rw [List.getElem?_append_right (by omega), ha] at h
      obtain ⟨h0, v, h1, h2⟩ := ih (fun v hv => hn v (List.mem_cons_of_mem _ hv)) (i - n) c h
      refine ⟨h0, v, ?_, ?_⟩
      · have : i / n = (i - n) / n + 1 := by
          conv => lhs; rw [show i = (i - n) + n from by omega]
          exact Nat.add_div_right _ h0
        rw [this]; simpa using h1
      · rw [show i % n = (i - n) % n from (Nat.mod_eq_sub_mod (by omega))]; exact h2

theorem getD_drop_take {cs : List Value} {o n i : Nat} (h : i < n) : ((cs.drop o).take n).getD i Go.undef = cs.getD (o + i) Go.undef := by
  simp [List.getD_eq_getElem?_getD, List.getElem?_take, h, List.getElem?_drop]

section
variable {L : Nat → Loop → Prop} {ub : {H : Type} → DataW H → Nat} {ubAll : {H : Type} → List (DataW H) → Nat} {P : Program} {w : World} {H : Type} {enc : TypeId × Value → H} {sp : Nat → Bool} {held : Bool}

/-- Fields, one behind the other. -/
theorem fields_V {K : Kn} {β : Bi} (hu : Bulk ub ubAll) {cs : List Value} : ∀ (fs : List Field) (Ts : List Ty) (o : Nat) (xs : List (DataW H × List MemPlace)), fieldsOk P o fs Ts = true → xs.length = fs.length → cs.length = o + widths Ts →
    (∀ (i : Nat) (f : Field) (x : DataW H × List MemPlace) (T : Ty), fs[i]? = some f → xs[i]? = some x → Ts[i]? = some T → P.cellsOf f.type = width T → ∃ v, HasT T v ∧ (cellsOf v).length = width T ∧ CellsR K β v ((cs.drop f.offset).take (P.cellsOf f.type)) ∧ bulk v ≤ ub x.1) →
    ∃ vs, HasTs Ts vs ∧ (flat vs).length = widths Ts ∧ (∀ i c, (flat vs)[i]? = some c → VR K β c (cs.getD (o + i) Go.undef)) ∧ bulkL vs ≤ ubAll (xs.map (·.1))
  | [], [], o, xs, _, hx, hc, _ => by
    have : xs = [] := List.length_eq_zero_iff.1 (by simpa using hx)
    subst this
    exact ⟨[], by simp [HasTs], by simp [flat, widths], fun i c h => by simp [flat] at h, by simp [bulkL, hu.nil]⟩
  | f :: fs, T :: Ts, o, [], _, hx, _, _ => by simp at hx
  | f :: fs, T :: Ts, o, x :: xs, hf, hx, hc, h => by
    simp only [fieldsOk, Bool.and_eq_true, beq_iff_eq] at hf
    obtain ⟨⟨h1, h2⟩, h3⟩ := hf
    obtain ⟨v, hv, hvl, hvc, hvb⟩ := h 0 f x T rfl rfl rfl h2
    obtain ⟨vs, g1, g2, g3, g4⟩ := fields_V hu fs Ts (o + width T) xs h3 (by simpa using hx) (by rw [hc, widths]; omega) fun i f x T hf hx hT hw => h (i + 1) f x T (by simpa using hf) (by simpa using hx) (by simpa using hT) hw
    have e : flat (v :: vs) = cellsOf v ++ flat vs := by simp [flat]
    refine ⟨v :: vs, ⟨v, vs, rfl, hv, g1⟩, by rw [e, List.length_append, hvl, g2, widths], fun i c hi => ?_, ?_⟩
    · rw [e] at hi
      by_cases hlt : i < width T
      · rw [List.getElem?_append_left (by omega)] at hi
        have := hvc.2 i c hi
        rw [h1, h2, getD_drop_take hlt] at this
        exact this
      · rw [List.getElem?_append_right (by omega), hvl] at hi
        have := g3 _ c hi
        rw [show o + width T + (i - width T) = o + i from by omega] at this
        exact this
    · rw [bulkL, List.map_cons, hu.cons]; omega
  | [], _ :: _, _, _, hf, _, _, _ => by simp [fieldsOk] at hf
  | _ :: _, [], _, _, hf, _, _, _ => by simp [fieldsOk] at hf

theorem array_V {K : Kn} {β : Bi} (hu : Bulk ub ubAll) {cs : List Value} {T : Ty} : ∀ (n o : Nat) (xs : List (DataW H × List MemPlace)), xs.length = n → cs.length = o + n * width T →
    (∀ (i : Nat) (x : DataW H × List MemPlace), xs[i]? = some x → ∃ v, HasT T v ∧ (cellsOf v).length = width T ∧ CellsR K β v ((cs.drop (o + i * width T)).take (width T)) ∧ bulk v ≤ ub x.1) →
    ∃ vs, HasTs (List.replicate n T) vs ∧ (flat vs).length = n * width T ∧ (∀ i c, (flat vs)[i]? = some c → VR K β c (cs.getD (o + i) Go.undef)) ∧ bulkL vs ≤ ubAll (xs.map (·.1))
  | 0, o, xs, hx, hc, _ => by
    have : xs = [] := List.length_eq_zero_iff.1 hx
    subst this
    exact ⟨[], by simp [HasTs], by simp [flat], fun i c h => by simp [flat] at h, by simp [bulkL, hu.nil]⟩
  | n + 1, o, [], hx, _, _ => by simp at hx
  | n + 1, o, x :: xs, hx, hc, h => by
    obtain ⟨v, hv, hvl, hvc, hvb⟩ := h 0 x rfl
    obtain ⟨vs, g1, g2, g3, g4⟩ := array_V (K := K) (β := β) hu (cs := cs) (T := T) n (o + width T) xs (by simpa using hx) (by rw [hc, Nat.succ_mul]; omega) fun i x hx => by
      have := h (i + 1) x (by simpa using hx)
      rwa [show o + (i + 1) * width T = o + width T + i * width T from by rw [Nat.succ_mul]; omega] at this
    have e : flat (v :: vs) = cellsOf v ++ flat vs := by simp [flat]
    refine ⟨v :: vs, ?_, by rw [e, List.length_append, hvl, g2, Nat.succ_mul, Nat.add_comm], fun i c hi => ?_, ?_⟩
    · rw [List.replicate_succ]; exact ⟨v, vs, rfl, hv, g1⟩
    · rw [e] at hi
      by_cases hlt : i < width T
      · rw [List.getElem?_append_left (by omega)] at hi
        have := hvc.2 i c hi
        rw [Nat.zero_mul, Nat.add_zero, getD_drop_take hlt] at this
        exact this
      · rw [List.getElem?_append_right (by omega), hvl] at hi
        have := g3 _ c hi
        rw [show o + width T + (i - width T) = o + i from by omega] at this
        exact this
    · rw [bulkL, List.map_cons, hu.cons]; omega

theorem trod_float {fuel : Nat} {t : TypeId} {cs : List Value} {x : DataW H × List MemPlace} {base : Nat} {k : FloatKind} (ht : P.underlying t = some (.float k)) (h : DataW.trod enc P w base sp held fuel t cs = some x) :
    ∃ b, cs = [.float k b] ∧ x = (.lit (.float k b), []) ∧ (Lit.float k b).wf = true := by
  cases fuel with
  | zero => simp [DataW.trod] at h
  | succ n =>
    unfold DataW.trod at h
    rw [ht] at h
    split at h <;> simp_all
theorem trod_array {fuel : Nat} {t e : TypeId} {n : Nat} {cs : List Value} {x : DataW H × List MemPlace} {base : Nat} (ht : P.underlying t = some (.array n e)) (h : DataW.trod enc P w base sp held fuel t cs = some x) :
    ∃ m xs, fuel = m + 1 ∧ cs.length = P.cellsOf t ∧ (List.range n).mapM (fun i => DataW.trod enc P w base sp held m e ((cs.drop (i * P.cellsOf e)).take (P.cellsOf e))) = some xs ∧ x = (.agg (xs.map (·.1)), xs.flatMap (·.2)) := by
  cases fuel with
  | zero => simp [DataW.trod] at h
  | succ m =>
    unfold DataW.trod at h
    rw [ht] at h
    split at h <;> simp_all
    obtain ⟨hl, xs, hp, hd⟩ := h
    exact ⟨xs, hp, hd.symm⟩
theorem add_block (a : Addr) (i : Nat) : (a.add i).block = a.block := by unfold Addr.add; split <;> rfl
theorem add_off (a : Addr) (i : Nat) : (a.add i).off = a.off + i := by unfold Addr.add; split <;> simp_all

def AgOk : Ty → V → Prop
  | .agg _, v => ∃ l, v = .agg l
  | _, v => ∀ l, v ≠ .agg l
theorem trod_V (hu : Bulk ub ubAll) {β : Bi} : ∀ (d : Nat) (t : TypeId) (T : Ty), tyOf P d t = some T → ∀ (fuel : Nat) (cs : List Value) (x : DataW H × List MemPlace), DataW.trod enc P w 0 (fun _ => true) held fuel t cs = some x →
    ∃ v, HasT T v ∧ (cellsOf v).length = width T ∧ CellsR (Kall L w) β v cs ∧ bulk v ≤ ub x.1 ∧ AgOk T v
  | 0, _, _, hT => by cases hT
  | d + 1, t, T, hT => by
    intro fuel cs x h
    have one : ∀ {v : V} {c : Value} {cs : List Value}, cs = [c] → cellsOf v = [v] → VR (Kall L w) β v c → CellsR (Kall L w) β v cs := by
      intro v c cs hcs hv hr
      subst hcs
      refine ⟨by rw [hv]; rfl, fun i c' hi => ?_⟩
      rw [hv] at hi
      cases i with
      | zero => cases hi; exact hr
      | succ i => simp at hi
    rw [tyOf] at hT
    split at hT
    · rename_i hP
      cases hT
      obtain ⟨b, rfl, rfl⟩ := DataW.trod_bool hP h
      exact ⟨.bool b, ⟨b, rfl⟩, rfl, one rfl rfl (.bool b), hu.pos _, fun l h => by cases h⟩
    · rename_i k hP
      cases hT
      obtain ⟨n, rfl, rfl, hw⟩ := DataW.trod_int hP h
      simp only [Lit.wf, Bool.and_eq_true, decide_eq_true_eq] at hw
      exact ⟨.int k n, ⟨n, rfl, hw.1, hw.2⟩, rfl, one rfl rfl (.int k n), hu.pos _, fun l h => by cases h⟩
    · rename_i k hP
      cases hT
      obtain ⟨b, rfl, rfl, hw⟩ := trod_float hP h
      exact ⟨.float _ b, ⟨b, rfl, hw⟩, rfl, one rfl rfl (.float _ b), hu.pos _, fun l h => by cases h⟩
    · rename_i hP
      cases hT
      obtain ⟨s, rfl, rfl, hm⟩ := DataW.trod_string hP h
      refine ⟨.str s, ⟨s, rfl⟩, rfl, one rfl rfl (.str s), ?_, fun l h => by cases h⟩
      rw [hu.lit, bulk, Array.length_toList]; exact Nat.le_refl _
    · rename_i e hP
      split at hT
      · rename_i E hE
        split at hT
        · rename_i hw
          cases hT
          obtain ⟨hw, hw0⟩ := hw
          rcases DataW.trod_slice hP h with ⟨rfl, rfl⟩ | ⟨a, len, cap, elems, rest, n, rfl, rfl, rfl, _, hlc, _, hel, hget, hrest, _⟩
          · exact ⟨.list [] false, ⟨[], rfl, fun x hx => by cases hx⟩, rfl, one rfl rfl (.lnil fun h => by cases h), by rw [bulk, bulkL]; exact hu.pos _, fun l h => by cases h⟩
          · have elem : ∀ i, i < len → ∃ v y cs', elems[i]? = some y ∧ w.cells? 0 (a.add (i * P.cellsOf e)) (P.cellsOf e) = some cs' ∧ HasT E v ∧ (cellsOf v).length = width E ∧ CellsR (Kall L w) β v cs' ∧ bulk v ≤ ub y.1 := by
              intro i hi
              have := hget i hi
              have hi' : i < elems.length := by omega
              rw [List.getElem?_eq_getElem hi', Option.bind_eq_some_iff] at this
              obtain ⟨cs', h1, h2⟩ := this
              obtain ⟨v, g1, g2, g3, g4, _⟩ := trod_V hu d e E hE n cs' _ h2
              exact ⟨v, elems[i], cs', List.getElem?_eq_getElem hi', h1, g1, g2, g3, g4⟩
            have all : ∃ vs : List V, vs.length = len ∧ ∀ i v, vs[i]? = some v → ∃ y cs', elems[i]? = some y ∧ w.cells? 0 (a.add (i * P.cellsOf e)) (P.cellsOf e) = some cs' ∧ HasT E v ∧ (cellsOf v).length = width E ∧ CellsR (Kall L w) β v cs' ∧ bulk v ≤ ub y.1 := by
              have : ∀ m, m ≤ len → ∃ vs : List V, vs.length = m ∧ ∀ i v, vs[i]? = some v → ∃ y cs', elems[i]? = some y ∧ w.cells? 0 (a.add (i * P.cellsOf e)) (P.cellsOf e) = some cs' ∧ HasT E v ∧ (cellsOf v).length = width E ∧ CellsR (Kall L w) β v cs' ∧ bulk v ≤ ub y.1 := by
                intro m
                induction m with
                | zero => intro _; exact ⟨[], rfl, fun i v h => by simp at h⟩
                | succ m ih =>
                  intro hm
                  obtain ⟨vs, h1, h2⟩ := ih (by omega)
                  obtain ⟨v, hv⟩ := elem m (by omega)
                  refine ⟨vs ++ [v], by simp [h1], fun i u hu => ?_⟩
                  by_cases hi : i < m
                  · rw [List.getElem?_append_left (by omega)] at hu; exact h2 i u hu
                  · rw [List.getElem?_append_right (by omega)] at hu
                    have hi' : i = m := by
                      by_cases h : i = m
                      · exact h
                      · rw [List.getElem?_eq_none (by simp; omega)] at hu; cases hu
                    subst hi'
                    rw [h1, Nat.sub_self] at hu
                    cases hu
                    exact hv
              exact this len (Nat.le_refl _)
            obtain ⟨vs, hvl, hvs⟩ := all
            have hb : bulkL vs ≤ ubAll (elems.map (·.1)) := ubAll_le hu vs _ (by simp; omega) fun i v dd hv hd => by
              obtain ⟨y, cs', h1, h2, h3, h4, h5, h6⟩ := hvs i v hv
              rw [List.getElem?_map, h1] at hd
              cases hd; exact h6
            have hty : ∀ v ∈ vs, HasT E v := by
              intro v hv
              obtain ⟨i, hi⟩ := List.getElem?_of_mem hv
              obtain ⟨y, cs', h1, h2, h3, h4⟩ := hvs i v hi
              exact h3
            have hub : bulk (.list vs false) ≤ ub (.slice (elems.map (·.1)) (rest.map (·.1))) := by
              rw [hu.slice, bulk]; omega
            by_cases h0 : len = 0
            · have : vs = [] := List.length_eq_zero_iff.1 (by omega)
              subst this
              subst h0
              exact ⟨.list [] false, ⟨[], rfl, fun x hx => by cases hx⟩, rfl, one rfl rfl (.lnil fun h => by cases h), hub, fun l h => by cases h⟩
            · refine ⟨.list vs false, ⟨vs, rfl, hty⟩, rfl, one rfl rfl ?_, hub, fun l h => by cases h⟩
              obtain ⟨v0, y0, cs0, h1, h2, h3, h4, h5⟩ := elem 0 (by omega)
              obtain ⟨g1, g2⟩ := cells_get h2
              have c0 := g2 0 (by omega)
              obtain ⟨c, hc⟩ : ∃ c, cs0[0]? = some c := ⟨_, List.getElem?_eq_getElem (show 0 < cs0.length by omega)⟩
              rw [hc] at c0
              obtain ⟨hs, bs, be, bfr, hblk, _⟩ := cell_block c0
              have haddr : a = ⟨a.block, a.off, none⟩ := by
                have : a.spot = none := by simpa [Addr.add] using hs
                cases a; simp_all
              have hblk' : w.heap[a.block]? = some (.cells bs be bfr) := by simpa [Addr.add] using hblk
              have celltot : ∀ i k, i < len → k < width E → ∃ v, vs[i]? = some v ∧ ∀ c, (cellsOf v)[k]? = some c → VR (Kall L w) β c (bs.getD (a.off + (i * width E + k)) Go.undef) ∧ a.off + (i * width E + k) < bs.size := by
                intro i k hi hk
                obtain ⟨v, hv⟩ : ∃ v, vs[i]? = some v := ⟨_, List.getElem?_eq_getElem (show i < vs.length by omega)⟩
                obtain ⟨y, cs', q1, q2, q3, q4, q5, q6⟩ := hvs i v hv
                obtain ⟨r1, r2⟩ := cells_get q2
                refine ⟨v, hv, fun c hc => ?_⟩
                have := q5.2 k c hc
                have e1 := r2 k (by omega)
                have hk' : k < cs'.length := by omega
                rw [List.getElem?_eq_getElem hk'] at e1
                obtain ⟨_, bs', be', bfr', hblk2, hcell⟩ := cell_block e1
                have : bs' = bs := by
                  rw [add_block, add_block, hblk'] at hblk2
                  cases hblk2; rfl
                subst this
                have e2 : bs'[a.off + (i * width E + k)]? = some cs'[k] := by
                  rw [add_off, add_off, hw, Nat.add_assoc] at hcell
                  exact hcell
                refine ⟨?_, (Array.getElem?_eq_some_iff.1 e2).1⟩
                rw [Array.getD_eq_getD_getElem?, e2]
                rw [List.getD_eq_getElem?_getD, List.getElem?_eq_getElem hk'] at this
                exact this
              have hn : ∀ v ∈ vs, (cellsOf v).length = width E := by
                intro v hv
                obtain ⟨i, hi⟩ := List.getElem?_of_mem hv
                obtain ⟨y, cs', h1, h2, h3, h4, _⟩ := hvs i v hi
                exact h4
              rw [haddr, ← hvl]
              refine .list (K := Kall L w) (n := width E) (e := be) (fr := bfr) (cs := bs) hblk' hn hw0 ?_ (by omega) (fun h => by cases h) ?_
              · obtain ⟨v, hv, hh⟩ := celltot (len - 1) (width E - 1) (by omega) (by omega)
                have hvm : v ∈ vs := List.mem_of_getElem? hv
                have hl := hn v hvm
                obtain ⟨_, hlt⟩ := hh _ (List.getElem?_eq_getElem (show width E - 1 < (cellsOf v).length by omega))
                have e3 : len * width E = (len - 1) * width E + width E := by
                  conv => lhs; rw [show len = (len - 1) + 1 from by omega, Nat.succ_mul]
                rw [hvl, e3]
                omega
              · intro i v hi
                obtain ⟨h0', u, hu1, hu2⟩ := flat_get hn i v hi
                have hi1 : i / width E < len := by
                  have := (List.getElem?_eq_some_iff.1 hu1).1; omega
                obtain ⟨v', hv', hh⟩ := celltot (i / width E) (i % width E) hi1 (Nat.mod_lt _ h0')
                rw [hu1] at hv'
                cases hv'
                have := (hh v hu2).1
                rwa [show i / width E * width E + i % width E = i from Nat.div_add_mod' i (width E)] at this
        · cases hT
      · cases hT
    · rename_i fs hP
      split at hT
      · rename_i Ts hTs
        split at hT
        · rename_i hok
          cases hT
          obtain ⟨xs, n, rfl, rfl, hlen, hxl, hf⟩ := DataW.trod_struct hP h
          obtain ⟨hok, hwd⟩ := hok
          obtain ⟨hml, hmg⟩ := mapOpt_get hTs
          obtain ⟨vs, g1, g2, g3, g4⟩ := fields_V (K := Kall L w) (β := β) hu (cs := cs) fs.toList Ts 0 xs hok (by simpa using hxl) (by omega) fun i f y T' hfi hxi hTi hwf => by
            obtain ⟨f', hf', hT'⟩ := hmg i T' hTi
            rw [hfi] at hf'
            cases hf'
            have := hf i f (by simpa using hfi)
            rw [hxi] at this
            obtain ⟨v, q1, q2, q3, q4, _⟩ := trod_V hu d f.type T' hT' n _ y this
            exact ⟨v, q1, q2, q3, q4⟩
          refine ⟨.agg (flat vs), ⟨vs, rfl, g1⟩, by rw [cellsOf, width]; exact g2, ⟨by rw [cellsOf]; omega, fun i c hi => ?_⟩, ?_, ⟨_, rfl⟩⟩
          · have := g3 i c hi
            rwa [Nat.zero_add] at this
          · rw [hu.agg, bulk]
            have := bulk_flat vs
            omega
        · cases hT
      · cases hT
    · rename_i n e hP
      split at hT
      · rename_i E hE
        split at hT
        · rename_i hok
          cases hT
          obtain ⟨hw, hwd⟩ := hok
          obtain ⟨m, xs, rfl, hlen, hxs, rfl⟩ := trod_array hP h
          have hxl : xs.length = n := by simpa using mapM_some_length hxs
          obtain ⟨vs, g1, g2, g3, g4⟩ := array_V (K := Kall L w) (β := β) hu (cs := cs) (T := E) n 0 xs hxl (by omega) fun i y hi => by
            have hin : i < n := by have := (List.getElem?_eq_some_iff.1 hi).1; omega
            have := mapM_some_get hxs i i (by simp [hin])
            rw [hi, hw] at this
            obtain ⟨v, q1, q2, q3, q4, _⟩ := trod_V hu d e E hE m _ y this
            rw [Nat.zero_add]
            exact ⟨v, q1, q2, q3, q4⟩
          refine ⟨.agg (flat vs), ⟨vs, rfl, g1⟩, by rw [cellsOf, width, widths_replicate]; exact g2, ⟨by rw [cellsOf]; omega, fun i c hi => ?_⟩, ?_, ⟨_, rfl⟩⟩
          · have := g3 i c hi
            rwa [Nat.zero_add] at this
          · rw [hu.agg, bulk]
            have := bulk_flat vs
            omega
        · cases hT
      · cases hT
    · cases hT
end
end Fz
namespace Fz
open Go Go.ChangeShapes Go.WideShapes Go.ChangeAt Go.RowKit
section
variable {L : Nat → Loop → Prop} {ub : {H : Type} → DataW H → Nat} {ubAll : {H : Type} → List (DataW H) → Nat} {P : Program} {H : Type} {enc : TypeId × Value → H}

theorem cellsR_VR {K : Kn} {β : Bi} {w : World} {base : Nat} {t : TypeId} {T : Ty} {d : Nat} (hT : tyOf P d t = some T) {v : V} {c : Value} (hv : CellsR K β v c.cells.toList) (hw : (cellsOf v).length = width T)
    (ha : AgOk T v) (hok : Value.okWide P w .any base t c) : VR K β v c := by
  cases d with
  | zero => cases hT
  | succ d =>
    have scal : (∀ cs, c ≠ .agg cs) → (∀ l, v ≠ .agg l) → VR K β v c := by
      intro h1 h2
      have e1 : c.cells = #[c] := by cases c <;> first | rfl | exact absurd rfl (h1 _)
      have e2 : cellsOf v = [v] := by cases v <;> first | rfl | exact absurd rfl (h2 _)
      have := hv.2 0 v (by rw [e2]; rfl)
      rw [e1] at this
      exact this
    have aggr : ∀ {cs : Array Value} {l : List V}, c = .agg cs → v = .agg l → VR K β v c := by
      rintro cs l rfl rfl
      refine .agg ?_ fun i u hu => ?_
      · have := hv.1; simpa [cellsOf, Value.cells] using this
      · have := hv.2 i u hu
        simpa [Value.cells, List.getD_eq_getElem?_getD, Array.getD_eq_getD_getElem?] using this
    rw [tyOf] at hT
    unfold Value.okWide at hok
    have noagg : Cell.okWide P w .any base t c → ∀ cs, c ≠ .agg cs := by
      rintro h cs rfl
      unfold Cell.okWide Cell.ok at h
      split at h
      all_goals first | (cases h; done) | (rename_i hc; cases hc; done) | skip
      split at h <;> simp_all
    split at hT
    · rename_i hP; rw [hP] at hok; cases hT; exact scal (noagg hok) ha
    · rename_i hP; rw [hP] at hok; cases hT; exact scal (noagg hok) ha
    · rename_i hP; rw [hP] at hok; cases hT; exact scal (noagg hok) ha
    · rename_i hP; rw [hP] at hok; cases hT; exact scal (noagg hok) ha
    · rename_i hP; rw [hP] at hok
      split at hT
      · split at hT <;> cases hT
        exact scal (noagg hok) ha
      · cases hT
    · rename_i hP; rw [hP] at hok
      obtain ⟨cs, rfl, _⟩ := hok
      split at hT
      · split at hT <;> cases hT
        obtain ⟨l, rfl⟩ := ha
        exact aggr rfl rfl
      · cases hT
    · rename_i hP; rw [hP] at hok
      obtain ⟨cs, rfl, _⟩ := hok
      split at hT
      · split at hT <;> cases hT
        obtain ⟨l, rfl⟩ := ha
        exact aggr rfl rfl
      · cases hT
    · cases hT

theorem args_V (hu : Bulk ub ubAll) {w : World} {base d : Nat} {β : Bi} : ∀ (ts : List TypeId) (Ts : List Ty), mapOpt (tyOf P d) ts = some Ts → ∀ (args : List Value) (ds : List (DataW H)) (p : List MemPlace),
    DataW.TrodAll enc P w 0 (fun _ => true) true ts args ds p → (∀ (j : Nat) t v, ts[j]? = some t → args[j]? = some v → Value.okWide P w .any base t v) →
    ∃ vs, HasTs Ts vs ∧ LR (Kall L w) β vs args ∧ bulkL vs ≤ ubAll ds
  | [], Ts, hT, args, ds, p, h, hok => by
    obtain ⟨rfl, rfl, rfl⟩ := trodAll_nil h
    simp [mapOpt] at hT
    subst hT
    exact ⟨[], rfl, LR.nil _ _, by rw [bulkL]; omega⟩
  | t :: ts, Ts, hT, args, ds, p, h, hok => by
    obtain ⟨v, vs, d1, ds', p1, q, rfl, rfl, rfl, h1, h2⟩ := trodAll_cons h
    obtain ⟨T, Ts', hT1, hT2, rfl⟩ := mapOpt_cons hT
    obtain ⟨l, g1, g2, g3⟩ := args_V hu ts Ts' hT2 vs ds' q h2 fun j t v hj hv => hok (j + 1) t v (by simpa using hj) (by simpa using hv)
    obtain ⟨fuel, hf⟩ := h1
    obtain ⟨u, k1, k2, k3, k4, k5⟩ := trod_V hu (β := β) d t T hT1 fuel _ _ hf
    refine ⟨u :: l, ⟨u, l, rfl, k1, g1⟩, LR.cons (cellsR_VR hT1 k3 k2 k5 (hok 0 t v rfl rfl)) g2, ?_⟩
    rw [bulkL, hu.cons]
    exact Nat.add_le_add k4 g3

theorem trodAll_stays (hl : laidOutB P = true) {W W' : World} (hb : Below W.heap.size W W') : ∀ (ts : List TypeId) (vs : List Value) (ds : List (DataW H)) (p : List MemPlace), (∀ t ∈ ts, P.readableRec t = true ∧ t < P.types.size) →
    DataW.TrodAll enc P W 0 (fun _ => true) true ts vs ds p → DataW.TrodAll enc P W' 0 (fun b => decide (b < W.heap.size)) true ts vs ds p
  | [], vs, ds, p, _, h => by
    obtain ⟨rfl, rfl, rfl⟩ := trodAll_nil h
    exact trodAll_mk0
  | t :: ts, vs, ds, p, ht, h => by
    obtain ⟨v, vs', d1, ds', p1, q, rfl, rfl, rfl, h1, h2⟩ := trodAll_cons h
    have g := trodAll_stays hl hb ts vs' ds' q (fun t h => ht t (List.mem_cons_of_mem _ h)) h2
    obtain ⟨a1, a2⟩ := ht t (List.mem_cons_self ..)
    refine trodAll_cons_mk (Below.trod hl a1 a2 h1 hb ?_) g
    obtain ⟨m, hm⟩ := h1
    exact DataW.trod_lt m _ _ _ hm

theorem ev_below {K K' : Kn} {β β' : Bi} {w w' : World} {H' : List Ob} (h : Ev K β [] w K' β' H' w') : Below w.heap.size w w' :=
  ⟨h.os, h.tape, h.output, h.size, fun k hk => h.frame k hk fun ⟨id, ⟨o, ho, _⟩, _⟩ => by simp at ho⟩

/-- The contract of a law. -/
theorem law_contract (hu : Bulk ub ubAll) {p : AP} (hp : APOk P p) {f : FuncId} (hpr : p.prim f = none) {fn : Func} {ts : List TypeId} (hts : fn.params.toList = ts) {tb : TypeId} (hres : fn.resultTypes = #[tb]) (htb : P.underlying tb = some .bool)
    {d : Nat} {Ts : List Ty} (hT : mapOpt (tyOf P d) ts = some Ts) (hl : laidOutB P = true) (hr : ∀ t ∈ ts, P.readableRec t = true ∧ t < P.types.size)
    {s : ChangeSpec} (hv : s.vars = []) (hs : ∀ (ds : List (DataW H)), ds.length = ts.length → s.fn H ds = { results := [.lit (.bool true)], args := ds })
    {N : Nat} (hlaw : ∀ vs, HasTs Ts vs → bulkL vs ≤ N → ∃ n H', acall p n f vs [] = some (.ret (.bool true), H'))
    {W : World} {base : Nat} {args : Array Value} {ds gs : List (DataW H)} {before : List MemPlace}
    (hval : ∀ (j : Nat) t v, fn.params[j]? = some t → args[j]? = some v → Value.okWide P W .any base t v)
    (hW : DataW.Whole enc P fn.params.toList s.vars false W args.toList ds gs before) (hk : ubAll (ds ++ gs) ≤ N) (hY : f ≠ YF := by decide) :
    Calls P f args W fun e W' => ∃ v, e = .returned v ∧ s.post enc P fn false true false false W args v W' := by
  have hW' := hW
  obtain ⟨pp, q, hA, hV, rfl, hfz, hnd⟩ := hW
  rw [hv] at hV
  obtain ⟨rfl, rfl⟩ := trodVars_none hV
  rw [List.append_nil] at hk
  rw [hts] at hA
  obtain ⟨vs, h1, h2, h3⟩ := args_V (L := lpOf P p) hu (β := fun _ => none) ts Ts hT args.toList ds pp hA fun j t v hj hv => hval j t v (by rw [← hts] at hj; simpa using hj) (by simpa using hv)
  obtain ⟨n, H', hc⟩ := hlaw vs h1 (by omega)
  have hdl : ds.length = ts.length := by
    have : ∀ (ts : List TypeId) (vs : List Value) (ds : List (DataW H)) (p : List MemPlace), DataW.TrodAll enc P W 0 (fun _ => true) true ts vs ds p → ds.length = ts.length := by
      intro ts
      induction ts with
      | nil => intro vs ds p h; obtain ⟨rfl, rfl, rfl⟩ := trodAll_nil h; rfl
      | cons t ts ih =>
        intro vs ds p h
        obtain ⟨v, vs', d1, ds', p1, q, rfl, rfl, rfl, h1, h2⟩ := trodAll_cons h
        simp [ih _ _ _ h2]
    exact this _ _ _ _ hA
  refine (acall_calls hp n hpr hY hc rfl (inv_all (lpOf P p) W) h2).mono ?_
  intro e W' hh
  obtain ⟨K', β', r, _, ev⟩ := hh
  have bel := ev_below ev
  obtain ⟨c, rfl, r⟩ : ∃ c, e = .returned c ∧ VR K' β' (.bool true) c := by
    unfold CRel at r
    split at r
    · rename_i h; cases h; exact ⟨_, rfl, r⟩
    · rename_i h; cases h
    · exact r.elim
  obtain rfl : c = .bool true := by cases r; rfl
  refine ⟨_, rfl, ds, [], pp ++ [], [], pp, [], hW', ?_, ?_, ?_, bel.frame _, fun h => by cases h⟩
  · rw [hres]
    simp only [List.append_nil, hs ds hdl]
    exact trodAll_mk1 (shut_bool htb _)
  · simp only [List.append_nil, hs ds hdl, hts]
    exact trodAll_stays hl bel ts _ _ _ hr hA
  · simp only [List.append_nil, hs ds hdl, hv]
    exact rfl
end
end Fz
set_option maxRecDepth 100000
namespace Fz.D
open Go
structure StTy (s : St) : Prop where
  mem : by8 s.mem
  data : ∀ n ∈ s.data, i64 n
  ret : ∀ x ∈ s.ret, i64 x.v
  ctl : ∀ n ∈ s.ctl, i64 n
  words : ∀ x ∈ s.words, i64 x.code
  spots : ∀ x ∈ s.spots, i64 x.addr ∧ i64 x.at_
  out : by8 s.out
  regs : ∀ n ∈ [s.ip, s.here, s.at_, s.tok, s.in_, s.err], i64 n
structure DeTy (d : De) : Prop where
  mem : ∀ r ∈ d.mem, i64 r.at_ ∧ by8 r.b
  dk : i64 d.dk
  dt : ∀ n ∈ d.dt, i64 n
  rk : i64 d.rk
  rt : ∀ s ∈ d.rt, i64 s.v
  ck : i64 d.ck
  ct : ∀ n ∈ d.ct, i64 n
  wk : i64 d.wk
  wt : ∀ s ∈ d.wt, i64 s.code
  sk : i64 d.sk
  st : ∀ s ∈ d.st, i64 s.addr ∧ i64 s.at_
  out : i64 d.out
  regs : ∀ n ∈ [d.r0, d.r1, d.r2, d.r3, d.r4, d.r5], i64 n
def SloT : Ty := .agg [.int .i64, .bool]
def WorT : Ty := .agg [.str, .int .i64, .bool, .bool]
def SpoT : Ty := .agg [.int .i64, .int .i64]
def RnT : Ty := .agg [.int .i64, .sl (.int .u8)]
def StT : Ty := .agg [.sl (.int .u8), .sl (.int .i64), .sl SloT, .sl (.int .i64), .sl WorT, .sl SpoT, .sl (.int .u8), .int .i64, .int .i64, .int .i64, .int .i64, .int .i64, .int .i64, .bool, .bool]
def DeT : Ty := .agg [.sl RnT, .agg [.int .i64, .sl (.int .i64)], .agg [.int .i64, .sl SloT], .agg [.int .i64, .sl (.int .i64)], .agg [.int .i64, .sl WorT], .agg [.int .i64, .sl SpoT], .int .i64,
  .agg [.int .i64, .int .i64, .int .i64, .int .i64, .int .i64, .int .i64], .bool, .bool]
theorem list_of {α : Type} {T : Ty} {f : α → V} {P : α → Prop} (h : ∀ v, HasT T v → ∃ a, v = f a ∧ P a) {v : V} (hv : HasT (.sl T) v) : ∃ l : List α, v = .list (l.map f) false ∧ ∀ a ∈ l, P a := by
  obtain ⟨vs, rfl, hh⟩ := hv
  have : ∃ l : List α, vs = l.map f ∧ ∀ a ∈ l, P a := by
    induction vs with
    | nil => exact ⟨[], rfl, fun a h => by cases h⟩
    | cons v vs ih =>
      obtain ⟨l, rfl, hl⟩ := ih fun x hx => hh x (List.mem_cons_of_mem _ hx)
      obtain ⟨a, rfl, ha⟩ := h v (hh v (List.mem_cons_self ..))
      refine ⟨a :: l, rfl, fun x hx => ?_⟩
      rcases List.mem_cons.1 hx with rfl | hx
      · exact ha
      · exact hl x hx
  obtain ⟨l, rfl, hl⟩ := this
  exact ⟨l, rfl, hl⟩
theorem u8_of {v : V} (h : HasT (.int .u8) v) : ∃ n, v = V.int .u8 n ∧ (0 ≤ n ∧ n < 256) := by
  obtain ⟨n, rfl, h1, h2⟩ := h
  have h1 : 0 ≤ n := h1
  have h2 : n ≤ 255 := h2
  exact ⟨n, rfl, by omega⟩
theorem i64_of {v : V} (h : HasT (.int .i64) v) : ∃ n, v = V.int .i64 n ∧ i64 n := by
  obtain ⟨n, rfl, h1, h2⟩ := h
  exact ⟨n, rfl, h1, h2⟩
theorem slo_of {v : V} (h : HasT SloT v) : ∃ s, v = sloV s ∧ i64 s.v := by
  obtain ⟨l, rfl, v1, r1, rfl, h1, v2, r2, rfl, ⟨b, rfl⟩, rfl⟩ := h
  obtain ⟨n, rfl, h1'⟩ := i64_of h1
  exact ⟨⟨n, b⟩, rfl, h1'⟩
theorem wor_of {v : V} (h : HasT WorT v) : ∃ s, v = worV s ∧ i64 s.code := by
  obtain ⟨l, rfl, v0, r0, rfl, ⟨s, rfl⟩, v1, r1, rfl, h1, v2, r2, rfl, ⟨b, rfl⟩, v3, r3, rfl, ⟨c, rfl⟩, rfl⟩ := h
  obtain ⟨n, rfl, h1'⟩ := i64_of h1
  exact ⟨⟨s, n, b, c⟩, rfl, h1'⟩
theorem spo_of {v : V} (h : HasT SpoT v) : ∃ s, v = spoV s ∧ (i64 s.addr ∧ i64 s.at_) := by
  obtain ⟨l, rfl, v1, r1, rfl, h1, v2, r2, rfl, h2, rfl⟩ := h
  obtain ⟨n, rfl, h1'⟩ := i64_of h1
  obtain ⟨m, rfl, h2'⟩ := i64_of h2
  exact ⟨⟨n, m⟩, rfl, h1', h2'⟩
theorem by_of {v : V} (h : HasT (.sl (.int .u8)) v) : ∃ b, v = byV b ∧ by8 b := list_of (fun _ h => u8_of h) h
theorem in_of {v : V} (h : HasT (.sl (.int .i64)) v) : ∃ b, v = inV b ∧ ∀ n ∈ b, i64 n := list_of (fun _ h => i64_of h) h
theorem rn_of {v : V} (h : HasT RnT v) : ∃ s, v = runV s ∧ (i64 s.at_ ∧ by8 s.b) := by
  obtain ⟨l, rfl, v1, r1, rfl, h1, v2, r2, rfl, h2, rfl⟩ := h
  obtain ⟨n, rfl, h1'⟩ := i64_of h1
  obtain ⟨b, rfl, h2'⟩ := by_of h2
  exact ⟨⟨n, b⟩, rfl, h1', h2'⟩
theorem st_of {v : V} (h : HasT StT v) : ∃ s, v = stV s ∧ StTy s := by
  obtain ⟨l, rfl, v1, r1, rfl, h1, v2, r2, rfl, h2, v3, r3, rfl, h3, v4, r4, rfl, h4, v5, r5, rfl, h5, v6, r6, rfl, h6, v7, r7, rfl, h7, v8, r8, rfl, h8, v9, r9, rfl, h9, v10, r10, rfl, h10, v11, r11, rfl, h11, v12, r12, rfl, h12, v13, r13, rfl, h13, v14, r14, rfl, ⟨b1, rfl⟩, v15, r15, rfl, ⟨b2, rfl⟩, rfl⟩ := h
  obtain ⟨a1, rfl, h1'⟩ := by_of h1
  obtain ⟨a2, rfl, h2'⟩ := in_of h2
  obtain ⟨a3, rfl, h3'⟩ := list_of (fun _ h => slo_of h) h3
  obtain ⟨a4, rfl, h4'⟩ := in_of h4
  obtain ⟨a5, rfl, h5'⟩ := list_of (fun _ h => wor_of h) h5
  obtain ⟨a6, rfl, h6'⟩ := list_of (fun _ h => spo_of h) h6
  obtain ⟨a7, rfl, h7'⟩ := by_of h7
  obtain ⟨n8, rfl, h8'⟩ := i64_of h8
  obtain ⟨n9, rfl, h9'⟩ := i64_of h9
  obtain ⟨n10, rfl, h10'⟩ := i64_of h10
  obtain ⟨n11, rfl, h11'⟩ := i64_of h11
  obtain ⟨n12, rfl, h12'⟩ := i64_of h12
  obtain ⟨n13, rfl, h13'⟩ := i64_of h13
  refine ⟨⟨a1, a2, a3, a4, a5, a6, a7, n8, n9, n10, n11, n12, n13, b1, b2⟩, rfl, ⟨h1', h2', h3', h4', h5', h6', h7', ?_⟩⟩
  intro n hn
  simp only [List.mem_cons, List.not_mem_nil, or_false] at hn
  rcases hn with rfl | rfl | rfl | rfl | rfl | rfl <;> assumption
theorem de_of {v : V} (h : HasT DeT v) : ∃ d, v = deV d ∧ DeTy d := by
  obtain ⟨l, rfl, v1, r1, rfl, h1, v2, r2, rfl, ⟨l2, rfl, va, ra, rfl, ha, vb, rb, rfl, hb, rfl⟩, v3, r3, rfl, ⟨l3, rfl, vc, rc, rfl, hc, vd, rd, rfl, hd, rfl⟩, v4, r4, rfl, ⟨l4, rfl, ve, re, rfl, he, vf, rf, rfl, hf, rfl⟩,
    v5, r5, rfl, ⟨l5, rfl, vg, rg, rfl, hg, vh, rh, rfl, hh, rfl⟩, v6, r6, rfl, ⟨l6, rfl, vi, ri, rfl, hi, vj, rj, rfl, hj, rfl⟩, v7, r7, rfl, h7, v8, r8, rfl, ⟨l8, rfl, w0, q0, rfl, g0, w1, q1, rfl, g1, w2, q2, rfl, g2, w3, q3, rfl, g3, w4, q4, rfl, g4, w5, q5, rfl, g5, rfl⟩,
    v9, r9, rfl, ⟨b1, rfl⟩, v10, r10, rfl, ⟨b2, rfl⟩, rfl⟩ := h
  obtain ⟨a1, rfl, h1'⟩ := list_of (fun _ h => rn_of h) h1
  obtain ⟨n2, rfl, ha'⟩ := i64_of ha
  obtain ⟨a2, rfl, hb'⟩ := in_of hb
  obtain ⟨n3, rfl, hc'⟩ := i64_of hc
  obtain ⟨a3, rfl, hd'⟩ := list_of (fun _ h => slo_of h) hd
  obtain ⟨n4, rfl, he'⟩ := i64_of he
  obtain ⟨a4, rfl, hf'⟩ := in_of hf
  obtain ⟨n5, rfl, hg'⟩ := i64_of hg
  obtain ⟨a5, rfl, hh'⟩ := list_of (fun _ h => wor_of h) hh
  obtain ⟨n6, rfl, hi'⟩ := i64_of hi
  obtain ⟨a6, rfl, hj'⟩ := list_of (fun _ h => spo_of h) hj
  obtain ⟨n7, rfl, h7'⟩ := i64_of h7
  obtain ⟨m0, rfl, g0'⟩ := i64_of g0
  obtain ⟨m1, rfl, g1'⟩ := i64_of g1
  obtain ⟨m2, rfl, g2'⟩ := i64_of g2
  obtain ⟨m3, rfl, g3'⟩ := i64_of g3
  obtain ⟨m4, rfl, g4'⟩ := i64_of g4
  obtain ⟨m5, rfl, g5'⟩ := i64_of g5
  refine ⟨⟨a1, n2, a2, n3, a3, n4, a4, n5, a5, n6, a6, n7, m0, m1, m2, m3, m4, m5, b1, b2⟩, rfl, ⟨h1', ha', hb', hc', hd', he', hf', hg', hh', hi', hj', h7', ?_⟩⟩
  intro n hn
  simp only [List.mem_cons, List.not_mem_nil, or_false] at hn
  rcases hn with rfl | rfl | rfl | rfl | rfl | rfl <;> assumption
end Fz.D
set_option maxRecDepth 100000
namespace Fz.D
open Go
theorem awake_s : Comes p 8 [] (.bool true) := by
  obtain ⟨H, h⟩ := isTrue_ok awake_run
  exact ⟨rfl, rfl, rfl, 400, .bool true, H, h, .inr ⟨rfl, .bool true, H, rfl, rfl⟩⟩
theorem few_len {s : St} (h : fewB s = true) : s.mem.length ≤ 600 ∧ s.data.length ≤ 40 ∧ s.ret.length ≤ 40 ∧ s.ctl.length ≤ 200 ∧ s.words.length ≤ 40 ∧ s.spots.length ≤ 100 ∧ s.out.length ≤ 200 ∧ ∀ w ∈ s.words, w.name.size ≤ 60 := by
  unfold fewB at h
  simp only [Bool.and_eq_true, decide_eq_true_eq, List.all_eq_true] at h
  obtain ⟨h0, h1, h2, h3, h4, h5, h6, h7⟩ := h
  exact ⟨h1, h2, h3, h4, h5, h6, h7, fun w hw => h0 w (by rw [List.take_of_length_le (by omega)]; exact hw)⟩
theorem few_st {s : St} (h : fewB s = true) : StLen s := by
  obtain ⟨h1, h2, h3, h4, h5, h6, h7, _⟩ := few_len h
  constructor <;> omega
theorem rn_ok {a : List Int} (ha : by8 a) {s i : Nat} (hs : s ≤ a.length) : (0 ≤ (rn a s i).at_ ∧ (rn a s i).at_ ≤ a.length) ∧ (rn a s i).b.length ≤ a.length ∧ by8 (rn a s i).b := by
  refine ⟨⟨by simp [rn], by simp [rn]; omega⟩, ?_, fun x hx => ha x (List.mem_of_mem_drop (List.mem_of_mem_take hx))⟩
  simp [rn]; omega
theorem fin_ok {a b : List Int} (ha : by8 a) : ∀ i, i ≤ a.length → ∀ r ∈ fin a (G a b i) i, (0 ≤ r.at_ ∧ r.at_ ≤ a.length) ∧ r.b.length ≤ a.length ∧ by8 r.b
  | 0, _, r, hr => by simp [fin, G] at hr
  | i + 1, hi, r, hr => by
    have ih := fin_ok ha (b := b) i (by omega)
    have hle := G_le a b i
    by_cases h : gt a i = gt b i
    · rw [fin_same h] at hr; exact ih r hr
    · rw [fin_more h] at hr
      rcases List.mem_append.1 hr with hr | hr
      · exact ih r (by unfold fin; split <;> simp [hr])
      · rw [List.mem_singleton.1 hr]; exact rn_ok ha (by omega)
theorem runs_ok {a b : List Int} (ha : by8 a) : ∀ r ∈ runsF a b, (0 ≤ r.at_ ∧ r.at_ ≤ a.length) ∧ r.b.length ≤ a.length ∧ by8 r.b := fin_ok ha a.length (Nat.le_refl _)
theorem diff_ok {f t : St} (tf : StTy f) (hf : fewB f = true) (ht : fewB t = true) : DeOk (diffD f t) := by
  obtain ⟨f1, f2, f3, f4, f5, f6, f7, f8⟩ := few_len hf
  obtain ⟨t1, t2, t3, t4, t5, t6, t7, _⟩ := few_len ht
  have l1 := (shr_le (q := inQ) f.data t.data).1
  have l2 := (shr_le (q := sloQ) f.ret t.ret).1
  have l3 := (shr_le (q := inQ) f.ctl t.ctl).1
  have l4 := (shr_le (q := worQ) f.words t.words).1
  have l5 := (shr_le (q := spoQ) f.spots t.spots).1
  have ll : (runsF f.mem t.mem).length ≤ f.mem.length := fin_len _ _ _
  constructor
  · intro r hr
    have := runs_ok tf.mem r hr
    unfold i64
    omega
  · exact Nat.le_trans ll (by omega)
  · show i64 (shr inQ f.data t.data : Nat); unfold i64; omega
  · exact fun n hn => tf.data n (List.mem_of_mem_drop hn)
  · show (f.data.drop _).length ≤ _; simp; omega
  · show i64 (shr sloQ f.ret t.ret : Nat); unfold i64; omega
  · exact fun n hn => tf.ret n (List.mem_of_mem_drop hn)
  · show (f.ret.drop _).length ≤ _; simp; omega
  · show i64 (shr inQ f.ctl t.ctl : Nat); unfold i64; omega
  · exact fun n hn => tf.ctl n (List.mem_of_mem_drop hn)
  · show (f.ctl.drop _).length ≤ _; simp; omega
  · show i64 (shr worQ f.words t.words : Nat); unfold i64; omega
  · exact fun n hn => ⟨tf.words n (List.mem_of_mem_drop hn), by rw [nmB_len]; have := f8 n (List.mem_of_mem_drop hn); omega⟩
  · show (f.words.drop _).length ≤ _; simp; omega
  · show i64 (shr spoQ f.spots t.spots : Nat); unfold i64; omega
  · exact fun n hn => tf.spots n (List.mem_of_mem_drop hn)
  · show (f.spots.drop _).length ≤ _; simp; omega
  · show i64 ((t.out.length : Int) - f.out.length); unfold i64; omega
  · exact tf.regs
theorem diff_by {f t : St} (tf : StTy f) : ∀ r ∈ (diffD f t).mem, by8 r.b := fun r hr => (runs_ok tf.mem r hr).2.2
theorem stF (s : St) : V.agg (cellsOf (stV s)) = stV s := rfl
theorem deF (d : De) : V.agg (cellsOf (deV d)) = deV d := rfl
theorem law3 {f t : St} (tf : StTy f) (tt : StTy t) : Comes p 3 [stV f, stV t] (.bool true) := by
  have a := awake_s
  have c1 := few_s f
  have c2 := few_s t
  have c3 := near_s (f := f) (t := t) tf.out tt.out
  rw [← stF f] at c1
  rw [← stF t] at c2
  rw [← stF f, ← stF t] at c3
  simp only [stV.cells] at c1 c2 c3
  refine Comes_of w3 rfl rfl k3 ?_ ?_ ?_ ?_
  · simp
  · simp
  · simp
  · cases h1 : fewB f with
    | false => rw [h1] at c1; simp -dsimp [w3, wFix_by, isInl, call_by a, call_by c1]
    | true =>
      rw [h1] at c1
      cases h2 : fewB t with
      | false => rw [h2] at c2; simp -dsimp [w3, wFix_by, isInl, call_by a, call_by c1, call_by c2]
      | true =>
        rw [h2] at c2
        cases h3 : nearB f t with
        | false => rw [h3] at c3; simp -dsimp [w3, wFix_by, isInl, call_by a, call_by c1, call_by c2, call_by c3]
        | true =>
          rw [h3] at c3
          have hm : f.mem.length = t.mem.length := by
            unfold nearB at h3
            simp only [Bool.and_eq_true, decide_eq_true_eq] at h3
            exact h3.1
          have ok := diff_ok tf h1 h2
          have o8 := diff_by (t := t) tf
          have d1 := diff_s (few_st h1) (few_st h2) hm
          have d2 := refDiff_s (few_st h1) (few_st h2) hm
          have s1 := same18_self ok o8
          have p1 := put_s ok
          have p2 := refPut_s ok
          have e8 := all8 (by8_encD o8)
          rw [← stF f, ← stF t] at d1 d2
          simp only [stV.cells] at d1 d2
          generalize diffD f t = d at *
          rw [← deF d] at d1 d2 s1 p1 p2
          simp only [deV.cells] at d1 d2 s1 p1 p2
          simp -dsimp [w3, wFix_by, isInl, call_by a, call_by c1, call_by c2, call_by c3, call_by d1, quiet_by d2, quiet_by s1, quiet_by p1, quiet_by p2]
          simp -dsimp [byV, e8]
end Fz.D
set_option maxRecDepth 100000
namespace Fz.D
open Go Go.Proofs Go.Proofs.Ytnngbniomonabaa Go.ChangeShapes Go.WideShapes Go.ChangeAt Go.RowKit
/-- No loop over a function in it. -/
def nr (af : AFun) : Bool := !hasR af.code && match af.dfr with
  | some (pre, _, _, r) => pre.all (fun c => !hasR c) && !hasR r
  | none => true
theorem rOkF_of {q : AP} {af : AFun} (h : nr af = true) : rOkF q af := by
  unfold nr at h
  rw [Bool.and_eq_true, Bool.not_eq_true'] at h
  refine ⟨rOk_of _ h.1, fun x hx => ?_⟩
  obtain ⟨pre, a, b, r⟩ := x
  rw [hx] at h
  simp only [Bool.and_eq_true, List.all_eq_true, Bool.not_eq_true'] at h
  exact ⟨fun c hc => rOk_of _ (h.2.1 c hc), rOk_of _ h.2.2⟩
theorem tab_nr : tab.all (fun x => x.1 == 11 || nr x.2) = true := by kernel_rfl
theorem rng_ok (f : FuncId) (af : AFun) (h : p.fn f = some af) : rOkF p af := by
  by_cases hf : f = 11
  · subst hf
    have e : p.fn 11 = some w11.toA := rfl
    rw [e] at h
    cases h
    refine ⟨?_, fun x hx => by cases hx⟩
    simp only [WF.toA, w11, toA, rOk, true_and, and_true]
    exact ⟨bd110, rfl, rfl, rfl, rfl⟩
  · have := List.all_eq_true.1 tab_nr _ (lk_mem _ _ _ h)
    rw [Bool.or_eq_true] at this
    rcases this with h1 | h1
    · exact absurd (by simpa using h1) hf
    · exact rOkF_of h1
theorem apOk : APOk Try.prog p where
  mixed := by kernel_rfl
  fn f af h := tab_ok _ (lk_mem _ _ _ h)
  prim f g h := by cases h
  rng := rng_ok
  bods := bods_ok
theorem bulkOk : Bulk (fun {_} => Rows.uptoBulk) (fun {_} => Rows.uptoBulkAll) where
  lit b := by simp [Rows.uptoBulk]
  pos d := by
    cases d with
    | lit l => cases l <;> simp [Rows.uptoBulk]
    | _ => simp [Rows.uptoBulk]
  agg l := by simp [Rows.uptoBulk]
  slice l m := by simp [Rows.uptoBulk]
  nil := by simp [Rows.uptoBulkAll]
  cons d l := by simp [Rows.uptoBulkAll]
theorem own : ownKnob Try.prog.godebug = none := by kernel_rfl
theorem laidOut : laidOutB Try.prog = true := by kernel_rfl
theorem frz_bool {k : Nat} {u u' : V} {b : Bool} {H H' : List Ob} (h : freezeV k u H = some (u', H')) (hn : nrm u' = .bool b) : u = .bool b := by
  cases k with
  | zero => cases h
  | succ k =>
    have hu : ∀ x, nrm x = .bool b → x = .bool b := by
      intro x hx
      cases x <;> first | (rw [nr_bool] at hx; exact hx) | (simp [nrm] at hx)
    have := hu u' hn
    subst this
    cases u with
    | bool c => simp [freezeV] at h; rw [h.1]
    | own a b c d => exfalso; simp only [freezeV] at h; repeat' split at h
                     all_goals first | (cases h; done) | simp at h
    | mref a => exfalso; simp only [freezeV] at h; repeat' split at h
                all_goals first | (cases h; done) | simp at h
    | agg l => simp only [freezeV] at h; obtain ⟨x, _, h⟩ := Option.map_eq_some_iff.1 h; simp at h
    | tuple l => simp only [freezeV] at h; obtain ⟨x, _, h⟩ := Option.map_eq_some_iff.1 h; simp at h
    | _ => simp [freezeV] at h
theorem done {f : FuncId} {args : List V} (h : Comes p f args (.bool true)) (hi : p.inlY f = false) : ∃ n H', acall p n f args [] = some (.ret (.bool true), H') := by
  obtain ⟨_, _, _, n, u, H', h3, h4⟩ := h
  rcases h4 with ⟨h4, rfl⟩ | ⟨_, u', H'', h5, h6⟩
  · rw [hi] at h4; cases h4
  · exact ⟨n, H', by rw [h3, frz_bool h5 h6]⟩
end Fz.D
