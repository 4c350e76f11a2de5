import Derived.Test.YtagdmfgnnhlakaaGreatDoorFzRaBM2
import Derived.RecoverIn
import Derived.ProofKit
import Derived.OpenShut
import Derived.JoinedCond
import Derived.Carry
import Derived.Below
import Derived.IntWalk
import Derived.Laws.Externs
import Derived.Room.MakeNoZero
import Derived.Lib.Bytealg
import Derived.Shelf.Abstract
set_option linter.all false
set_option linter.unusedVariables false
set_option linter.unusedSimpArgs false
set_option linter.unnecessarySimpa false
namespace Fz
open Go
def rOk (p : AP) : ACode → Prop
  | .seq a b => rOk p a ∧ rOk p b
  | .cond _ a b => rOk p a ∧ rOk p b
  | .block _ b => rOk p b
  | .loop b => rOk p b
  | .fix _ b => rOk p b
  | .range k _ ps a b => ∃ ab, p.body k = some ab ∧ ps = ab.ps ∧ a = ab.assign ∧ b = ab.body
  | _ => True
theorem rOk_of {p : AP} : ∀ (ac : ACode), hasR ac = false → rOk p ac
  | .skip, _ | .region _ _, _ | .exit _, _ | .ret, _ => trivial
  | .seq a b, h => by simp only [hasR, Bool.or_eq_false_iff] at h; exact ⟨rOk_of a h.1, rOk_of b h.2⟩
  | .cond _ a b, h => by simp only [hasR, Bool.or_eq_false_iff] at h; exact ⟨rOk_of a h.1, rOk_of b h.2⟩
  | .block _ b, h => rOk_of b (by simpa only [hasR] using h)
  | .loop b, h => rOk_of b (by simpa only [hasR] using h)
  | .fix _ b, h => rOk_of b (by simpa only [hasR] using h)
  | .range _ _ _ _ _, h => by cases h
def rOkF (p : AP) (af : AFun) : Prop := rOk p af.code ∧ ∀ x, af.dfr = some x → (∀ c ∈ x.1, rOk p c) ∧ rOk p x.2.2.2
def lpOf (P : Program) (p : AP) : LpT := fun k r => ∃ ab nt, p.body k = some ab ∧ cCode P r.assign = some (erase ab.assign) ∧ cCode P r.body = some (erase ab.body) ∧ r.params.toList = ab.ps ∧
  dstsOk nt (erase ab.assign) = true ∧ dstsOk nt (erase ab.body) = true ∧ nt ≤ r.tmps.size ∧ ∀ t ∈ ab.ps, t < nt
structure APOk (P : Program) (p : AP) : Prop where
  mixed : P.follows .mixedOrders = true
  fn : ∀ f af, p.fn f = some af → cFun P f = some af.erase
  prim : ∀ f g, p.prim f = some g → ∀ args H v H', g args H = some (v, H') → ∀ (K : Kn) (β : Bi) (w : World) (cargs : Array Value), K.lp = lpOf P p → Inv K β H w → LR K β args cargs.toList → DoesOk P f cargs w (CallPost K β H w (.ret v) H')
  rng : ∀ f af, p.fn f = some af → rOkF p af
  bods : ∀ k ab, p.body k = some ab → hasR ab.assign = false ∧ hasR ab.body = false
theorem mapOpt_get {α β : Type} {f : α → Option β} : ∀ {l : List α} {m : List β}, mapOpt f l = some m → l.length = m.length ∧ ∀ (j : Nat) (b : β), m[j]? = some b → ∃ a, l[j]? = some a ∧ f a = some b
  | [], m, h => by simp [mapOpt] at h; subst h; exact ⟨rfl, fun j b hb => by simp at hb⟩
  | a :: l, m, h => by
    simp only [mapOpt] at h
    split at h <;> cases h
    rename_i x y hx hy
    obtain ⟨h1, h2⟩ := mapOpt_get hy
    refine ⟨by simp [h1], fun j b hb => ?_⟩
    cases j with
    | zero => simp at hb; subst hb; exact ⟨a, rfl, hx⟩
    | succ j => obtain ⟨q, hq, hq2⟩ := h2 j b (by simpa using hb); exact ⟨q, by simpa using hq, hq2⟩
def resF (tmps : Array Value) : ResultVar → Sem Value
  | .tmp t => pure (tmps.getD t Go.undef)
  | .cell b t => do loadVar t (← asAddr (tmps.getD b Go.undef))
theorem result_sound {P : Program} {K : Kn} {β : Bi} {H : List Ob} {w : World} {nt : Nat} {e : Env} {a : Act} (hI : Inv K β H w) (hE : ER K β nt e a) : ∀ {rs : List ResultVar} {qs : List (Nat × Option (Bool × Nat))} {vs : List V}, mapOpt (cRes P) rs = some qs → resultsV e H qs = some vs →
    ∃ cs : List Value, (rs.mapM (resF a.tmps)).run P w = .ok cs w ∧ LR K β vs cs
  | [], qs, vs, h1, h2 => by
    simp [mapOpt] at h1; subst h1
    simp [resultsV] at h2; subst h2
    exact ⟨[], rfl, .nil K β⟩
  | r :: rs, qs, vs, h1, h2 => by
    simp only [mapOpt] at h1
    split at h1 <;> cases h1
    rename_i q qs hq hqs
    simp only [resultsV] at h2
    split at h2 <;> cases h2
    rename_i v vs hv hvs
    obtain ⟨cs, g1, g2⟩ := result_sound hI hE hqs hvs
    have one : ∃ c, (resF a.tmps r).run P w = .ok c w ∧ VR K β v c := by
      cases r with
      | tmp t =>
        simp [cRes] at hq; subst hq
        simp [resultV] at hv; subst hv
        exact ⟨_, rfl, hE.val t⟩
      | cell b t =>
        simp only [cRes] at hq
        split at hq
        · rename_i g n hg hn
          split at hq <;> cases hq
          simp only [resultV] at hv
          split at hv
          · rename_i l hl
            obtain ⟨bb, oo, hc, p1, p2⟩ := loadVar_sound (P := P) hI (hE.val b) hl hg hn
            simp only [resF, hc]
            cases g with
            | true =>
              simp only [if_true, Option.some.injEq] at hv; subst hv
              obtain ⟨d, hd, hvd⟩ := p1 rfl
              exact ⟨d, by simp [asAddr, hd], hvd⟩
            | false =>
              simp only [Bool.false_eq_true, if_false] at hv
              split at hv <;> cases hv
              obtain ⟨d, hd, hvd⟩ := p2 rfl _ rfl
              exact ⟨d, by simp [asAddr, hd], hvd⟩
          · cases hv
        · cases hq
    obtain ⟨c, hc, hvc⟩ := one
    refine ⟨c :: cs, ?_, .cons hvc g2⟩
    simp only [List.mapM_cons, Sem.run_bind, Sem.run_pure]
    rw [hc]; simp only [Result.andThen_ok, g1]
theorem results_sound {P : Program} {K : Kn} {β : Bi} {H : List Ob} {w : World} {nt : Nat} {e : Env} {a : Act} (hI : Inv K β H w) (hE : ER K β nt e a) {fn : Func} {qs : List (Nat × Option (Bool × Nat))} {v : V} (h1 : mapOpt (cRes P) fn.results.toList = some qs) (h2 : resultOf e H qs = some v) :
    ∃ c, (results fn a.tmps).run P w = .ok c w ∧ VR K β v c := by
  unfold resultOf at h2
  have e1 : results fn a.tmps = (fn.results.mapM (resF a.tmps) >>= fun vs => pure (if h : vs.size = 1 then vs[0] else .tuple vs)) := by
    unfold results
    congr 1
  have run : ∀ {cs : List Value}, (fn.results.toList.mapM (resF a.tmps)).run P w = .ok cs w →
      (results fn a.tmps).run P w = .ok (if h : cs.toArray.size = 1 then cs.toArray[0] else .tuple cs.toArray) w := by
    intro cs h
    rw [e1, Sem.run_bind, Array.mapM_eq_mapM_toList, Sem.run_map, h]
    rfl
  split at h2
  · rename_i u hu
    cases h2
    obtain ⟨cs, g1, g2⟩ := result_sound hI hE h1 hu
    obtain ⟨c, r, rfl, g3, g4⟩ := g2.head
    have : r = [] := List.eq_nil_of_length_eq_zero g4.1.symm
    subst this
    exact ⟨c, by rw [run g1]; simp, g3⟩
  · rename_i l hne hl
    cases h2
    obtain ⟨cs, g1, g2⟩ := result_sound hI hE h1 hl
    refine ⟨.tuple cs.toArray, ?_, .tuple g2.arr.1 g2.arr.2⟩
    rw [run g1, dif_neg]
    intro hs
    have hs' : l.length = 1 := by rw [g2.1]; simpa using hs
    match l, hs' with
    | [u], _ => exact hne u rfl
  · cases h2
theorem stepR_scope {P : Program} {b : Frame} {a : Act} {k : List Item} {cs : List Frame} {w : World} {c : Code} : step P (lone (b.atR a (.code (.scope c) :: k)) cs w) = .next (lone (b.atR a (.code c :: .inScope c :: k)) cs w) :=
  step_lone_go (by simp [stepG, stepG.exec, Frame.atR])
theorem stepR_inScope {P : Program} {b : Frame} {a : Act} {k : List Item} {cs : List Frame} {w : World} {c : Code} : step P (lone (b.atR a (.inScope c :: k)) cs w) = .next (lone (b.atR a k) cs w) :=
  step_lone_go (by simp [stepG, stepG.exec, Frame.atR])
def noGoto (Q : Exit → Act → World → Prop) : Exit → Act → World → Prop
  | .goto _, _, _ => False
  | e, a, w => Q e a w
theorem wpIn_scope {F : Fence} {n : Nat} {P : Program} {Q : Exit → Act → World → Prop} {a : Act} {w : World} {c : Code} (h : c.wpIn F n P (noGoto Q) a w) : (Code.scope c).wpIn F n P Q a w := by
  intro b k cs hro hb hr
  obtain ⟨e, a₁, w₁, hq, harr⟩ := h b (.inScope c :: k) cs hro hb hr
  have h0 : StepsIn (Machine.fenced P F) P (lone (b.atR a (.code (.scope c) :: k)) cs w) (lone (b.atR a (.code c :: .inScope c :: k)) cs w) := .one (fenced_calm hb hr rfl) stepR_scope
  cases e with
  | normal => exact ⟨.normal, a₁, w₁, hq, StepsIn.trans h0 (StepsIn.trans harr (.one (fenced_calm hb hr rfl) stepR_inScope))⟩
  | exit id => exact ⟨.exit id, a₁, w₁, hq, .of_steps h0 ⟨fun k' hk => harr.1 k' (by simpa [exitTo] using hk), fun hr hk => harr.2 hr (by simpa [exitTo] using hk)⟩⟩
  | goto l => exact hq.elim
  | ret => exact ⟨.ret, a₁, w₁, hq, .of_steps h0 harr⟩
  | panic ch => exact ⟨.panic ch, a₁, w₁, hq, .of_steps h0 harr⟩
  | outgrown => exact ⟨.outgrown, a₁, w₁, hq, .of_steps h0 harr⟩
structure FunOk (P : Program) (f : FuncId) (af : AFun) (fn : Func) (c : Code) : Prop where
  get : P.funcs[f]? = some fn
  body : fn.body = some c
  res : mapOpt (cRes P) fn.results.toList = some af.results
  name : (fn.name == "runtime.NumGoroutine") = false
  nt : af.nt = fn.ntmps
inductive FunCode (P : Program) (c : Code) (af : AFun) : Prop
  | plain (hd : af.dfr = none) (hr : af.rcv = none) (hc : cCode P c = some af.code) (hs : dstsOk af.nt af.code = true)
  | dfr (pre : List Code) (id : Nat) (ops : Array Oper) (call : Call) (ty : TypeId) (rest : Code) (apre : List ACode) (reg : List AO) (clo : Opd) (arest : ACode) (hsp : splitD c = some (pre, id, ops, call, ty, rest)) (h1 : mapOpt (cCode P) pre = some apre)
      (h2 : cBare P ops ops.pop.toList = some reg) (h3 : cTarget call = some clo) (h4 : cCode P rest = some arest) (s1 : apre.all (dstsOk af.nt) = true) (s2 : dstsOk af.nt (.region reg false) = true) (s3 : dstsOk af.nt arest = true)
      (hd : af.dfr = some (apre, reg, clo, arest)) (hr : af.rcv = none)
  | rcv (t : Nat) (b : Code) (hsp : splitR c = some (t, b)) (hc : cCode P b = some af.code) (hs : dstsOk af.nt af.code = true) (ht : t < af.nt) (hd : af.dfr = none) (hr : af.rcv = some t)
theorem cFun_ok {P : Program} {f : FuncId} {af : AFun} (h : cFun P f = some af) : ∃ fn c, FunOk P f af fn c ∧ FunCode P c af := by
  unfold cFun at h
  split at h
  · cases h
  · rename_i fn hf
    split at h
    · cases h
    · rename_i c hb
      split at h
      · cases h
      · rename_i rs hr
        split at h
        · cases h
        · rename_i hcond
          simp only [Bool.or_eq_true, not_or] at hcond
          have hn : (fn.name == "runtime.NumGoroutine") = false := Bool.eq_false_iff.2 hcond.1
          split at h
          · rename_i code hc
            split at h <;> cases h
            exact ⟨fn, c, ⟨hf, hb, hr, hn, rfl⟩, .plain rfl rfl hc ‹_›⟩
          · split at h
            · rename_i pre id ops call ty rest hsp
              split at h
              · rename_i apre reg clo arest h1 h2 h3 h4
                split at h <;> cases h
                rename_i hs
                simp only [Bool.and_eq_true] at hs
                exact ⟨fn, c, ⟨hf, hb, hr, hn, rfl⟩, .dfr pre id ops call ty rest apre reg clo arest hsp h1 h2 h3 h4 hs.1.1 hs.1.2 hs.2 rfl rfl⟩
              · cases h
            · split at h
              · rename_i t b hsp
                split at h
                · rename_i code hc
                  split at h <;> cases h
                  rename_i hs
                  simp only [Bool.and_eq_true, decide_eq_true_eq] at hs
                  exact ⟨fn, c, ⟨hf, hb, hr, hn, rfl⟩, .rcv t b hsp hc hs.1 hs.2 rfl rfl⟩
                · cases h
              · cases h
theorem call_enter {P : Program} {f : FuncId} {af : AFun} {fn : Func} {c : Code} (h : FunOk P f af fn c) (cargs : Array Value) (w : World) : (callFunc f cargs).run P w = .ok (.enter f cargs) w := by
  have hn : ¬ fn.name = "runtime.NumGoroutine" := by simpa using h.name
  simp [callFunc, h.get, hn, h.body]
structure ExecOk (P : Program) (p : AP) (ex : ExecT) : Prop where
  code : ∀ (c : Code) (ac : ACode), cCode P c = some (erase ac) → rOk p ac → ∀ (nt : Nat), dstsOk nt (erase ac) = true → ∀ (e : Env) (H : List Ob) (x : X) (e' : Env) (H' : List Ob), ex ac e H = some (x, e', H') →
    ∀ (K : Kn) (β : Bi) (a : Act) (w : World), K.lp = lpOf P p → Inv K β H w → ER K β nt e a → ∀ Q : Exit → Act → World → Prop, (∀ ex a' w', PostM (hasR ac) K β H w nt x e' H' a.defers ex a' w' → Q ex a' w') →
    ∀ (ro : Option Nat) (bud : Nat), (hasR ac = true → ro = none) → c.wpIn (Fr ro) bud P Q a w
  reg : ∀ (ops : Array Oper) (l : List AO), (∀ (j : Nat) (ao : AO), l[j]? = some ao → ∃ o, ops[j]? = some o ∧ Made P ops o ao) → ∀ (nt : Nat), (∀ ao ∈ l, ∀ t, ao.dst = some t → t < nt) →
    ∀ (e : Env) (H : List Ob) (x : X) (e' : Env) (H' : List Ob), ex (.region l false) e H = some (x, e', H') →
    ∀ (K : Kn) (β : Bi) (a : Act) (w : World), K.lp = lpOf P p → Inv K β H w → ER K β nt e a → ∀ (Q : Exit → Act → World → Prop) (ro : Option Nat) (bud : Nat) (tl : List Nat),
    (∀ ex a' w', Post K β H w nt x e' H' a.defers ex a' w' → TlQ ro bud P ops Q tl ex a' w') → wpOpsIn (Fr ro) bud P ops Q (List.range' 0 l.length ++ tl) a w
theorem enter_ER {K : Kn} {β : Bi} {args : List V} {cargs : Array Value} (ha : LR K β args cargs.toList) {nt n : Nat} (hnt : nt = n) : ER K β nt (env0 args) { tmps := cargs ++ Array.replicate (n - cargs.size) Go.undef, defers := [] } := by
  refine ⟨by rw [hnt]; simp; omega, fun t => ?_⟩
  have hsz : args.length = cargs.size := by simpa using ha.1
  unfold env0
  by_cases ht : t < args.length
  · have h1 : args[t]? = some args[t] := List.getElem?_eq_getElem ht
    have h2 := ha.2 t _ h1
    have e1 : args.getD t uv = args[t] := by simp [List.getD, h1]
    rw [e1]
    have htc : t < cargs.size := by omega
    simpa [List.getD, htc, Array.getD_eq_getD_getElem?, Array.getElem?_append, ht] using h2
  · have e1 : args.getD t uv = uv := by simp [List.getD, ht]
    rw [e1]
    have : (cargs ++ Array.replicate (n - cargs.size) Go.undef).getD t Go.undef = Go.undef := by
      rw [Array.getD_eq_getD_getElem?, Array.getElem?_append, if_neg (by omega), Array.getElem?_replicate]
      split <;> rfl
    simp only [this]
    exact vr_uv K β
theorem finish_sound {P : Program} {F : Fence} {n : Nat} {b : Bool} {K : Kn} {β : Bi} {H H1 H' : List Ob} {w w' : World} {nt : Nat} {x : X} {e' : Env} {ex : Exit} {a' : Act} {af : AFun} {fn : Func} {r : CR} (hres : mapOpt (cRes P) fn.results.toList = some af.results)
    (h : finishF af (some (x, e', H1)) = some (r, H')) (hp : PostM b K β H w nt x e' H1 [] ex a' w') : bodyPostM F n P fn (CallPost K β H w r H') ex a' w' := by
  obtain ⟨K', β', q1, q2, q3, q4, Ds, -, d2, d3, d4⟩ := hp
  rw [List.append_nil] at d2
  have ends : ∀ v, resultOf e' H1 af.results = some v → LeavesInM F n P fn a'.tmps (CallPost K β H w (.ret v) H1) a'.defers .returning w' := by
    intro v hv
    have := leaves_marks (P := P) (F := F) (n := n) (fn := fn) (tmps := a'.tmps) (R := CallPost K β H w (.ret v) H1) (u := .returning) (by simp) (K := K') (β := β') (H := H1) (rest := []) (K0 := K) (β0 := β) (H0 := H) (w0 := w) (fun w2 i2 e2 => by
      obtain ⟨cv, hc, hvc⟩ := results_sound i2 q2 hres hv
      exact ⟨cv, hc, K', β', hvc, i2, e2⟩) Ds w' d3 d4 q3 q4
    rw [List.append_nil] at this
    rw [d2]; exact this
  cases x with
  | normal =>
    obtain ⟨v, hv, h⟩ := Option.map_eq_some_iff.1 h
    cases h
    cases ex <;> try exact q1.elim
    exact ends v hv
  | ret =>
    obtain ⟨v, hv, h⟩ := Option.map_eq_some_iff.1 h
    cases h
    cases ex <;> try exact q1.elim
    exact ends v hv
  | exit i => cases h
  | mayRet => cases h
  | panic v =>
    cases h
    cases ex <;> try exact q1.elim
    obtain ⟨cc, rfl, hvc⟩ := q1
    have := leaves_marks (P := P) (F := F) (n := n) (fn := fn) (tmps := a'.tmps) (R := CallPost K β H w (.panic v) H1) (u := .panicking [{ v := cc, recovered := false }]) (by simp) (K := K') (β := β') (H := H1) (rest := []) (K0 := K) (β0 := β) (H0 := H) (w0 := w)
      (fun w2 i2 e2 => ⟨K', β', ⟨cc, rfl, hvc⟩, i2, e2⟩) Ds w' d3 d4 q3 q4
    rw [List.append_nil] at this
    show LeavesInM F n P fn a'.tmps _ a'.defers _ w'
    rw [d2]; exact this
end Fz
namespace Fz
open Go
theorem finish_plain {P : Program} {K : Kn} {β : Bi} {H H1 H' : List Ob} {w w' : World} {nt : Nat} {x : X} {e' : Env} {ex : Exit} {a' : Act} {af : AFun} {fn : Func} {v : V} (hres : mapOpt (cRes P) fn.results.toList = some af.results)
    (h : finishF af (some (x, e', H1)) = some (.ret v, H')) (hp : PostM false K β H w nt x e' H1 [] ex a' w') :
    (ex = .normal ∨ ex = .ret) ∧ a'.defers = [] ∧ ∃ cv K' β', (results fn a'.tmps).run P w' = .ok cv w' ∧ Inv K' β' H' w' ∧ Ev K β H w K' β' H' w' := by
  obtain ⟨K', β', q1, q2, q3, q4, Ds, d1, d2, d3, d4⟩ := hp
  rw [d1 rfl] at d2
  cases x with
  | normal =>
    obtain ⟨u, hv, h⟩ := Option.map_eq_some_iff.1 h
    cases h
    cases ex <;> try exact q1.elim
    obtain ⟨cv, hc, _⟩ := results_sound q3 q2 hres hv
    exact ⟨.inl rfl, d2, cv, K', β', hc, q3, q4⟩
  | ret =>
    obtain ⟨u, hv, h⟩ := Option.map_eq_some_iff.1 h
    cases h
    cases ex <;> try exact q1.elim
    obtain ⟨cv, hc, _⟩ := results_sound q3 q2 hres hv
    exact ⟨.inr rfl, d2, cv, K', β', hc, q3, q4⟩
  | exit i => cases h
  | mayRet => cases h
  | panic v => cases h
theorem splitR_ok {c b : Code} {t : Nat} (h : splitR c = some (t, b)) : ∃ id o, c = .seq (.region id #[o] false) b ∧ isRecover o = some t := by
  unfold splitR at h
  split at h
  · rename_i id ops b'
    split at h
    · rename_i o ho
      obtain ⟨t', ht, h⟩ := Option.map_eq_some_iff.1 h
      cases h
      have : ops = #[o] := Array.ext' (by simpa using ho)
      subst this
      exact ⟨id, o, rfl, ht⟩
    · cases h
  · cases h
theorem isRecover_ok {P : Program} {o : Oper} {t : Nat} (h : isRecover o = some t) : o.guard = none ∧ o.dst = some t ∧ ∀ (ρ : Operand → Value) (w : World), (execOp ρ o).run P w = .ok .recover w := by
  unfold isRecover at h
  split at h
  · rename_i xs ats t' hop hg hd
    cases h
    exact ⟨hg, hd, fun ρ w => by simp [execOp, hop, resolve, invoke, builtin]⟩
  · cases h
def Going (K : Kn) (β : Bi) (pv : Option V) (u : FrameMode) : Prop := (pv = none ∧ u = .returning) ∨ ∃ v c, pv = some v ∧ VR K β v c ∧ u = .panicking [{ v := c, recovered := false }]
theorem callR_sound {P : Program} {p : AP} (hp : APOk P p) {ex : ExecT} (hex : ExecOk P p ex) {d : V} {pv : Option V} {H H' : List Ob} {b : Bool} (h : callR p ex d pv H = some (b, H')) {K : Kn} {β : Bi} {w : World} (hL : K.lp = lpOf P p) (hI : Inv K β H w)
    {dc : Value} (hd : VR K β d dc) {u : FrameMode} (hu : Going K β pv u) (n : Nat) :
    ∃ g cs ds, dc = .func (.func g) cs ds ∧ (callFunc g (cs ++ ds)).run P w = .ok (.enter g (cs ++ ds)) w ∧
      CallsDIn (Fr none) n P g (cs ++ ds) u w (fun e u' w' => ∃ c K' β', e = .returned c ∧ Inv K' β' H' w' ∧ Ev K β H w K' β' H' w' ∧ settle u' = if b || pv.isNone then .returning else u) := by
  unfold callR at h
  split at h
  case h_2 => cases h
  rename_i g first cap
  cases hd with
  | fn h1 h2 h3 h4 =>
    rename_i cs ds
    have ha : LR K β (first ++ cap) (cs ++ ds).toList := by
      have := (LR.of_arr h1 h2).append (LR.of_arr h3 h4)
      simpa using this
    split at h
    · cases h
    split at h
    case h_2 => cases h
    rename_i af hpr haf
    split at h
    case h_2 => cases h
    rename_i hdf hnoR
    obtain ⟨fn, c, hf, hcode⟩ := cFun_ok (hp.fn g af haf)
    have hnt : af.nt = fn.ntmps := hf.nt
    refine ⟨g, cs, ds, rfl, call_enter hf _ w, ?_⟩
    split at h
    · rename_i hrc
      obtain ⟨-, -, hc, hs⟩ : af.erase.dfr = none ∧ af.erase.rcv = none ∧ cCode P c = some af.erase.code ∧ dstsOk af.erase.nt af.erase.code = true := by
        cases hcode with
        | plain hd hr hc hs => exact ⟨hd, hr, hc, hs⟩
        | dfr pre id ops call ty rest apre reg clo arest hsp h1 h2 h3 h4 s1 s2 s3 hd hr => simp [AFun.erase, hdf] at hd
        | rcv t b hsp hc hs ht hd hr => simp [AFun.erase, hrc] at hr
      split at h
      · rename_i v H1 hfin
        cases h
        cases hx : ex af.code (env0 (first ++ cap)) H with
        | none => rw [hx] at hfin; cases hfin
        | some y =>
          obtain ⟨x, e', H2⟩ := y
          rw [hx] at hfin
          refine (callsDIn_of_wp (F := Fr none) (R := fun e w' => ∃ c K' β', e = .returned c ∧ Inv K' β' H' w' ∧ Ev K β H w K' β' H' w') hf.get hf.body trivial ?_).mono ?_
          · refine hex.code c af.code hc (rOk_of _ hnoR) af.nt hs _ H x e' H2 hx K β _ w hL hI (enter_ER ha hnt) _ ?_ none n (fun _ => rfl)
            intro ex' a' w' hpost
            rw [hnoR] at hpost
            obtain ⟨hor, hdef, cv, K', β', hc, i', e'⟩ := finish_plain hf.res hfin hpost
            rcases hor with rfl | rfl <;> exact ⟨hdef, cv, hc, cv, K', β', rfl, i', e'⟩
          · rintro e u' w' ⟨rfl, c', K', β', rfl, i', e'⟩
            refine ⟨c', K', β', rfl, i', e', ?_⟩
            rcases hu with ⟨rfl, rfl⟩ | ⟨v, cc, rfl, hv, rfl⟩ <;> simp [settle]
      · cases h
    · rename_i t hrc
      obtain ⟨b', hsp, hc, hs, ht⟩ : ∃ b', splitR c = some (t, b') ∧ cCode P b' = some af.erase.code ∧ dstsOk af.erase.nt af.erase.code = true ∧ t < af.nt := by
        cases hcode with
        | plain hd hr hc hs => simp [AFun.erase, hrc] at hr
        | dfr pre id ops call ty rest apre reg clo arest hsp h1 h2 h3 h4 s1 s2 s3 hd hr => simp [AFun.erase, hdf] at hd
        | rcv t' b' hsp hc hs ht hd hr =>
          simp [AFun.erase, hrc] at hr; subst hr
          exact ⟨b', hsp, hc, hs, ht⟩
      obtain ⟨id, o, rfl, hrec⟩ := splitR_ok hsp
      obtain ⟨hog, hod, hor⟩ := isRecover_ok (P := P) hrec
      split at h
      · rename_i v H1 hfin
        cases h
        cases hx : ex af.code (upd (env0 (first ++ cap)) t (pv.getD .niliface)) H with
        | none => rw [hx] at hfin; cases hfin
        | some y =>
          obtain ⟨x, e', H2⟩ := y
          rw [hx] at hfin
          refine callsDIn_of_wpSIn (F := Fr none) hf.get hf.body trivial fun c₀ cs' hc0 => ?_
          refine wpSIn_seq (wpSIn_region ?_)
          have hE := enter_ER ha hnt
          have run : ∀ (cv : Value) (st : List Frame), VR K β (pv.getD .niliface) cv → (∀ a' w', a'.defers = [] → (∃ cv K' β', (results fn a'.tmps).run P w' = .ok cv w' ∧ Inv K' β' H' w' ∧ Ev K β H w K' β' H' w') →
              ∀ ex', (ex' = .normal ∨ ex' = .ret) → bodyPostS P fn c₀ cs' (fun e u' w' => ∃ c K' β', e = .returned c ∧ Inv K' β' H' w' ∧ Ev K β H w K' β' H' w' ∧ settle u' = if pv.isSome || pv.isNone then .returning else u) ex' a' st w') →
              b'.wpSIn (Fr none) n P (bodyPostS P fn c₀ cs' (fun e u' w' => ∃ c K' β', e = .returned c ∧ Inv K' β' H' w' ∧ Ev K β H w K' β' H' w' ∧ settle u' = if pv.isSome || pv.isNone then .returning else u))
                (({ tmps := (cs ++ ds) ++ Array.replicate (fn.ntmps - (cs ++ ds).size) Go.undef, defers := [] } : Act).put (some t) cv) st w := by
            intro cv st hcv hend
            refine wpSIn_of_wpIn rfl (hex.code b' af.code hc (rOk_of _ hnoR) af.nt hs _ H x e' H2 hx K β _ w hL hI ?_ _ ?_ none n (fun _ => rfl))
            · exact hE.put (d := some t) (fun s hs => by cases hs; exact ht) hcv
            · intro ex' a' w' hpost
              rw [hnoR, put_defers] at hpost
              obtain ⟨hor, hdef, hrest⟩ := finish_plain hf.res hfin hpost
              exact hend a' w' hdef hrest ex' hor
          have hw : Region.wanted o (yielded #[o] (((cs ++ ds) ++ Array.replicate (fn.ntmps - (cs ++ ds).size) Go.undef))) = true := by simp [Region.wanted, hog]
          have hrg : List.range (#[o] : Array Oper).size = [0] := rfl
          rw [hrg]
          simp only [wpOpsSIn, List.getElem?_toArray, List.getElem?_cons_zero, hw, if_true, hor]
          refine ⟨fun _ _ => trivial, ?_⟩
          rcases hu with ⟨rfl, hu⟩ | ⟨v, cc, rfl, hv, hu⟩
          · have hre : recoverD (c₀ :: cs') = none := by simp [recoverD, hc0, hu]
            simp only [hre, hod]
            refine run _ _ .niliface fun a' w' hdef ⟨cv, K', β', h1, h2, h3⟩ ex' hor => ?_
            have key : a'.defers = [] ∧ ∃ u', c₀ :: cs' = { c₀ with mode := u' } :: cs' ∧ ∃ v, (results fn a'.tmps).run P w' = .ok v w' ∧ ∃ c K' β', Ending.returned v = .returned c ∧ Inv K' β' H' w' ∧ Ev K β H w K' β' H' w' ∧ settle u' = if (none : Option V).isSome || (none : Option V).isNone then .returning else u :=
              ⟨hdef, .returning, by rw [← hu, ← hc0], cv, h1, cv, K', β', rfl, h2, h3, by simp [settle]⟩
            rcases hor with rfl | rfl <;> exact key
          · have hre : recoverD (c₀ :: cs') = some (cc, { c₀ with mode := .panicking [{ v := cc, recovered := true }] } :: cs') := by simp [recoverD, hc0, hu]
            simp only [hre, hod]
            refine run _ _ hv fun a' w' hdef ⟨cv, K', β', h1, h2, h3⟩ ex' hor => ?_
            have key : a'.defers = [] ∧ ∃ u', ({ c₀ with mode := .panicking [{ v := cc, recovered := true }] } : Frame) :: cs' = { c₀ with mode := u' } :: cs' ∧ ∃ v', (results fn a'.tmps).run P w' = .ok v' w' ∧ ∃ c K' β', Ending.returned v' = .returned c ∧ Inv K' β' H' w' ∧ Ev K β H w K' β' H' w' ∧ settle u' = if (some v).isSome || (some v).isNone then .returning else u :=
              ⟨hdef, _, rfl, cv, h1, cv, K', β', rfl, h2, h3, by simp [settle]⟩
            rcases hor with rfl | rfl <;> exact key
      · cases h
theorem wpIn_mono' {F : Fence} {n : Nat} {P : Program} {Q Q' : Exit → Act → World → Prop} {a : Act} {w : World} {c : Code} (h : c.wpIn F n P Q a w) (hq : ∀ e a w, Q e a w → Q' e a w) : c.wpIn F n P Q' a w :=
  fun b k cs hro hb hr => let ⟨e, a', w', q, r⟩ := h b k cs hro hb hr; ⟨e, a', w', hq _ _ _ q, r⟩
def wpL (F : Fence) (n : Nat) (P : Program) (Q : Exit → Act → World → Prop) : List Code → (Act → World → Prop) → Act → World → Prop
  | [], nx, a, w => nx a w
  | c :: r, nx, a, w => c.wpIn F n P (Exit.then (wpL F n P Q r nx) Q) a w
theorem splitD_ok : ∀ {c : Code} {pre : List Code} {id : Nat} {ops : Array Oper} {call : Call} {ty : TypeId} {rest : Code}, splitD c = some (pre, id, ops, call, ty, rest) →
    (∃ o, ops.back? = some o ∧ o.op = .defer call ∧ o.guard = none ∧ o.dst = none) ∧
    ∀ {F : Fence} {n : Nat} {P : Program} {Q : Exit → Act → World → Prop} {a : Act} {w : World}, wpL F n P Q pre ((Code.region id ops false).wpIn F n P (Exit.then (rest.wpIn F n P Q) Q)) a w → c.wpIn F n P Q a w := by
  intro c
  induction c with
  | seq a r ih1 ih2 =>
    intro pre id ops call ty rest h
    simp only [splitD] at h
    split at h
    · rename_i p' x hx
      cases h
      obtain ⟨h1, h2⟩ := ih2 hx
      refine ⟨h1, fun hw => wpIn_seq (wpIn_mono' hw fun e a w hq => ?_)⟩
      cases e <;> first | exact h2 hq | exact hq
    · split at h
      · split at h
        · rename_i hb
          cases h
          exact ⟨⟨_, hb, rfl, rfl, rfl⟩, fun hw => wpIn_seq hw⟩
        · cases h
      · cases h
  | _ => intro pre id ops call ty rest h; simp [splitD] at h
theorem runL_sound {P : Program} {p : AP} {ex : ExecT} (hex : ExecOk P p ex) {nt : Nat} {x : X} {e' : Env} {H' : List Ob} {n : Nat} {Q : Exit → Act → World → Prop} {nx : Act → World → Prop} :
    ∀ (pre : List Code) (apre : List ACode), mapOpt (cCode P) pre = some (apre.map erase) → (∀ c ∈ apre, rOk p c) → (∀ c ∈ apre, dstsOk nt (erase c) = true) → ∀ (e : Env) (H : List Ob), runL ex apre e H = some (x, e', H') →
    ∀ (K : Kn) (β : Bi) (a : Act) (w : World), K.lp = lpOf P p → Inv K β H w → ER K β nt e a → (∀ ex a' w', PostM true K β H w nt x e' H' a.defers ex a' w' → Exit.then nx Q ex a' w') → wpL (Fr none) n P Q pre nx a w
  | [], apre, hm, _, _, e, H, h, K, β, a, w, hL, hI, hE, hQ => by
    simp [mapOpt] at hm
    have : apre = [] := by simpa using hm
    subst this
    simp [runL] at h
    obtain ⟨rfl, rfl, rfl⟩ := h
    exact hQ .normal a w ⟨K, β, trivial, hE, hI, .refl K β H w, .refl ..⟩
  | c :: pre, apre, hm, hro, hds, e, H, h, K, β, a, w, hL, hI, hE, hQ => by
    simp only [mapOpt] at hm
    split at hm
    case h_2 => cases hm
    rename_i y z hy hz
    have heq := (Option.some.inj hm).symm
    cases apre with
    | nil => simp at heq
    | cons ac apre =>
      simp only [List.map_cons, List.cons.injEq] at heq
      obtain ⟨rfl, rfl⟩ := heq
      simp only [runL] at h
      split at h
      · rename_i e1 H1 hx
        refine hex.code c ac hy (hro _ (by simp)) nt (hds _ (by simp)) e H _ e1 H1 hx K β a w hL hI hE _ ?_ none n (fun _ => rfl)
        rintro ex' a' w' ⟨K1, β1, q1, q2, q3, q4, q5⟩
        cases ex' <;> try exact q1.elim
        refine runL_sound hex pre apre hz (fun c hc => hro c (by simp [hc])) (fun c hc => hds c (by simp [hc])) e1 H1 h K1 β1 a' w' (q4.k.2.2.trans hL) q3 q2 fun ex'' a'' w'' hp => hQ _ _ _ ?_
        exact hp.after q4 q5 (by simp)
      · cases h
      · rename_i hne hne2
        refine hex.code c ac hy (hro _ (by simp)) nt (hds _ (by simp)) e H x e' H' h K β a w hL hI hE _ ?_ none n (fun _ => rfl)
        intro ex' a' w' hpost
        have hx : ex' ≠ .normal := by
          rintro rfl
          obtain ⟨K1, β1, q1, _⟩ := hpost
          cases x <;> try exact q1.elim
          · exact hne _ _ h
          · exact hne2 _ _ h
        have := hQ ex' a' w' (hpost.weak (by simp))
        cases ex' <;> first | exact absurd rfl hx | exact this
theorem deferF_sound {P : Program} {p : AP} (hp : APOk P p) {ex : ExecT} (hex : ExecOk P p ex) {af : AFun} {fn : Func} (hres : mapOpt (cRes P) fn.results.toList = some af.results) {dv : V} {x : X} {e' : Env} {H2 H' : List Ob} {r : CR}
    (h : deferF p ex af dv (some (x, e', H2)) = some (r, H')) {K K1 : Kn} {β β1 : Bi} {H H1 : List Ob} {w w1 : World} (hL : K.lp = lpOf P p) (e1 : Ev K β H w K1 β1 H1 w1) {d1 : List Deferred} (m1 : Marked true K1 β1 H1 w1 w.heap.size d1 [])
    {fv : Fn} {cs ds : Array Value} (hd : VR K1 β1 dv (.func fv cs ds)) {nt : Nat} {b : Bool} {ex' : Exit} {a' : Act} {w' : World} {n : Nat} (hp2 : PostM b K1 β1 H1 w1 nt x e' H2 ({ target := .fn fv ds, args := cs } :: d1) ex' a' w') :
    bodyPostM (Fr none) n P fn (CallPost K β H w r H') ex' a' w' := by
  obtain ⟨K2, β2, q1, q2, q3, q4, Es, -, g2, g3, g4⟩ := hp2
  obtain ⟨Ds, -, f2, f3, f4⟩ := m1
  rw [List.append_nil] at f2
  have core : ∀ (pv : Option V) (u : FrameMode), u ≠ .run → Going K2 β2 pv u → ∀ (bb : Bool) (H3 : List Ob), callR p ex dv pv H2 = some (bb, H3) →
      (∀ (w4 : World) (K4 : Kn) (β4 : Bi), Inv K4 β4 H3 w4 → Ev K β H w K4 β4 H3 w4 → K2.le K4 → (∀ i b, β2 i = some b → β4 i = some b) →
        LeavesIn (Fr none) n P fn a'.tmps (CallPost K β H w r H') [] (if bb || pv.isNone then .returning else u) w4) →
      LeavesInM (Fr none) n P fn a'.tmps (CallPost K β H w r H') a'.defers u w' := by
    intro pv u hu hg bb H3 hc hend
    rw [g2]
    refine leaves_marks hu (K0 := K1) (β0 := β1) (H0 := H1) (w0 := w1) (fun w2 i2 e2 => ?_) Es w' g3 g4 q3 q4
    obtain ⟨g, cs', ds', hdc, henter, hcall⟩ := callR_sound hp hex hc (e2.k.2.2.trans (e1.k.2.2.trans hL)) i2 (hd.mono e2.k e2.b) hg (n - 1)
    cases hdc
    refine ⟨hu, .inr ⟨fun h => Bool.noConfusion h, .func g, ds, g, cs ++ ds, rfl, henter, fun _ _ => trivial, hcall.mono ?_⟩⟩
    rintro e u' w3 ⟨c, K3, β3, rfl, i3, e3, hset⟩
    show LeavesInM (Fr none) n P fn a'.tmps _ d1 (settle u') w3
    rw [hset, f2]
    have hne : (if bb || pv.isNone then FrameMode.returning else u) ≠ .run := by split <;> simp_all
    have := leaves_marks hne (P := P) (F := Fr none) (n := n) (fn := fn) (tmps := a'.tmps) (R := CallPost K β H w r H') (K := K3) (β := β3) (H := H3) (rest := []) (K0 := K) (β0 := β) (H0 := H) (w0 := w)
      (fun w4 i4 e4 => hend w4 K3 β3 i4 e4 e3.k e3.b) Ds w3 f3 (fun D hD => ⟨(f4 D hD).1, ((f4 D hD).2.ev e2).ev e3⟩) i3 ((e1.trans e2).trans e3)
    rwa [List.append_nil] at this
  cases x with
  | normal =>
    simp only [deferF] at h
    cases ex' <;> try exact q1.elim
    split at h
    · rename_i bb H3 hc
      obtain ⟨v, hv, h⟩ := Option.map_eq_some_iff.1 h
      cases h
      refine core none .returning (by simp) (.inl ⟨rfl, rfl⟩) bb H' hc fun w4 K4 β4 i4 e4 hK hβ => ?_
      obtain ⟨cv, hc, hvc⟩ := results_sound i4 (q2.mono hK hβ) hres hv
      simp only [Option.isNone_none, Bool.or_true, if_true]
      exact ⟨cv, hc, K4, β4, hvc, i4, e4⟩
    · cases h
  | ret =>
    simp only [deferF] at h
    cases ex' <;> try exact q1.elim
    split at h
    · rename_i bb H3 hc
      obtain ⟨v, hv, h⟩ := Option.map_eq_some_iff.1 h
      cases h
      refine core none .returning (by simp) (.inl ⟨rfl, rfl⟩) bb H' hc fun w4 K4 β4 i4 e4 hK hβ => ?_
      obtain ⟨cv, hc, hvc⟩ := results_sound i4 (q2.mono hK hβ) hres hv
      simp only [Option.isNone_none, Bool.or_true, if_true]
      exact ⟨cv, hc, K4, β4, hvc, i4, e4⟩
    · cases h
  | exit i => simp [deferF] at h
  | mayRet => simp [deferF] at h
  | panic v =>
    simp only [deferF] at h
    cases ex' <;> try exact q1.elim
    obtain ⟨cc, rfl, hvc⟩ := q1
    split at h
    · rename_i H3 hc
      obtain ⟨v', hv, h⟩ := Option.map_eq_some_iff.1 h
      cases h
      refine core (some v) (.panicking [{ v := cc, recovered := false }]) (by simp) (.inr ⟨v, cc, rfl, hvc, rfl⟩) true H' hc fun w4 K4 β4 i4 e4 hK hβ => ?_
      obtain ⟨cv, hc, hvc⟩ := results_sound i4 (q2.mono hK hβ) hres hv
      simp only [Bool.true_or, if_true]
      exact ⟨cv, hc, K4, β4, hvc, i4, e4⟩
    · rename_i H3 hc
      cases h
      refine core (some v) (.panicking [{ v := cc, recovered := false }]) (by simp) (.inr ⟨v, cc, rfl, hvc, rfl⟩) false H' hc fun w4 K4 β4 i4 e4 hK hβ => ?_
      simp only [Option.isNone_some, Bool.or_false, Bool.false_eq_true, if_false]
      exact ⟨K4, β4, ⟨cc, rfl, hvc.mono hK hβ⟩, i4, e4⟩
    · cases h
theorem cTarget_ok {P : Program} {call : Call} {clo : Opd} (h : cTarget call = some clo) {K : Kn} {β : Bi} {nt : Nat} {e : Env} {a : Act} (hE : ER K β nt e a) :
    ∃ x, VR K β (evO e clo) (a.eval x) ∧ ∀ fv cs ds, a.eval x = .func fv cs ds → ∀ (ty : TypeId) (w : World), (resolve a.eval call ty).run P w = .ok { target := .fn fv ds, args := cs } w := by
  obtain ⟨callee, args, ats⟩ := call
  unfold cTarget at h
  split at h
  · rename_i f hc ha
    cases h
    simp only at hc ha
    have : args = #[] := Array.ext' (by simpa using ha)
    subst this; subst hc
    refine ⟨.func f, .fn rfl (fun i v h => by simp at h) rfl (fun i v h => by simp at h), fun fv cs ds hv ty w => ?_⟩
    simp [Act.eval] at hv
    obtain ⟨rfl, rfl, rfl⟩ := hv
    simp [resolve, Act.eval, Deferred.ofValue]
  · rename_i x hne hc ha
    simp only at hc ha
    have : args = #[] := Array.ext' (by simpa using ha)
    subst this; subst hc
    refine ⟨x, hE.opd h, fun fv cs ds hv ty w => ?_⟩
    simp [resolve, hv, Deferred.ofValue]
  · cases h
theorem callR_fn {p : AP} {ex : ExecT} {d : V} {pv : Option V} {H : List Ob} {y : Bool × List Ob} (h : callR p ex d pv H = some y) : ∃ g l m, d = .fn (.func g) l m := by
  unfold callR at h
  split at h
  · exact ⟨_, _, _, rfl⟩
  · cases h
theorem deferF_fn {p : AP} {ex : ExecT} {af : AFun} {d : V} {y : Option (X × Env × List Ob)} {z : CR × List Ob} (h : deferF p ex af d y = some z) : ∃ g l m, d = .fn (.func g) l m := by
  unfold deferF at h
  split at h
  · split at h
    · exact callR_fn ‹_›
    · cases h
  · split at h
    · exact callR_fn ‹_›
    · cases h
  · split at h
    · exact callR_fn ‹_›
    · exact callR_fn ‹_›
    · cases h
  · cases h
theorem runFn_sound {P : Program} {p : AP} (hp : APOk P p) {ex : ExecT} (hex : ExecOk P p ex) {f : FuncId} {af : AFun} (haf : p.fn f = some af) {args : List V} {H : List Ob} {r : CR} {H' : List Ob}
    (h : runFn p ex af args H = some (r, H')) {K : Kn} {β : Bi} {w : World} {cargs : Array Value} (hL : K.lp = lpOf P p) (hI : Inv K β H w) (ha : LR K β args cargs.toList) :
    (callFunc f cargs).run P w = .ok (.enter f cargs) w ∧ Calls P f cargs w (CallPost K β H w r H') := by
  obtain ⟨fn, c, hf, hcode⟩ := cFun_ok (hp.fn f af haf)
  obtain ⟨rk1, rk2⟩ := hp.rng f af haf
  have hnt : af.nt = fn.ntmps := hf.nt
  have hfr : mapOpt (cRes P) fn.results.toList = some af.results := hf.res
  refine ⟨call_enter hf cargs w, (callsIn_wide (n := 0)).1 (callsIn_of_wp_marks (F := Fr none) hf.get hf.body trivial ?_)⟩
  have hE := enter_ER ha hnt
  unfold runFn at h
  split at h
  · cases h
  rename_i hrc
  split at h
  · rename_i hdf
    obtain ⟨hc, hs⟩ : cCode P c = some af.erase.code ∧ dstsOk af.erase.nt af.erase.code = true := by
      cases hcode with
      | plain hd hr hc hs => exact ⟨hc, hs⟩
      | dfr pre id ops call ty rest apre reg clo arest hsp h1 h2 h3 h4 s1 s2 s3 hd hr => simp [AFun.erase, hdf] at hd
      | rcv t b hsp hc hs ht hd hr => simp [AFun.erase, hrc] at hr
    cases hx : ex af.code (env0 args) H with
    | none => rw [hx] at h; cases h
    | some y =>
      obtain ⟨x, e', H2⟩ := y
      rw [hx] at h
      exact hex.code c af.code hc rk1 af.nt hs _ H x e' H2 hx K β _ w hL hI hE _ (fun ex a' w' hp => finish_sound hfr h hp) none 0 (fun _ => rfl)
  · rename_i pre l clo rest hdf
    obtain ⟨rk3, rk4⟩ := rk2 _ hdf
    cases hcode with
    | plain hd hr hc hs => simp [AFun.erase, hdf] at hd
    | rcv t b hsp hc hs ht hd hr => simp [AFun.erase, hrc] at hr
    | dfr pre' id ops call ty rest' apre reg clo' arest hsp h1 h2 h3 h4 s1 s2 s3 hd hr =>
      simp only [AFun.erase, hdf, Option.map_some, Option.some.injEq, Prod.mk.injEq] at hd
      obtain ⟨rfl, rfl, rfl, rfl⟩ := hd
      obtain ⟨⟨o, ho1, ho2, ho3, ho4⟩, hwp⟩ := splitD_ok hsp
      refine hwp ?_
      cases hxl : runL ex pre (env0 args) H with
      | none => rw [hxl] at h; cases h
      | some y =>
        obtain ⟨x0, e0, H0⟩ := y
        rw [hxl] at h
        refine runL_sound (nt := af.nt) hex pre' pre h1 rk3 (fun c hc => List.all_eq_true.1 s1 _ (List.mem_map_of_mem hc)) _ H hxl K β _ w hL hI hE ?_
        intro ex0 a0 w0 hp0
        have other : (∀ e H, (x0, e, H) ≠ (X.normal, e0, H0)) → finishF af (some (x0, e0, H0)) = some (r, H') → Exit.then ((Code.region id ops false).wpIn (Fr none) 0 P (Exit.then (rest'.wpIn (Fr none) 0 P (bodyPostM (Fr none) 0 P fn (CallPost K β H w r H'))) (bodyPostM (Fr none) 0 P fn (CallPost K β H w r H'))))
            (bodyPostM (Fr none) 0 P fn (CallPost K β H w r H')) ex0 a0 w0 := by
          intro hne hfin
          have := finish_sound (F := Fr none) (n := 0) hfr hfin hp0
          cases ex0 with
          | normal =>
            obtain ⟨K1, β1, q1, _⟩ := hp0
            cases x0 <;> try exact q1.elim
            · exact absurd rfl (hne e0 H0)
            · cases hfin
          | _ => exact this
        cases x0 with
        | normal =>
          dsimp only at h
          obtain ⟨K0, β0, q1, q2, q3, q4, q5⟩ := hp0
          cases ex0 <;> try exact q1.elim
          show (Code.region id ops false).wpIn (Fr none) 0 P _ a0 w0
          refine wpIn_region ?_
          obtain ⟨lm, hlm, rfl⟩ := Option.map_eq_some_iff.1 h2
          obtain ⟨hlen, hget⟩ := mapOpt_get hlm
          have hsz : ops.size = lm.length + 1 := by
            have hb : ops.size ≠ 0 := by
              intro h0
              have : ops = #[] := Array.eq_empty_of_size_eq_zero h0
              subst this; simp at ho1
            rw [Array.length_toList, Array.size_pop] at hlen
            omega
          have hrg : List.range ops.size = List.range' 0 (lm.map AO.bare).length ++ [lm.length] := by
            rw [hsz, List.range_succ, List.length_map, List.range_eq_range']
          rw [hrg]
          cases hxr : ex (.region (lm.map AO.bare) false) e0 H0 with
          | none => rw [hxr] at h; cases h
          | some y =>
            obtain ⟨x1, e1, H1⟩ := y
            rw [hxr] at h
            refine hex.reg ops (lm.map AO.bare) (fun j ao hj => ?_) af.nt (fun ao hao t ht => ?_) e0 H0 x1 e1 H1 hxr K0 β0 a0 w0 (q4.k.2.2.trans hL) q3 q2 _ none 0 [lm.length] ?_
            · rw [List.getElem?_map] at hj
              obtain ⟨ao', hj', rfl⟩ := Option.map_eq_some_iff.1 hj
              obtain ⟨o', ho', hc⟩ := hget j ao' hj'
              refine ⟨o', ?_, made_bare hc⟩
              have hjl : j < ops.pop.size := by
                have := (List.getElem?_eq_some_iff.1 ho').1
                simpa using this
              rw [Array.getElem?_toList, Array.getElem?_pop] at ho'
              split at ho'
              · exact ho'
              · cases ho'
            · have := List.all_eq_true.1 (by simpa only [dstsOk] using s2 : (lm.map AO.bare).all _ = true) ao hao
              rw [ht] at this
              have h' : t < af.erase.nt := by simpa using this
              exact h'
            · intro ex1 a1 w1 hp1
              have hp1' : PostM true K β H w af.nt x1 e1 H1 [] ex1 a1 w1 := (hp1.marked (b := true)).after q4 q5 (by simp)
              cases x1 with
              | normal =>
                dsimp only at h
                obtain ⟨g, gl, gm, hclo⟩ := deferF_fn h
                obtain ⟨K1, β1, p1, p2, p3, p4, p5⟩ := hp1
                cases ex1 <;> try exact p1.elim
                show wpOpsIn (Fr none) 0 P ops _ [lm.length] a1 w1
                rw [wpOpsIn_cons]
                have ho : ops[lm.length]? = some o := by
                  rw [Array.back?_eq_getElem?] at ho1
                  rw [show lm.length = ops.size - 1 from by omega]; exact ho1
                unfold wpOpIn
                simp only [ho]
                rw [if_pos (by simp [Region.wanted, ho3])]
                refine ⟨fun _ _ => trivial, ?_⟩
                obtain ⟨xo, hv, hres⟩ := cTarget_ok (P := P) h3 p2
                rw [hclo] at hv
                generalize hcv : a1.eval xo = cv at hv
                have hv' := hv
                cases hv with
                | fn v1 v2 v3 v4 =>
                  rename_i cs ds
                  have hrun : (o.semAt none a1.eval).run P w1 = .ok (.defer { target := .fn (.func g) ds, args := cs }) w1 := by
                    rw [Oper.semAt_none]
                    simp [execOp, ho2, hres _ _ _ hcv]
                  rw [show (Fr none).round = none from rfl, hrun, Oper.uponIn_defer, ho4]
                  show rest'.wpIn (Fr none) 0 P _ ({ a1 with defers := { target := .fn (.func g) ds, args := cs } :: a1.defers } : Act) w1
                  cases hxs : ex rest e1 H1 with
                  | none => rw [hxs] at h; simp [deferF] at h
                  | some y =>
                    obtain ⟨x2, e2, H2⟩ := y
                    rw [hxs] at h
                    have m1 : Marked true K1 β1 H1 w1 w.heap.size a1.defers [] := by rw [p5]; exact q5.ev p4
                    refine hex.code rest' rest h4 rk4 af.nt s3 e1 H1 x2 e2 H2 hxs K1 β1 ({ a1 with defers := { target := .fn (.func g) ds, args := cs } :: a1.defers } : Act) w1 (p4.k.2.2.trans (q4.k.2.2.trans hL)) p3 ⟨p2.size, p2.val⟩ _ ?_ none 0 (fun _ => rfl)
                    intro ex2 a2 w2 hp2
                    exact deferF_sound hp hex hfr h hL (q4.trans p4) m1 (by rw [hclo]; exact hv') hp2
              | _ =>
                dsimp only at h
                have := finish_sound (F := Fr none) (n := 0) hfr h hp1'
                cases ex1 with
                | normal => obtain ⟨K1, β1, p1, _⟩ := hp1; first | exact p1.elim | cases h
                | _ => exact this
        | _ => exact other (by simp) h
end Fz
namespace Fz
open Go
theorem setPs_ER {K : Kn} {β : Bi} : ∀ (ps : List Nat) (vs : List V) (cs : List Value) (e : Env) (tm : Array Value), (∀ t, VR K β (e t) (tm.getD t Go.undef)) → LR K β vs cs → ps.length = vs.length → (∀ t ∈ ps, t < tm.size) →
    ((ps.zip cs).foldl (fun tmps (p : Nat × Value) => tmps.setIfInBounds p.1 p.2) tm).size = tm.size ∧ ∀ t, VR K β (setPs e ps vs t) (((ps.zip cs).foldl (fun tmps (p : Nat × Value) => tmps.setIfInBounds p.1 p.2) tm).getD t Go.undef)
  | [], vs, cs, e, tm, he, _, _, _ => by exact ⟨rfl, he⟩
  | s :: ps, [], cs, e, tm, _, _, hl, _ => by simp at hl
  | s :: ps, v :: vs, cs, e, tm, he, ha, hl, hlt => by
    obtain ⟨c, r, rfl, h1, h2⟩ := ha.head
    have hs : s < tm.size := hlt s (by simp)
    obtain ⟨g1, g2⟩ := setPs_ER ps vs r (upd e s v) (tm.setIfInBounds s c) (fun t => by
      by_cases et : t = s
      · subst et; simpa [upd, hs] using h1
      · have := he t
        simpa [upd, et, Array.getElem?_setIfInBounds, Ne.symm et] using this) h2 (by simpa using hl) (fun t ht => by simpa using hlt t (by simp [ht]))
    refine ⟨?_, fun t => ?_⟩
    · simp only [List.zip_cons_cons, List.foldl_cons]; rw [g1]; simp
    · simp only [List.zip_cons_cons, List.foldl_cons, setPs]; exact g2 t
theorem envT_VR {K : Kn} {β : Bi} {tm : Array Value} : ∀ (ts : List Nat) (l : List V), (∀ (i t : Nat) (v : V), ts[i]? = some t → l[i]? = some v → VR K β v (tm.getD t Go.undef)) → ∀ t, VR K β (envT ts l t) (tm.getD t Go.undef)
  | [], l, _, t => by simp only [envT]; exact .any _
  | s :: ts, [], _, t => by simp only [envT]; exact .any _
  | s :: ts, v :: l, h, t => by
    simp only [envT, upd]
    split
    · rename_i hs; subst hs; exact h 0 _ v rfl rfl
    · exact envT_VR ts l (fun i t' v' ht hv => h (i + 1) t' v' (by simpa using ht) (by simpa using hv)) t
theorem loop_put {P : Program} {p : AP} {K : Kn} {β : Bi} {H : List Ob} {w : World} (hL : K.lp = lpOf P p) (hI : Inv K β H w) {id k : Nat} {ts : List Nat} {l : List V} {st : LSt} (ho : H[id]? = some (.loop k ts l st)) {b : Nat} (hb : β id = some b) :
    ∃ r, w.heap[b]? = some (.loop r) ∧ stR st r ∧ K.fixed b = none ∧ ∀ (st' : LSt) (s : LoopState) (j : Option Code), stR st' { r with state := s, pending := j } →
      Inv K β (H.set id (.loop k ts l st')) (w.putObj b (.loop { r with state := s, pending := j })) ∧ Ev K β H w K β (H.set id (.loop k ts l st')) (w.putObj b (.loop { r with state := s, pending := j })) := by
  obtain ⟨b', r, h1, h2, h4, h5, h6, h7, h8⟩ := hI.obj id _ ho
  rw [hb] at h1; cases h1
  refine ⟨r, h4, h8, h2, fun st' s j hs => ?_⟩
  have hlt := heap_lt h4
  refine hI.putO ho rfl hb h2 (size_none hI h4 (by simp)) (fun x => putObj_get hlt x) (by simp) rfl rfl rfl ⟨b, _, hb, h2, World.putObj_heap_same hlt, ?_, h6, h7, hs⟩
  rw [hL] at h5 ⊢
  exact h5
theorem round_sound {P : Program} {p : AP} (hp : APOk P p) {ex : ExecT} (hex : ExecOk P p ex) {args : List V} {H : List Ob} {r : CR} {H' : List Ob} (h : roundW p ex args H = some (r, H')) {K : Kn} {β : Bi} {w : World} {cargs : Array Value}
    (hL : K.lp = lpOf P p) (hI : Inv K β H w) (ha : LR K β args cargs.toList) : DoesOk P YF cargs w (CallPost K β H w r H') := by
  unfold roundW at h
  split at h
  case h_2 => cases h
  rename_i id rest
  split at h
  case h_2 => cases h
  rename_i k ts l hob
  split at h
  case h_2 => cases h
  rename_i b hb
  split at h
  case isFalse => cases h
  rename_i hlen
  split at h
  case h_2 => cases h
  rename_i e1 H1 hx1
  split at h
  case h_2 => cases h
  rename_i k1 ts1 l1 hob1
  split at h
  case h_2 => cases h
  rename_i x e2 H2 hx2
  split at h
  case h_2 => cases h
  rename_i k2 ts2 l2 hob2
  obtain ⟨c, cr, hcr, hc, har⟩ := ha.head
  cases hc with
  | yld hβ =>
    rename_i bb
    obtain ⟨b', rr, g1, g2, g3, g4, g5, g6, g7⟩ := hI.obj id _ hob
    rw [hβ] at g1; cases g1
    have hlp : lpOf P p k rr := by rw [← hL]; exact g4
    obtain ⟨ab, nt, q1, q2, q3, q4, q5, q6, q7, q8⟩ := hlp
    rw [hb] at q1; cases q1
    obtain ⟨nr1, nr2⟩ := hp.bods k b hb
    have hs : cr.toArray.size = rr.params.size := by
      have h1 := har.1
      rw [← Array.length_toList (xs := rr.params), q4, ← hlen, h1]; simp
    have hrun : (callG YF cargs).run P w = .ok (.round bb rr.fn ((rr.params.zip cr.toArray).foldl (fun tmps (t, a) => tmps.setIfInBounds t a) rr.tmps) rr.assign rr.body) w := by
      simp only [callG, if_true, hcr]
      exact run_yield g3 hs
    refine .inr (.inr ⟨_, _, _, _, _, hrun, roundIn_of_wpIn (F := Fence.wide) trivial ?_⟩)
    have htm : (rr.params.zip cr.toArray).foldl (fun tmps (t, a) => tmps.setIfInBounds t a) rr.tmps = (b.ps.zip cr).foldl (fun tmps (p : Nat × Value) => tmps.setIfInBounds p.1 p.2) rr.tmps := by
      rw [← q4, ← Array.foldl_toList, Array.toList_zip]
    rw [htm]
    obtain ⟨z1, z2⟩ := setPs_ER b.ps rest cr (envT ts l) rr.tmps (envT_VR ts l g6) har hlen.symm (fun t ht => Nat.lt_of_lt_of_le (q8 t ht) q7)
    refine hex.code rr.assign b.assign q2 (rOk_of _ nr1) nt q5 _ H _ e1 H1 hx1 K β _ w hL hI ⟨by rw [z1]; exact q7, z2⟩ _ ?_ (some bb) 0 (fun h => by rw [nr1] at h; cases h)
    rintro ex1 a1 w1 ⟨K1, β1, p1, p2, p3, p4, -⟩
    cases ex1 <;> try exact p1.elim
    have hL1 : K1.lp = lpOf P p := p4.k.2.2.trans hL
    have hβ1 : β1 id = some bb := p4.b _ _ hβ
    obtain ⟨r1, m1, m2, m3, m4⟩ := loop_put hL1 p3 hob1 hβ1
    refine ⟨_, run_beginRound m1 m2.1, ?_⟩
    obtain ⟨i2, e2'⟩ := m4 .busy .busy r1.pending rfl
    refine hex.code rr.body b.body q3 (rOk_of _ nr2) nt q6 e1 _ x e2 H2 hx2 K1 β1 a1 _ hL1 i2 p2 _ ?_ (some bb) 0 (fun h => by rw [nr2] at h; cases h)
    rintro ex2 a2 w2 ⟨K2, β2, t1, t2, t3, t4, -⟩
    have hL2 : K2.lp = lpOf P p := t4.k.2.2.trans hL1
    obtain ⟨r2, n1, n2, n3, n4⟩ := loop_put hL2 t3 hob2 (t4.b _ _ hβ1)
    have fin : ∀ (jump : Option Code) (st : LSt), stR st { r2 with state := if jump.isNone then .ready else .done, pending := jump } →
        ∃ v w', (Instr.endRound bb jump).run P w2 = .ok v w' ∧ CallPost K β H w (.ret (.bool jump.isNone)) (H2.set id (.loop k2 ts2 l2 st)) (.returned v) w' := by
      intro jump st hst
      obtain ⟨i3, e3⟩ := n4 st _ jump hst
      exact ⟨_, _, run_endRound jump n1, K2, β2, .bool _, i3, ((p4.trans e2').trans t4).trans e3⟩
    cases x with
    | normal =>
      cases h
      cases ex2 <;> try exact t1.elim
      exact fin none .ready ⟨rfl, rfl⟩
    | ret =>
      cases h
      cases ex2 <;> try exact t1.elim
      exact fin (some .ret) (.done .ret) ⟨rfl, rfl⟩
    | exit i =>
      cases h
      cases ex2 <;> try exact t1.elim
      rename_i j
      have hij : i = j := t1
      subst hij
      exact fin (some (.exit i)) (.done (.exit i)) ⟨rfl, rfl⟩
    | panic v => cases h
    | mayRet => cases h
theorem callW_sound {P : Program} {p : AP} (hp : APOk P p) {ex : ExecT} (hex : ExecOk P p ex) : CallOk P (lpOf P p) (callW p ex) := by
  intro f args H r H' h K β w cargs hL hI ha
  unfold callW at h
  split at h
  · rename_i hf; subst hf
    exact round_sound hp hex h hL hI ha
  rename_i hf
  split at h
  · rename_i g hg
    obtain ⟨⟨v, G⟩, hv, h⟩ := Option.map_eq_some_iff.1 h
    cases h
    exact hp.prim f g hg args H v G hv K β w cargs hL hI ha
  · split at h
    · cases h
    · rename_i af haf
      obtain ⟨h1, h2⟩ := runFn_sound hp hex haf h hL hI ha
      exact .inr (.inl ⟨f, cargs, by rw [callG_fn hf]; exact h1, h2⟩)
def Enters (P : Program) : DoesT := fun f cargs w R => (callFunc f cargs).run P w = .ok (.enter f cargs) w ∧ Calls P f cargs w R
theorem callE_sound {P : Program} {p : AP} (hp : APOk P p) {ex : ExecT} (hex : ExecOk P p ex) : CallOkG (lpOf P p) (Enters P) (callE p ex) := by
  intro f args H r H' h K β w cargs hL hI ha
  unfold callE at h
  split at h
  · cases h
  split at h
  · cases h
  · split at h
    · cases h
    · rename_i af haf
      exact runFn_sound hp hex haf h hL hI ha
theorem range_sound {P : Program} {p : AP} (hp : APOk P p) {ex : ExecT} (hex : ExecOk P p ex) {g : Operand} {ps : Array Tmp} {asg bo : Code} {f : Opd} {ab : ABody} {k : Nat} (hg : cOpd g = some f) (hb : p.body k = some ab) (ha1 : cCode P asg = some (erase ab.assign)) (ha2 : cCode P bo = some (erase ab.body))
    (hps : ps.toList = ab.ps) {nt : Nat} (hd1 : dstsOk nt (erase ab.assign) = true) (hd2 : dstsOk nt (erase ab.body) = true) (hd3 : ∀ t ∈ ab.ps, t < nt) {e : Env} {H : List Ob} {gf : FuncId} {first cap : List V} (hf : evO e f = .fn (.func gf) first cap)
    {x : X} {e' : Env} {H' : List Ob} (h : endRange H.length e (doCall (callE p ex) (fun _ => true) gf (first ++ [.yld H.length] ++ cap) (H ++ [.loop k ab.keep (ab.keep.map e) .ready])) = some (x, e', H'))
    {K : Kn} {β : Bi} {a : Act} {w : World} (hL : K.lp = lpOf P p) (hI : Inv K β H w) (hE : ER K β nt e a) {Q : Exit → Act → World → Prop} (hQ : ∀ ex a' w', PostM true K β H w nt x e' H' a.defers ex a' w' → Q ex a' w') (bud : Nat) :
    (Code.rangeFunc g ps asg bo).wpIn (Fr none) bud P Q a w := by
  refine wpIn_rangeFunc fun fn _ => ?_
  have hv := hE.opd hg
  rw [hf] at hv
  generalize hcg : a.eval g = cg at hv
  cases hv with
  | fn v1 v2 v3 v4 =>
    rename_i cs ds
    let rec0 : Loop := { state := .ready, pending := none, fn, tmps := a.tmps, params := ps, assign := asg, body := bo, defers := w.heap.size }
    let wa := w.alloc (.deferred (some []))
    let w1 := wa.alloc (.loop rec0)
    have hwa : wa.heap.size = w.heap.size + 1 := World.size_alloc ..
    obtain ⟨i1, e1⟩ := hI.junk (w' := wa) (x := .deferred (some [])) rfl rfl rfl rfl
    have hlp : K.lp k rec0 := by rw [hL]; exact ⟨ab, nt, hb, ha1, ha2, hps, hd1, hd2, hE.size, hd3⟩
    obtain ⟨b2, hβl, i2, e2⟩ := i1.newO (w' := w1) (ob := .loop k ab.keep (ab.keep.map e) .ready) (x := .loop rec0) rfl rfl rfl rfl
      ⟨wa.heap.size, rec0, by simp [setB], i1.fresh, World.alloc_heap_new .., hlp, by simp, fun i t v ht hv => by
        rw [List.getElem?_map, ht] at hv
        cases hv
        exact (hE.val t).mono (Kn.le_refl _) (setB_le i1.freshB), rfl, rfl⟩
    cases hdc : doCall (callE p ex) (fun _ => true) gf (first ++ [.yld H.length] ++ cap) (H ++ [.loop k ab.keep (ab.keep.map e) .ready]) with
    | none => rw [hdc] at h; cases h
    | some y =>
      obtain ⟨r, H2⟩ := y
      rw [hdc] at h
      have hargs : LR K (setB β H.length wa.heap.size) (first ++ [.yld H.length] ++ cap) (cs ++ #[Value.func (.yield wa.heap.size) #[] #[]] ++ ds).toList := by
        have l1 := (LR.of_arr v1 v2).mono (K' := K) (β' := setB β H.length wa.heap.size) (Kn.le_refl _) b2
        have l3 := (LR.of_arr v3 v4).mono (K' := K) (β' := setB β H.length wa.heap.size) (Kn.le_refl _) b2
        have := (l1.append (LR.single (.yld hβl))).append l3
        simpa using this
      obtain ⟨hen, hcalls⟩ := doCall_soundG (D := Enters P) (fun _ _ _ _ _ h hr => ⟨h.1, h.2.mono hr⟩) (callE_sound hp hex) hdc hL i2 hargs
      have hen1 : (Instr.enterLoop fn a.tmps ps asg bo (Fr none).round).run P w = .ok (wa.heap.size, [mark w.heap.size]) w1 := by
        rw [hwa]; exact run_enterLoop_outer ..
      refine ⟨wa.heap.size, [mark w.heap.size], w1, { target := .fn (.func gf) ds, args := cs ++ #[Value.func (.yield wa.heap.size) #[] #[]] }, w1, gf, _, w1, hen1, ?_, fun _ _ => trivial, hen, fun h => Bool.noConfusion h, callsIn_fr (hcalls.mono ?_)⟩
      · have hcc : a.eval (.const (.func (.yield wa.heap.size) #[] #[])) = .func (.yield wa.heap.size) #[] #[] := rfl
        simp [resolve, rangeCall, hcg, Deferred.ofValue, hcc]
      · rintro en w3 ⟨K3, β3, c3, i3, e3⟩
        unfold endRange at h
        split at h
        case h_2 => cases h
        rename_i v H3 heq
        cases heq
        cases en with
        | panicked chain => exact c3.elim
        | outgrown => exact c3.elim
        | returned cv =>
          have hβ3 : β3 H.length = some wa.heap.size := e3.b _ _ hβl
          have e13 := (e1.trans e2).trans e3
          -- whatever state: the end
          have fin : ∀ (k' : Nat) (ts : List Nat) (l : List V) (st : LSt), H2[H.length]? = some (.loop k' ts l st) → (∀ r, stR st r → r.state ≠ .busy) →
              ∃ r w4, w3.heap[wa.heap.size]? = some (.loop r) ∧ stR st r ∧ (Instr.endLoop wa.heap.size).run P w3 = .ok r.pending w4 ∧
                ∃ K4 β4, ER K4 β4 nt e { a with defers := [mark w.heap.size] ++ a.defers } ∧ Inv K4 β4 (H2.set H.length .dead) w4 ∧ Ev K β H w K4 β4 (H2.set H.length .dead) w4 ∧ Marked true K4 β4 (H2.set H.length .dead) w4 w.heap.size ([mark w.heap.size] ++ a.defers) a.defers := by
            intro k' ts l st ho hnb
            obtain ⟨b', r, g1, g2, g3, g4, g5, g6, g7⟩ := i3.obj _ _ ho
            rw [hβ3] at g1; cases g1
            have hlt := heap_lt g3
            obtain ⟨ik, ek⟩ := i3.kill H.length
            have hnl : ¬ liveB (H2.set H.length .dead) β3 wa.heap.size := by
              rintro ⟨i, ⟨o, ho', hl'⟩, hb'⟩
              by_cases ei : H.length = i
              · subst ei; rw [set_self ho] at ho'; cases ho'; cases hl'
              · rw [set_get ei] at ho'
                exact ei (i3.inj H.length i _ ⟨_, ho, rfl⟩ ⟨o, ho', hl'⟩ hβ3 hb')
            obtain ⟨i4, e4⟩ := ik.junkPut (w' := w3.putObj wa.heap.size (.loop { r with state := .exhausted })) hnl g2 (size_none i3 g3 (by simp)) (fun y => putObj_get hlt y) (by simp) rfl rfl rfl
            have e5 := e4 (e13.trans ek) (.inr (by omega))
            refine ⟨r, _, g3, g7, run_endLoop g3 (hnb r g7), K3, β3, ⟨hE.size, fun t => (hE.val t).mono e5.k e5.b⟩, i4, e5, [w.heap.size], by simp, rfl, by simp, ?_⟩
            intro D hD
            have hD' : D = w.heap.size := by simpa using hD
            subst hD'
            refine ⟨Nat.le_refl _, ?_⟩
            have m0 : Mk K (setB β H.length wa.heap.size) (H ++ [.loop k ab.keep (ab.keep.map e) .ready]) w1 w.heap.size := by
              refine ⟨?_, ?_, hI.fresh⟩
              · show (wa.heap.push (.loop rec0))[w.heap.size]? = _
                rw [push_get (by omega)]
                exact World.alloc_heap_new ..
              · intro hl
                rcases e2.live _ hl with hl | hl
                · obtain ⟨i, ⟨o, ho', hl'⟩, hb'⟩ := hl
                  obtain ⟨b'', z1, z2, _⟩ := (hI.obj i o ho').lt hl'
                  rw [hb'] at z1; cases z1; omega
                · omega
            have m3 := (m0.ev e3).ev ek
            exact ⟨by rw [World.putObj_heap_other (by omega)]; exact m3.there, m3.dead, m3.fix⟩
          split at h
          · rename_i ho
            cases h
            obtain ⟨r, w4, g3, g7, hend, K4, β4, f1, f2, f3, f4⟩ := fin _ _ _ _ ho (fun r hr => by rw [hr.1]; simp)
            refine ⟨_, w4, hend, ?_⟩
            rw [g7.2]
            exact hQ .normal _ w4 ⟨K4, β4, trivial, f1, f2, f3, f4⟩
          · rename_i i ho
            cases h
            obtain ⟨r, w4, g3, g7, hend, K4, β4, f1, f2, f3, f4⟩ := fin _ _ _ _ ho (fun r hr => by rw [hr.1]; simp)
            refine ⟨_, w4, hend, ?_⟩
            rw [g7.2]
            exact wpIn_exit (hQ (.exit i) _ w4 ⟨K4, β4, rfl, f1, f2, f3, f4⟩)
          · rename_i ho
            cases h
            obtain ⟨r, w4, g3, g7, hend, K4, β4, f1, f2, f3, f4⟩ := fin _ _ _ _ ho (fun r hr => by rw [hr.1]; simp)
            refine ⟨_, w4, hend, ?_⟩
            rw [g7.2]
            exact wpIn_ret (hQ .ret _ w4 ⟨K4, β4, trivial, f1, f2, f3, f4⟩)
          · cases h
def nofix : ACode → Bool
  | .fix _ _ => false
  | _ => true
theorem er_skip {ac : ACode} (h : erase ac = .skip) (hn : nofix ac = true) : ac = .skip := by
  cases ac <;> simp [erase, nofix] at h hn ⊢
theorem er_ret {ac : ACode} (h : erase ac = .ret) (hn : nofix ac = true) : ac = .ret := by
  cases ac <;> simp [erase, nofix] at h hn ⊢
theorem er_exit {ac : ACode} {i : Nat} (h : erase ac = .exit i) (hn : nofix ac = true) : ac = .exit i := by
  cases ac <;> simp [erase, nofix] at h hn ⊢
  exact h
theorem er_region {ac : ACode} {l : List AO} {d : Bool} (h : erase ac = .region l d) (hn : nofix ac = true) : ac = .region l d := by
  cases ac <;> simp [erase, nofix] at h hn ⊢
  exact h
theorem er_seq {ac x y : ACode} (h : erase ac = .seq x y) (hn : nofix ac = true) : ∃ a b, ac = .seq a b ∧ erase a = x ∧ erase b = y := by
  cases ac <;> simp only [erase, nofix, reduceCtorEq] at h hn
  cases h; exact ⟨_, _, rfl, rfl, rfl⟩
theorem er_cond {ac x y : ACode} {c : Opd} (h : erase ac = .cond c x y) (hn : nofix ac = true) : ∃ a b, ac = .cond c a b ∧ erase a = x ∧ erase b = y := by
  cases ac <;> simp only [erase, nofix, reduceCtorEq] at h hn
  cases h; exact ⟨_, _, rfl, rfl, rfl⟩
theorem er_block {ac x : ACode} {i : Nat} (h : erase ac = .block i x) (hn : nofix ac = true) : ∃ a, ac = .block i a ∧ erase a = x := by
  cases ac <;> simp only [erase, nofix, reduceCtorEq] at h hn
  cases h; exact ⟨_, rfl, rfl⟩
theorem er_loop {ac x : ACode} (h : erase ac = .loop x) (hn : nofix ac = true) : ∃ a, ac = .loop a ∧ erase a = x := by
  cases ac <;> simp [erase, nofix] at h hn ⊢
  exact h
theorem er_range {ac x y : ACode} {f : Opd} {ps : List Nat} (h : erase ac = .range 0 f ps x y) (hn : nofix ac = true) : ∃ k a b, ac = .range k f ps a b ∧ erase a = x ∧ erase b = y := by
  cases ac <;> simp only [erase, nofix, reduceCtorEq] at h hn
  cases h; exact ⟨_, _, _, rfl, rfl, rfl⟩
theorem obEq_eq {a b : Ob} (h : obEq a b = true) : a = b := by
  cases a <;> cases b <;> simp only [obEq, Bool.false_eq_true, Bool.and_eq_true] at h
  · rw [veqL_eq _ _ h]
  · rw [veqL_eq _ _ h]
  · rfl
  · rw [veqL_eq _ _ h.1, veqL_eq _ _ h.2]
  · rename_i s i t j
    have h1 : s.data = t.data := by simpa using h.1
    have h2 : i = j := by simpa using h.2
    cases s; cases t; simp_all
theorem obsEq_eq : ∀ {x y : List Ob}, obsEq x y = true → x = y
  | [], [], _ => rfl
  | a :: x, b :: y, h => by
    simp only [obsEq, Bool.and_eq_true] at h
    rw [obEq_eq h.1, obsEq_eq h.2]
  | [], _ :: _, h => by cases h
  | _ :: _, [], h => by cases h
theorem xEq_eq {x y : X} (h : xEq x y = true) : x = y := by
  cases x <;> cases y <;> simp [xEq] at h <;> simp_all
theorem ER_join1 {e1 e2 : Env} {K : Kn} {β : Bi} {nt : Nat} {a : Act} (hE : ER K β nt e1 a) : ER K β nt (joinE e1 e2) a := ⟨hE.size, fun t => by
  unfold joinE
  split
  · exact hE.val t
  · exact .any _⟩
theorem ER_join2 {e1 e2 : Env} {K : Kn} {β : Bi} {nt : Nat} {a : Act} (hE : ER K β nt e2 a) : ER K β nt (joinE e1 e2) a := ⟨hE.size, fun t => by
  unfold joinE
  split
  · rename_i hv; rw [veq_eq _ _ hv]; exact hE.val t
  · exact .any _⟩
theorem joinR_ok {r1 r2 : Option (X × Env × List Ob)} {x : X} {e' : Env} {H' : List Ob} (h : joinR r1 r2 = some (x, e', H')) :
    ∃ x1 x2 e1 e2, r1 = some (x1, e1, H') ∧ r2 = some (x2, e2, H') ∧ (x1 = x ∧ x2 = x ∨ x = .mayRet ∧ (x1 = .ret ∧ x2 = .normal ∨ x1 = .normal ∧ x2 = .ret)) ∧ (∀ {K : Kn} {β : Bi} {nt : Nat} {a : Act}, ER K β nt e1 a → ER K β nt e' a) ∧ ∀ {K : Kn} {β : Bi} {nt : Nat} {a : Act}, ER K β nt e2 a → ER K β nt e' a := by
  unfold joinR at h
  split at h
  case h_2 => cases h
  rename_i x1 e1 H1 x2 e2 H2
  split at h
  case isFalse => cases h
  rename_i hc
  obtain rfl := obsEq_eq hc
  have f1 : ∀ {K : Kn} {β : Bi} {nt : Nat} {a : Act}, ER K β nt e1 a → ER K β nt (joinE e1 e2) a := fun hE => ⟨hE.size, fun t => by
    unfold joinE
    split
    · exact hE.val t
    · exact .any _⟩
  have f2 : ∀ {K : Kn} {β : Bi} {nt : Nat} {a : Act}, ER K β nt e2 a → ER K β nt (joinE e1 e2) a := fun hE => ⟨hE.size, fun t => by
    unfold joinE
    split
    · rename_i hv; rw [veq_eq _ _ hv]; exact hE.val t
    · exact .any _⟩
  split at h
  · rename_i hx
    cases h
    obtain rfl := xEq_eq hx
    exact ⟨_, _, e1, e2, rfl, rfl, .inl ⟨rfl, rfl⟩, f1, f2⟩
  · split at h <;> cases h
    rename_i hx
    simp only [Bool.or_eq_true, Bool.and_eq_true] at hx
    rcases hx with ⟨h1, h2⟩ | ⟨h1, h2⟩
    · obtain rfl := xEq_eq h1; obtain rfl := xEq_eq h2
      exact ⟨_, _, e1, e2, rfl, rfl, .inr ⟨rfl, .inl ⟨rfl, rfl⟩⟩, f1, f2⟩
    · obtain rfl := xEq_eq h1; obtain rfl := xEq_eq h2
      exact ⟨_, _, e1, e2, rfl, rfl, .inr ⟨rfl, .inr ⟨rfl, rfl⟩⟩, f1, f2⟩
theorem XR_may {K : Kn} {β : Bi} {x y : X} {ex : Exit} (hx : y = x ∨ x = .mayRet ∧ (y = .ret ∨ y = .normal)) (h : XR K β y ex) : XR K β x ex := by
  rcases hx with rfl | ⟨rfl, rfl | rfl⟩
  · exact h
  · cases ex <;> first | exact h.elim | trivial
  · cases ex <;> first | exact h.elim | trivial
theorem exec_sound {P : Program} {p : AP} (hp : APOk P p) : ∀ n, ExecOk P p (exec p n) ∧
    (∀ (c : Code) (b : ACode), cCode P c = some (erase b) → rOk p b → ∀ (nt : Nat), dstsOk nt (erase b) = true → ∀ (e : Env) (H : List Ob) (x : X) (e' : Env) (H' : List Ob), exec p n (.loop b) e H = some (x, e', H') →
      ∀ (K : Kn) (β : Bi) (a : Act) (w : World), K.lp = lpOf P p → Inv K β H w → ER K β nt e a → ∀ Q : Exit → Act → World → Prop, (∀ ex a' w', PostM (hasR b) K β H w nt x e' H' a.defers ex a' w' → Q ex a' w') → ∀ (ro : Option Nat) (bud : Nat), (hasR b = true → ro = none) → Code.roundsIn (Fr ro) bud P c Q n a w) := by
  intro n
  induction n with
  | zero => exact ⟨⟨fun c ac _ _ nt _ e H x e' H' h => by simp [exec] at h, fun ops l _ nt _ e H x e' H' h => by simp [exec] at h⟩, fun c b _ _ nt _ e H x e' H' h => by simp [exec] at h⟩
  | succ n ih =>
    obtain ⟨ihE, ihR⟩ := ih
    have hcall : CallOk P (lpOf P p) (callW p (exec p n)) := callW_sound hp ihE
    have rnd : ∀ (c : Code) (b : ACode), cCode P c = some (erase b) → rOk p b → ∀ (nt : Nat), dstsOk nt (erase b) = true → ∀ (e : Env) (H : List Ob) (x : X) (e' : Env) (H' : List Ob), exec p (n + 1) (.loop b) e H = some (x, e', H') →
        ∀ (K : Kn) (β : Bi) (a : Act) (w : World), K.lp = lpOf P p → Inv K β H w → ER K β nt e a → ∀ Q : Exit → Act → World → Prop, (∀ ex a' w', PostM (hasR b) K β H w nt x e' H' a.defers ex a' w' → Q ex a' w') → ∀ (ro : Option Nat) (bud : Nat), (hasR b = true → ro = none) → Code.roundsIn (Fr ro) bud P c Q (n + 1) a w := by
      intro c b hc hk nt hd e H x e' H' h K β a w hL hI hE Q hQ ro bud hro
      rw [roundsIn_succ]
      simp only [exec] at h
      split at h
      · rename_i e1 H1 hb
        refine ihE.code c b hc hk nt hd e H _ e1 H1 hb K β a w hL hI hE _ ?_ ro bud hro
        rintro ex a' w' ⟨K1, β1, q1, q2, q3, q4, q5⟩
        cases ex <;> try exact q1.elim
        exact ihR c b hc hk nt hd e1 H1 x e' H' h K1 β1 a' w' (q4.k.2.2.trans hL) q3 q2 Q (fun ex a'' w'' hp => hQ _ _ _ (hp.after q4 q5 (fun h => ⟨h, h⟩))) ro bud hro
      · cases h
      · rename_i hne hne2
        refine ihE.code c b hc hk nt hd e H x e' H' h K β a w hL hI hE _ ?_ ro bud hro
        intro ex a' w' hpost
        have hx : ex ≠ .normal := by
          rintro rfl
          obtain ⟨K1, β1, q1, _⟩ := hpost
          cases x <;> try exact q1.elim
          · exact hne _ _ h
          · exact hne2 _ _ h
        cases ex <;> first | exact absurd rfl hx | exact hQ _ _ _ hpost
    have hreg : ∀ (ops : Array Oper) (l : List AO), (∀ (j : Nat) (ao : AO), l[j]? = some ao → ∃ o, ops[j]? = some o ∧ Made P ops o ao) → ∀ (nt : Nat), (∀ ao ∈ l, ∀ t, ao.dst = some t → t < nt) →
        ∀ (e : Env) (H : List Ob) (x : X) (e' : Env) (H' : List Ob), exec p (n + 1) (.region l false) e H = some (x, e', H') →
        ∀ (K : Kn) (β : Bi) (a : Act) (w : World), K.lp = lpOf P p → Inv K β H w → ER K β nt e a → ∀ (Q : Exit → Act → World → Prop) (ro : Option Nat) (bud : Nat) (tl : List Nat),
        (∀ ex a' w', Post K β H w nt x e' H' a.defers ex a' w' → TlQ ro bud P ops Q tl ex a' w') → wpOpsIn (Fr ro) bud P ops Q (List.range' 0 l.length ++ tl) a w := by
      intro ops l hops nt hdst e H x e' H' h K β a w hL hI hE Q ro bud tl hQ
      simp only [exec] at h
      exact runOps_sound (ro := ro) (bud := bud) hcall l 0 (fun j ao hj => by rw [Nat.zero_add]; exact hops j ao hj) hdst e H (by simpa using h) K β a w hL hI hE tl hQ
    refine ⟨⟨?_, hreg⟩, rnd⟩
    suffices key : ∀ (c : Code) (ac : ACode), nofix ac = true → cCode P c = some (erase ac) → rOk p ac → ∀ (nt : Nat), dstsOk nt (erase ac) = true → ∀ (e : Env) (H : List Ob) (x : X) (e' : Env) (H' : List Ob), exec p (n + 1) ac e H = some (x, e', H') →
        ∀ (K : Kn) (β : Bi) (a : Act) (w : World), K.lp = lpOf P p → Inv K β H w → ER K β nt e a → ∀ Q : Exit → Act → World → Prop, (∀ ex a' w', PostM (hasR ac) K β H w nt x e' H' a.defers ex a' w' → Q ex a' w') → ∀ (ro : Option Nat) (bud : Nat), (hasR ac = true → ro = none) → c.wpIn (Fr ro) bud P Q a w by
      intro c ac hc hk nt hd e H x e' H' h K β a w hL hI hE Q hQ ro bud hro
      by_cases hn : nofix ac = true
      · exact key c ac hn hc hk nt hd e H x e' H' h K β a w hL hI hE Q hQ ro bud hro
      · cases ac with
        | fix t b =>
          cases t with
          | some t =>
            rw [exec] at h
            split at h
            · rename_i v H1 hf
              obtain ⟨K1, i1, e1, v1⟩ := freezeV_sound depthF (e t) H v H1 hf K _ hI (hE.val t)
              have hE1 : ER K1 β nt (upd e t v) a := by
                refine ⟨hE.size, fun s => ?_⟩
                unfold upd
                split
                · rename_i hs; subst hs; exact v1
                · exact (hE.val s).mono e1.k fun _ _ h => h
              exact ihE.code c b hc hk nt hd _ H1 x e' H' h K1 β a w (e1.k.2.2.trans hL) i1 hE1 Q (fun ex a' w' hp => hQ _ _ _ (hp.after e1 (.refl false ..) (fun h => ⟨rfl, h⟩))) ro bud hro
            · cases h
          | none =>
            rw [exec] at h
            split at h
            · rename_i H1 hf
              obtain ⟨K1, i1, e1⟩ := freezeObs_sound hI H 0 H H1 hf (fun j o hj => by rw [Nat.zero_add]; exact hj) K (Kn.le_refl _) hI
              exact ihE.code c b hc hk nt hd _ H1 x e' H' h K1 β a w (e1.k.2.2.trans hL) i1 (hE.mono e1.k fun _ _ h => h) Q (fun ex a' w' hp => hQ _ _ _ (hp.after e1 (.refl false ..) (fun h => ⟨rfl, h⟩))) ro bud hro
            · cases h
        | _ => exact absurd rfl hn
    intro c
    induction c with
    | skip =>
      intro ac hn hc hk nt hd e H x e' H' h K β a w hL hI hE Q hQ ro bud hro
      simp only [cCode, Option.some.injEq] at hc
      obtain rfl := er_skip hc.symm hn
      simp [exec] at h; obtain ⟨rfl, rfl, rfl⟩ := h
      exact wpIn_skip (hQ _ _ _ ⟨K, β, trivial, hE, hI, .refl K β H w, .refl ..⟩)
    | label l =>
      intro ac hn hc hk nt hd e H x e' H' h K β a w hL hI hE Q hQ ro bud hro
      simp only [cCode, Option.some.injEq] at hc
      obtain rfl := er_skip hc.symm hn
      simp [exec] at h; obtain ⟨rfl, rfl, rfl⟩ := h
      exact wpIn_label (hQ _ _ _ ⟨K, β, trivial, hE, hI, .refl K β H w, .refl ..⟩)
    | region id ops d =>
      intro ac hn hc hk nt hd e H x e' H' h K β a w hL hI hE Q hQ ro bud hro
      cases d with
      | true =>
        simp only [cCode] at hc
        split at hc
        case isFalse => cases hc
        obtain ⟨l, hl, hc⟩ := Option.map_eq_some_iff.1 hc
        obtain rfl := er_region hc.symm hn
        obtain ⟨hlen, hget⟩ := mapOpt_get hl
        have hops : ∀ (j : Nat) (ao : AO), l[j]? = some ao → ∃ o, ops[j]? = some o ∧ cOperL P ops o = some ao := fun j ao hj => by
          obtain ⟨o, ho, hc⟩ := hget j ao hj
          exact ⟨o, by simpa using ho, hc⟩
        have hdst : ∀ ao ∈ l, ∀ t, ao.dst = some t → t < nt := by
          intro ao hao t ht
          have := List.all_eq_true.1 (by simpa only [dstsOk, erase] using hd : l.all _ = true) ao hao
          rw [ht] at this; simpa using this
        simp only [exec] at h
        exact draw_sound hcall hp.mixed (by simpa using hlen.symm) hops hdst (by simpa using h) hL hI hE id fun ex a' w' hp => hQ _ _ _ hp.marked
      | false =>
        simp only [cCode] at hc
        obtain ⟨l, hl, hc⟩ := Option.map_eq_some_iff.1 hc
        obtain rfl := er_region hc.symm hn
        obtain ⟨hlen, hget⟩ := mapOpt_get hl
        have hops : ∀ (j : Nat) (ao : AO), l[j]? = some ao → ∃ o, ops[j]? = some o ∧ cOper P ops o = some ao := fun j ao hj => by
          obtain ⟨o, ho, hc⟩ := hget j ao hj
          exact ⟨o, by simpa using ho, hc⟩
        have hdst : ∀ ao ∈ l.map AO.bare, ∀ t, ao.dst = some t → t < nt := by
          intro ao hao t ht
          have := List.all_eq_true.1 (by simpa only [dstsOk, erase] using hd : (l.map AO.bare).all _ = true) ao hao
          rw [ht] at this; simpa using this
        refine wpIn_region ?_
        have := hreg ops (l.map AO.bare) (fun j ao hj => by
          rw [List.getElem?_map] at hj
          obtain ⟨ao', hj', rfl⟩ := Option.map_eq_some_iff.1 hj
          obtain ⟨o, ho, hc⟩ := hops j ao' hj'
          exact ⟨o, ho, made_bare hc⟩) nt hdst e H x e' H' h K β a w hL hI hE Q ro bud [] (fun ex a' w' hp => by
            have := hQ _ _ _ (hp.marked (b := hasR (.region (l.map AO.bare) false)))
            cases ex <;> exact this)
        rwa [List.append_nil, List.length_map, ← hlen, Array.length_toList, ← List.range_eq_range'] at this
    | seq c1 c2 ih1 ih2 =>
      intro ac hn hc hk nt hd e H x e' H' h K β a w hL hI hE Q hQ ro bud hro
      simp only [cCode] at hc
      split at hc
      case h_2 => cases hc
      rename_i c1' c2' h1 h2
      obtain ⟨b1, b2, rfl, rfl, rfl⟩ := er_seq (Option.some.inj hc).symm hn
      simp only [erase, dstsOk, Bool.and_eq_true] at hd
      simp only [exec] at h
      refine wpIn_seq ?_
      split at h
      · rename_i e1 H1 hb
        refine ihE.code c1 b1 h1 hk.1 nt hd.1 e H _ e1 H1 hb K β a w hL hI hE _ ?_ ro bud (fun h => hro (by simp [hasR, h]))
        rintro ex a' w' ⟨K1, β1, q1, q2, q3, q4, q5⟩
        cases ex <;> try exact q1.elim
        exact ihE.code c2 b2 h2 hk.2 nt hd.2 e1 H1 x e' H' h K1 β1 a' w' (q4.k.2.2.trans hL) q3 q2 Q (fun ex a'' w'' hp => hQ _ _ _ (hp.after q4 q5 (fun h => by simpa [hasR] using h))) ro bud (fun h => hro (by simp [hasR, h]))
      · rename_i e1 H1 hb
        split at h
        case h_2 => cases h
        rename_i e2 H2 hb2
        split at h <;> cases h
        rename_i hobs
        have hHH := obsEq_eq hobs
        subst hHH
        refine ihE.code c1 b1 h1 hk.1 nt hd.1 e H _ e1 _ hb K β a w hL hI hE _ ?_ ro bud (fun h => hro (by simp [hasR, h]))
        rintro ex a' w' ⟨K1, β1, q1, q2, q3, q4, q5⟩
        cases ex <;> try exact q1.elim
        · refine ihE.code c2 b2 h2 hk.2 nt hd.2 e1 _ _ e2 _ hb2 K1 β1 a' w' (q4.k.2.2.trans hL) q3 q2 Q (fun ex a'' w'' hp => ?_) ro bud (fun h => hro (by simp [hasR, h]))
          obtain ⟨K2, β2, p1, p2, p3, p4, p5⟩ := hp
          exact hQ _ _ _ (PostM.after (c := hasR b2) q4 q5 (fun h => by simpa [hasR] using h) ⟨K2, β2, p1, ER_join2 p2, p3, p4, p5⟩)
        · exact hQ .ret _ _ ⟨K1, β1, trivial, ER_join1 q2, q3, q4, q5.weak (fun h => by simp [hasR] at h; exact h.1)⟩
      · rename_i hne hne2
        refine ihE.code c1 b1 h1 hk.1 nt hd.1 e H x e' H' h K β a w hL hI hE _ ?_ ro bud (fun h => hro (by simp [hasR, h]))
        intro ex a' w' hpost
        have hx : ex ≠ .normal := by
          rintro rfl
          obtain ⟨K1, β1, q1, _⟩ := hpost
          cases x <;> try exact q1.elim
          · exact hne _ _ h
          · exact hne2 _ _ h
        cases ex <;> first | exact absurd rfl hx | exact hQ _ _ _ (hpost.weak (fun h => by simp [hasR] at h; exact h.1))
    | cond o c1 c2 ih1 ih2 =>
      intro ac hn hc hk nt hd e H x e' H' h K β a w hL hI hE Q hQ ro bud hro
      simp only [cCode] at hc
      split at hc
      case h_2 => cases hc
      rename_i y c1' c2' hy h1 h2
      obtain ⟨b1, b2, rfl, rfl, rfl⟩ := er_cond (Option.some.inj hc).symm hn
      simp only [erase, dstsOk, Bool.and_eq_true] at hd
      simp only [exec] at h
      have hv := hE.opd hy
      split at h
      · rename_i hb
        rw [hb] at hv
        generalize hcc : a.eval o = cc at hv
        cases hv
        exact wpIn_cond_true hcc (ihE.code c1 b1 h1 hk.1 nt hd.1 e H x e' H' h K β a w hL hI hE Q (fun ex a' w' hp => hQ _ _ _ (hp.weak (fun h => by simp [hasR] at h; exact h.1))) ro bud (fun h => hro (by simp [hasR, h])))
      · rename_i hb
        rw [hb] at hv
        generalize hcc : a.eval o = cc at hv
        cases hv
        exact wpIn_cond_false hcc (ihE.code c2 b2 h2 hk.2 nt hd.2 e H x e' H' h K β a w hL hI hE Q (fun ex a' w' hp => hQ _ _ _ (hp.weak (fun h => by simp [hasR] at h; exact h.2))) ro bud (fun h => hro (by simp [hasR, h])))
      · rename_i hb
        rw [hb] at hv
        generalize hcc : a.eval o = cc at hv
        obtain ⟨x1, x2, e1, e2, r1, r2, hxx, f1, f2⟩ := joinR_ok h
        have hx1 : x1 = x ∨ x = .mayRet ∧ (x1 = .ret ∨ x1 = .normal) := by
          rcases hxx with ⟨h1, _⟩ | ⟨h0, ⟨h1, _⟩ | ⟨h1, _⟩⟩
          · exact .inl h1
          · exact .inr ⟨h0, .inl h1⟩
          · exact .inr ⟨h0, .inr h1⟩
        have hx2 : x2 = x ∨ x = .mayRet ∧ (x2 = .ret ∨ x2 = .normal) := by
          rcases hxx with ⟨_, h1⟩ | ⟨h0, ⟨_, h1⟩ | ⟨_, h1⟩⟩
          · exact .inl h1
          · exact .inr ⟨h0, .inr h1⟩
          · exact .inr ⟨h0, .inl h1⟩
        cases hv with
        | anyb t =>
          cases t with
          | true =>
            exact wpIn_cond_true hcc (ihE.code c1 b1 h1 hk.1 nt hd.1 e H x1 e1 H' r1 K β a w hL hI hE Q (fun ex a' w' hp => hQ _ _ _ (by
              obtain ⟨K1, β1, q1, q2, q3, q4, q5⟩ := hp
              exact ⟨K1, β1, XR_may hx1 q1, f1 q2, q3, q4, q5.weak (fun h => by simp [hasR] at h; exact h.1)⟩)) ro bud (fun h => hro (by simp [hasR, h])))
          | false =>
            exact wpIn_cond_false hcc (ihE.code c2 b2 h2 hk.2 nt hd.2 e H x2 e2 H' r2 K β a w hL hI hE Q (fun ex a' w' hp => hQ _ _ _ (by
              obtain ⟨K1, β1, q1, q2, q3, q4, q5⟩ := hp
              exact ⟨K1, β1, XR_may hx2 q1, f2 q2, q3, q4, q5.weak (fun h => by simp [hasR] at h; exact h.2)⟩)) ro bud (fun h => hro (by simp [hasR, h])))
      · cases h
    | block id c1 ih1 =>
      intro ac hn hc hk nt hd e H x e' H' h K β a w hL hI hE Q hQ ro bud hro
      simp only [cCode] at hc
      obtain ⟨c1', h1, hc⟩ := Option.map_eq_some_iff.1 hc
      obtain ⟨b1, rfl, rfl⟩ := er_block hc.symm hn
      simp only [exec] at h
      refine wpIn_block ?_
      have hd' : dstsOk nt (erase b1) = true := by simpa [erase, dstsOk] using hd
      split at h
      · rename_i i e1 H1 hb
        refine ihE.code c1 b1 h1 hk nt hd' e H _ e1 H1 hb K β a w hL hI hE _ ?_ ro bud hro
        rintro ex a' w' ⟨K1, β1, q1, q2, q3, q4, q5⟩
        cases ex <;> try exact q1.elim
        rename_i j
        have hij : i = j := q1
        subst hij
        simp only [Exit.inBlock]
        split at h <;> cases h
        · rename_i hi; rw [if_pos hi]; exact hQ _ _ _ ⟨K1, β1, trivial, q2, q3, q4, q5⟩
        · rename_i hi; rw [if_neg hi]; exact hQ _ _ _ ⟨K1, β1, rfl, q2, q3, q4, q5⟩
      · rename_i hne
        refine ihE.code c1 b1 h1 hk nt hd' e H x e' H' h K β a w hL hI hE _ ?_ ro bud hro
        intro ex a' w' hpost
        have hx : ∀ j, ex ≠ .exit j := by
          rintro j rfl
          obtain ⟨K1, β1, q1, _⟩ := hpost
          cases x <;> try exact q1.elim
          exact hne _ _ _ h
        cases ex <;> first | exact absurd rfl (hx _) | exact hQ _ _ _ hpost
    | loop c1 ih1 =>
      intro ac hn hc hk nt hd e H x e' H' h K β a w hL hI hE Q hQ ro bud hro
      simp only [cCode] at hc
      obtain ⟨c1', h1, hc⟩ := Option.map_eq_some_iff.1 hc
      obtain ⟨b1, rfl, rfl⟩ := er_loop hc.symm hn
      exact wpIn_loop_rounds (n + 1) (rnd c1 b1 h1 hk nt (by simpa [erase, dstsOk] using hd) e H x e' H' h K β a w hL hI hE Q hQ ro bud hro)
    | scope c1 ih1 =>
      intro ac hn hc hk nt hd e H x e' H' h K β a w hL hI hE Q hQ ro bud hro
      simp only [cCode] at hc
      refine wpIn_scope (ih1 ac hn hc hk nt hd e H x e' H' h K β a w hL hI hE _ ?_ ro bud hro)
      intro ex a' w' hpost
      cases ex with
      | goto l => obtain ⟨K1, β1, q1, _⟩ := hpost; cases x <;> exact q1.elim
      | _ => exact hQ _ _ _ hpost
    | exit id =>
      intro ac hn hc hk nt hd e H x e' H' h K β a w hL hI hE Q hQ ro bud hro
      simp only [cCode, Option.some.injEq] at hc
      obtain rfl := er_exit hc.symm hn
      simp [exec] at h; obtain ⟨rfl, rfl, rfl⟩ := h
      exact wpIn_exit (hQ _ _ _ ⟨K, β, rfl, hE, hI, .refl K β H w, .refl ..⟩)
    | ret =>
      intro ac hn hc hk nt hd e H x e' H' h K β a w hL hI hE Q hQ ro bud hro
      simp only [cCode, Option.some.injEq] at hc
      obtain rfl := er_ret hc.symm hn
      simp [exec] at h; obtain ⟨rfl, rfl, rfl⟩ := h
      exact wpIn_ret (hQ _ _ _ ⟨K, β, trivial, hE, hI, .refl K β H w, .refl ..⟩)
    | goto l => intro ac hn hc; cases hc
    | refuse s => intro ac hn hc; cases hc
    | rangeFunc g ps asg bo ih1 ih2 =>
      intro ac hn hc hk nt hd e H x e' H' h K β a w hL hI hE Q hQ ro bud hro
      simp only [cCode] at hc
      split at hc
      case h_2 => cases hc
      rename_i f' as' bo' hf h1 h2
      obtain ⟨k, a1, b1, rfl, rfl, rfl⟩ := er_range (Option.some.inj hc).symm hn
      obtain ⟨ab, hab, hps, rfl, rfl⟩ := hk
      obtain rfl := hro rfl
      simp only [erase, dstsOk, Bool.and_eq_true] at hd
      simp only [exec] at h
      split at h
      · rename_i b' gf first cap hb' hfv
        rw [hab] at hb'; cases hb'
        exact range_sound hp ihE hf hab h1 h2 hps hd.1.2 hd.2 (fun t ht => by have := List.all_eq_true.1 hd.1.1 t (by rw [hps]; exact ht); simpa using this) hfv h hL hI hE (fun ex a' w' hp => hQ _ _ _ hp) bud
      · cases h
theorem acall_calls {P : Program} {p : AP} (hp : APOk P p) (n : Nat) {f : FuncId} {args : List V} {H : List Ob} {r : CR} {H' : List Ob} (hpr : p.prim f = none) (hf : f ≠ YF)
    (h : acall p n f args H = some (r, H')) {K : Kn} {β : Bi} {w : World} {cargs : Array Value} (hL : K.lp = lpOf P p) (hI : Inv K β H w) (ha : LR K β args cargs.toList) :
    Calls P f cargs w (CallPost K β H w r H') := by
  unfold acall callW at h
  rw [if_neg hf, hpr] at h
  dsimp only at h
  split at h
  · cases h
  · rename_i af haf
    exact (runFn_sound hp (exec_sound hp n).1 haf h hL hI ha).2
theorem acall_sound {P : Program} {p : AP} (hp : APOk P p) (n : Nat) : CallOk P (lpOf P p) (acall p n) := callW_sound hp (exec_sound hp n).1
end Fz
namespace Fz
open Go Go.ChangeShapes Go.WideShapes Go.ChangeAt Go.RowKit
inductive Ty where
  | bool
  | int (k : IntKind)
  | float (k : FloatKind)
  | str
  | sl (e : Ty)
  | agg (l : List Ty)
mutual
def width : Ty → Nat
  | .agg l => widths l
  | _ => 1
def widths : List Ty → Nat
  | [] => 0
  | t :: l => width t + widths l
end
mutual
def HasT : Ty → V → Prop
  | .bool, v => ∃ b, v = .bool b
  | .int k, v => ∃ n, v = .int k n ∧ k.min ≤ n ∧ n ≤ k.max
  | .float k, v => ∃ n, v = .float k n ∧ (Lit.float k n).wf = true
  | .str, v => ∃ s, v = .str s
  | .sl e, v => ∃ l, v = .list l false ∧ ∀ x ∈ l, HasT e x
  | .agg ts, v => ∃ l, v = .agg (flat l) ∧ HasTs ts l
def HasTs : List Ty → List V → Prop
  | [], l => l = []
  | t :: ts, l => ∃ v r, l = v :: r ∧ HasT t v ∧ HasTs ts r
end
mutual
def bulk : V → Nat
  | .str s => s.size + 1
  | .list l _ => bulkL l + 1
  | .agg l => bulkL l + 1
  | _ => 1
def bulkL : List V → Nat
  | [] => 0
  | v :: l => bulk v + bulkL l
end
def fieldsOk (P : Program) : Nat → List Field → List Ty → Bool
  | _, [], [] => true
  | o, f :: fs, t :: ts => f.offset == o && P.cellsOf f.type == width t && fieldsOk P (o + width t) fs ts
  | _, _, _ => false
def tyOf (P : Program) : Nat → TypeId → Option Ty
  | 0, _ => none
  | d + 1, t => match P.underlying t with
    | some .bool => some .bool
    | some (.int k) => some (.int k)
    | some (.float k) => some (.float k)
    | some .string => some .str
    | some (.slice e) => match tyOf P d e with
      | some T => if P.cellsOf e = width T ∧ width T ≠ 0 then some (.sl T) else none
      | none => none
    | some (.struct fs) => match mapOpt (fun f => tyOf P d f.type) fs.toList with
      | some Ts => if fieldsOk P 0 fs.toList Ts = true ∧ P.cellsOf t = widths Ts then some (.agg Ts) else none
      | none => none
    | some (.array n e) => match tyOf P d e with
      | some T => if P.cellsOf e = width T ∧ P.cellsOf t = n * width T then some (.agg (List.replicate n T)) else none
      | none => none
    | _ => none
theorem widths_replicate (n : Nat) (T : Ty) : widths (List.replicate n T) = n * width T := by
  induction n with
  | zero => simp [widths]
  | succ n ih => rw [List.replicate_succ, widths, ih, Nat.succ_mul]; omega
theorem bulkL_append (a b : List V) : bulkL (a ++ b) = bulkL a + bulkL b := by
  induction a with
  | nil => simp [bulkL]
  | cons v l ih => simp only [List.cons_append, bulkL, ih]; omega
theorem bulk_cells (v : V) : bulkL (cellsOf v) ≤ bulk v := by
  cases v <;> simp [cellsOf, bulkL, bulk]
theorem bulk_flat (l : List V) : bulkL (flat l) ≤ bulkL l := by
  induction l with
  | nil => simp [flat, bulkL]
  | cons v l ih =>
    have e : flat (v :: l) = cellsOf v ++ flat l := by simp [flat]
    rw [e, bulkL_append, bulkL]
    have := bulk_cells v
    omega
structure Bulk (ub : {H : Type} → DataW H → Nat) (ubAll : {H : Type} → List (DataW H) → Nat) : Prop where
  lit : ∀ {H : Type} (b : List UInt8), ub (DataW.lit (H := H) (.string b)) = b.length + 1
  pos : ∀ {H : Type} (d : DataW H), 1 ≤ ub d
  agg : ∀ {H : Type} (l : List (DataW H)), ub (.agg l) = ubAll l + 1
  slice : ∀ {H : Type} (l m : List (DataW H)), ub (.slice l m) = ubAll l + ubAll m + 1
  nil : ∀ {H : Type}, ubAll ([] : List (DataW H)) = 0
  cons : ∀ {H : Type} (d : DataW H) (l : List (DataW H)), ubAll (d :: l) = ub d + ubAll l
def GlobW (w : World) : Prop := GlobF fun b => w.heap[b]?
def Kall (L : Nat → Loop → Prop) (w : World) (hg : GlobW w) : Kn := ⟨fun b => w.heap[b]?, fun b => match w.heap[b]? with | some (.cells cs _ _) => some cs.size | _ => none, L, hg⟩
theorem inv_all (L : Nat → Loop → Prop) (w : World) (hg : GlobW w) : Inv (Kall L w hg) (fun _ => none) [] w where
  fixed b o h := h
  size b z h := by
    unfold Kall at h
    dsimp only at h
    split at h
    · rename_i cs e fr hb
      exact ⟨cs, e, fr, hb, Option.some.inj h⟩
    · cases h
  dom _ _ h := by cases h
  obj id o h := by simp at h
  inj i j b _ _ h := by cases h
theorem cells_get {w : World} {base : Nat} {a : Addr} {n : Nat} {cs : List Value} (h : w.cells? base a n = some cs) :
    cs.length = n ∧ ∀ i, i < n → w.cell? (a.add i) = cs[i]? := by
  unfold World.cells? at h
  split at h
  · refine ⟨by simpa using mapM_some_length h, fun i hi => ?_⟩
    exact mapM_some_get h i i (by simp [hi])
  · cases h
theorem cell_block {w : World} {a : Addr} {v : Value} (h : w.cell? a = some v) : a.spot = none ∧ ∃ cs e fr, w.heap[a.block]? = some (.cells cs e fr) ∧ cs[a.off]? = some v := by
  unfold World.cell? at h
  split at h
  · rename_i c e fr hb
    split at h
    · cases h
    · rename_i hs
      exact ⟨by simpa using hs, c, e, fr, hb, h⟩
  · cases h
def CellsR (K : Kn) (β : Bi) (v : V) (cs : List Value) : Prop := (cellsOf v).length = cs.length ∧ ∀ i c, (cellsOf v)[i]? = some c → VR K β c (cs.getD i Go.undef)
theorem mapOpt_cons {α β : Type} {f : α → Option β} {a : α} {l : List α} {r : List β} (h : mapOpt f (a :: l) = some r) : ∃ b t, f a = some b ∧ mapOpt f l = some t ∧ r = b :: t := by
  unfold mapOpt at h
  split at h
  · rename_i x y hx hy; cases h; exact ⟨_, _, hx, hy, rfl⟩
  · cases h
theorem ubAll_le {ub : {H : Type} → DataW H → Nat} {ubAll : {H : Type} → List (DataW H) → Nat} (hu : Bulk ub ubAll) {H : Type} : ∀ (vs : List V) (ds : List (DataW H)), vs.length = ds.length →
    (∀ (i : Nat) (v : V) (d : DataW H), vs[i]? = some v → ds[i]? = some d → bulk v ≤ ub d) → bulkL vs ≤ ubAll ds
  | [], [], _, _ => by simp [bulkL, hu.nil]
  | v :: vs, d :: ds, hl, h => by
    rw [bulkL, hu.cons]
    have h1 := h 0 v d rfl rfl
    have h2 := ubAll_le hu vs ds (by simpa using hl) fun i v d hv hd => h (i + 1) v d (by simpa using hv) (by simpa using hd)
    omega
  | [], _ :: _, hl, _ => by simp at hl
  | _ :: _, [], hl, _ => by simp at hl
theorem flat_get {vs : List V} {n : Nat} (hn : ∀ v ∈ vs, (cellsOf v).length = n) : ∀ (i : Nat) (c : V), (flat vs)[i]? = some c → 0 < n ∧ ∃ v, vs[i / n]? = some v ∧ (cellsOf v)[i % n]? = some c := by
  induction vs with
  | nil => intro i c h; simp [flat] at h
  | cons a vs ih =>
    intro i c h
    have e : flat (a :: vs) = cellsOf a ++ flat vs := by simp [flat]
    have ha := hn a (List.mem_cons_self ..)
    rw [e] at h
    by_cases hi : i < n
    · rw [List.getElem?_append_left (by omega)] at h
      exact ⟨by omega, a, by rw [Nat.div_eq_of_lt hi]; rfl, by rw [Nat.mod_eq_of_lt hi]; exact h⟩
    · rw [List.getElem?_append_right (by omega), ha] at h
      obtain ⟨h0, v, h1, h2⟩ := ih (fun v hv => hn v (List.mem_cons_of_mem _ hv)) (i - n) c h
      refine ⟨h0, v, ?_, ?_⟩
      · have : i / n = (i - n) / n + 1 := by
          conv => lhs; rw [show i = (i - n) + n from by omega]
          exact Nat.add_div_right _ h0
        rw [this]; simpa using h1
      · rw [show i % n = (i - n) % n from (Nat.mod_eq_sub_mod (by omega))]; exact h2
theorem getD_drop_take {cs : List Value} {o n i : Nat} (h : i < n) : ((cs.drop o).take n).getD i Go.undef = cs.getD (o + i) Go.undef := by
  simp [List.getD_eq_getElem?_getD, List.getElem?_take, h, List.getElem?_drop]
section
variable {L : Nat → Loop → Prop} {ub : {H : Type} → DataW H → Nat} {ubAll : {H : Type} → List (DataW H) → Nat} {P : Program} {w : World} {hg : GlobW w} {H : Type} {enc : TypeId × Value → H} {sp : Nat → Bool} {held : Bool}
theorem fields_V {K : Kn} {β : Bi} (hu : Bulk ub ubAll) {cs : List Value} : ∀ (fs : List Field) (Ts : List Ty) (o : Nat) (xs : List (DataW H × List MemPlace)), fieldsOk P o fs Ts = true → xs.length = fs.length → cs.length = o + widths Ts →
    (∀ (i : Nat) (f : Field) (x : DataW H × List MemPlace) (T : Ty), fs[i]? = some f → xs[i]? = some x → Ts[i]? = some T → P.cellsOf f.type = width T → ∃ v, HasT T v ∧ (cellsOf v).length = width T ∧ CellsR K β v ((cs.drop f.offset).take (P.cellsOf f.type)) ∧ bulk v ≤ ub x.1) →
    ∃ vs, HasTs Ts vs ∧ (flat vs).length = widths Ts ∧ (∀ i c, (flat vs)[i]? = some c → VR K β c (cs.getD (o + i) Go.undef)) ∧ bulkL vs ≤ ubAll (xs.map (·.1))
  | [], [], o, xs, _, hx, hc, _ => by
    have : xs = [] := List.length_eq_zero_iff.1 (by simpa using hx)
    subst this
    exact ⟨[], by simp [HasTs], by simp [flat, widths], fun i c h => by simp [flat] at h, by simp [bulkL, hu.nil]⟩
  | f :: fs, T :: Ts, o, [], _, hx, _, _ => by simp at hx
  | f :: fs, T :: Ts, o, x :: xs, hf, hx, hc, h => by
    simp only [fieldsOk, Bool.and_eq_true, beq_iff_eq] at hf
    obtain ⟨⟨h1, h2⟩, h3⟩ := hf
    obtain ⟨v, hv, hvl, hvc, hvb⟩ := h 0 f x T rfl rfl rfl h2
    obtain ⟨vs, g1, g2, g3, g4⟩ := fields_V hu fs Ts (o + width T) xs h3 (by simpa using hx) (by rw [hc, widths]; omega) fun i f x T hf hx hT hw => h (i + 1) f x T (by simpa using hf) (by simpa using hx) (by simpa using hT) hw
    have e : flat (v :: vs) = cellsOf v ++ flat vs := by simp [flat]
    refine ⟨v :: vs, ⟨v, vs, rfl, hv, g1⟩, by rw [e, List.length_append, hvl, g2, widths], fun i c hi => ?_, ?_⟩
    · rw [e] at hi
      by_cases hlt : i < width T
      · rw [List.getElem?_append_left (by omega)] at hi
        have := hvc.2 i c hi
        rw [h1, h2, getD_drop_take hlt] at this
        exact this
      · rw [List.getElem?_append_right (by omega), hvl] at hi
        have := g3 _ c hi
        rw [show o + width T + (i - width T) = o + i from by omega] at this
        exact this
    · rw [bulkL, List.map_cons, hu.cons]; omega
  | [], _ :: _, _, _, hf, _, _, _ => by simp [fieldsOk] at hf
  | _ :: _, [], _, _, hf, _, _, _ => by simp [fieldsOk] at hf
theorem array_V {K : Kn} {β : Bi} (hu : Bulk ub ubAll) {cs : List Value} {T : Ty} : ∀ (n o : Nat) (xs : List (DataW H × List MemPlace)), xs.length = n → cs.length = o + n * width T →
    (∀ (i : Nat) (x : DataW H × List MemPlace), xs[i]? = some x → ∃ v, HasT T v ∧ (cellsOf v).length = width T ∧ CellsR K β v ((cs.drop (o + i * width T)).take (width T)) ∧ bulk v ≤ ub x.1) →
    ∃ vs, HasTs (List.replicate n T) vs ∧ (flat vs).length = n * width T ∧ (∀ i c, (flat vs)[i]? = some c → VR K β c (cs.getD (o + i) Go.undef)) ∧ bulkL vs ≤ ubAll (xs.map (·.1))
  | 0, o, xs, hx, hc, _ => by
    have : xs = [] := List.length_eq_zero_iff.1 hx
    subst this
    exact ⟨[], by simp [HasTs], by simp [flat], fun i c h => by simp [flat] at h, by simp [bulkL, hu.nil]⟩
  | n + 1, o, [], hx, _, _ => by simp at hx
  | n + 1, o, x :: xs, hx, hc, h => by
    obtain ⟨v, hv, hvl, hvc, hvb⟩ := h 0 x rfl
    obtain ⟨vs, g1, g2, g3, g4⟩ := array_V (K := K) (β := β) hu (cs := cs) (T := T) n (o + width T) xs (by simpa using hx) (by rw [hc, Nat.succ_mul]; omega) fun i x hx => by
      have := h (i + 1) x (by simpa using hx)
      rwa [show o + (i + 1) * width T = o + width T + i * width T from by rw [Nat.succ_mul]; omega] at this
    have e : flat (v :: vs) = cellsOf v ++ flat vs := by simp [flat]
    refine ⟨v :: vs, ?_, by rw [e, List.length_append, hvl, g2, Nat.succ_mul, Nat.add_comm], fun i c hi => ?_, ?_⟩
    · rw [List.replicate_succ]; exact ⟨v, vs, rfl, hv, g1⟩
    · rw [e] at hi
      by_cases hlt : i < width T
      · rw [List.getElem?_append_left (by omega)] at hi
        have := hvc.2 i c hi
        rw [Nat.zero_mul, Nat.add_zero, getD_drop_take hlt] at this
        exact this
      · rw [List.getElem?_append_right (by omega), hvl] at hi
        have := g3 _ c hi
        rw [show o + width T + (i - width T) = o + i from by omega] at this
        exact this
    · rw [bulkL, List.map_cons, hu.cons]; omega
theorem trod_float {fuel : Nat} {t : TypeId} {cs : List Value} {x : DataW H × List MemPlace} {base : Nat} {k : FloatKind} (ht : P.underlying t = some (.float k)) (h : DataW.trod enc P w base sp held fuel t cs = some x) :
    ∃ b, cs = [.float k b] ∧ x = (.lit (.float k b), []) ∧ (Lit.float k b).wf = true := by
  cases fuel with
  | zero => simp [DataW.trod] at h
  | succ n =>
    unfold DataW.trod at h
    rw [ht] at h
    split at h <;> simp_all
theorem trod_array {fuel : Nat} {t e : TypeId} {n : Nat} {cs : List Value} {x : DataW H × List MemPlace} {base : Nat} (ht : P.underlying t = some (.array n e)) (h : DataW.trod enc P w base sp held fuel t cs = some x) :
    ∃ m xs, fuel = m + 1 ∧ cs.length = P.cellsOf t ∧ (List.range n).mapM (fun i => DataW.trod enc P w base sp held m e ((cs.drop (i * P.cellsOf e)).take (P.cellsOf e))) = some xs ∧ x = (.agg (xs.map (·.1)), xs.flatMap (·.2)) := by
  cases fuel with
  | zero => simp [DataW.trod] at h
  | succ m =>
    unfold DataW.trod at h
    rw [ht] at h
    split at h <;> simp_all
    obtain ⟨hl, xs, hp, hd⟩ := h
    exact ⟨xs, hp, hd.symm⟩
theorem add_block (a : Addr) (i : Nat) : (a.add i).block = a.block := by unfold Addr.add; split <;> rfl
theorem add_off (a : Addr) (i : Nat) : (a.add i).off = a.off + i := by unfold Addr.add; split <;> simp_all
def AgOk : Ty → V → Prop
  | .agg _, v => ∃ l, v = .agg l
  | _, v => ∀ l, v ≠ .agg l
theorem trod_V (hu : Bulk ub ubAll) {β : Bi} : ∀ (d : Nat) (t : TypeId) (T : Ty), tyOf P d t = some T → ∀ (fuel : Nat) (cs : List Value) (x : DataW H × List MemPlace), DataW.trod enc P w 0 (fun _ => true) held fuel t cs = some x →
    ∃ v, HasT T v ∧ (cellsOf v).length = width T ∧ CellsR (Kall L w hg) β v cs ∧ bulk v ≤ ub x.1 ∧ AgOk T v
  | 0, _, _, hT => by cases hT
  | d + 1, t, T, hT => by
    intro fuel cs x h
    have one : ∀ {v : V} {c : Value} {cs : List Value}, cs = [c] → cellsOf v = [v] → VR (Kall L w hg) β v c → CellsR (Kall L w hg) β v cs := by
      intro v c cs hcs hv hr
      subst hcs
      refine ⟨by rw [hv]; rfl, fun i c' hi => ?_⟩
      rw [hv] at hi
      cases i with
      | zero => cases hi; exact hr
      | succ i => simp at hi
    rw [tyOf] at hT
    split at hT
    · rename_i hP
      cases hT
      obtain ⟨b, rfl, rfl⟩ := DataW.trod_bool hP h
      exact ⟨.bool b, ⟨b, rfl⟩, rfl, one rfl rfl (.bool b), hu.pos _, fun l h => by cases h⟩
    · rename_i k hP
      cases hT
      obtain ⟨n, rfl, rfl, hw⟩ := DataW.trod_int hP h
      simp only [Lit.wf, Bool.and_eq_true, decide_eq_true_eq] at hw
      exact ⟨.int k n, ⟨n, rfl, hw.1, hw.2⟩, rfl, one rfl rfl (.int k n), hu.pos _, fun l h => by cases h⟩
    · rename_i k hP
      cases hT
      obtain ⟨b, rfl, rfl, hw⟩ := trod_float hP h
      exact ⟨.float _ b, ⟨b, rfl, hw⟩, rfl, one rfl rfl (.float _ b), hu.pos _, fun l h => by cases h⟩
    · rename_i hP
      cases hT
      obtain ⟨s, rfl, rfl, hm⟩ := DataW.trod_string hP h
      refine ⟨.str s, ⟨s, rfl⟩, rfl, one rfl rfl (.str s), ?_, fun l h => by cases h⟩
      rw [hu.lit, bulk, Array.length_toList]; exact Nat.le_refl _
    · rename_i e hP
      split at hT
      · rename_i E hE
        split at hT
        · rename_i hw
          cases hT
          obtain ⟨hw, hw0⟩ := hw
          rcases DataW.trod_slice hP h with ⟨rfl, rfl⟩ | ⟨a, len, cap, elems, rest, n, rfl, rfl, rfl, _, hlc, _, hel, hget, hrest, _⟩
          · exact ⟨.list [] false, ⟨[], rfl, fun x hx => by cases hx⟩, rfl, one rfl rfl (.lnil fun h => by cases h), by rw [bulk, bulkL]; exact hu.pos _, fun l h => by cases h⟩
          · have elem : ∀ i, i < len → ∃ v y cs', elems[i]? = some y ∧ w.cells? 0 (a.add (i * P.cellsOf e)) (P.cellsOf e) = some cs' ∧ HasT E v ∧ (cellsOf v).length = width E ∧ CellsR (Kall L w hg) β v cs' ∧ bulk v ≤ ub y.1 := by
              intro i hi
              have := hget i hi
              have hi' : i < elems.length := by omega
              rw [List.getElem?_eq_getElem hi', Option.bind_eq_some_iff] at this
              obtain ⟨cs', h1, h2⟩ := this
              obtain ⟨v, g1, g2, g3, g4, _⟩ := trod_V hu d e E hE n cs' _ h2
              exact ⟨v, elems[i], cs', List.getElem?_eq_getElem hi', h1, g1, g2, g3, g4⟩
            have all : ∃ vs : List V, vs.length = len ∧ ∀ i v, vs[i]? = some v → ∃ y cs', elems[i]? = some y ∧ w.cells? 0 (a.add (i * P.cellsOf e)) (P.cellsOf e) = some cs' ∧ HasT E v ∧ (cellsOf v).length = width E ∧ CellsR (Kall L w hg) β v cs' ∧ bulk v ≤ ub y.1 := by
              have : ∀ m, m ≤ len → ∃ vs : List V, vs.length = m ∧ ∀ i v, vs[i]? = some v → ∃ y cs', elems[i]? = some y ∧ w.cells? 0 (a.add (i * P.cellsOf e)) (P.cellsOf e) = some cs' ∧ HasT E v ∧ (cellsOf v).length = width E ∧ CellsR (Kall L w hg) β v cs' ∧ bulk v ≤ ub y.1 := by
                intro m
                induction m with
                | zero => intro _; exact ⟨[], rfl, fun i v h => by simp at h⟩
                | succ m ih =>
                  intro hm
                  obtain ⟨vs, h1, h2⟩ := ih (by omega)
                  obtain ⟨v, hv⟩ := elem m (by omega)
                  refine ⟨vs ++ [v], by simp [h1], fun i u hu => ?_⟩
                  by_cases hi : i < m
                  · rw [List.getElem?_append_left (by omega)] at hu; exact h2 i u hu
                  · rw [List.getElem?_append_right (by omega)] at hu
                    have hi' : i = m := by
                      by_cases h : i = m
                      · exact h
                      · rw [List.getElem?_eq_none (by simp; omega)] at hu; cases hu
                    subst hi'
                    rw [h1, Nat.sub_self] at hu
                    cases hu
                    exact hv
              exact this len (Nat.le_refl _)
            obtain ⟨vs, hvl, hvs⟩ := all
            have hb : bulkL vs ≤ ubAll (elems.map (·.1)) := ubAll_le hu vs _ (by simp; omega) fun i v dd hv hd => by
              obtain ⟨y, cs', h1, h2, h3, h4, h5, h6⟩ := hvs i v hv
              rw [List.getElem?_map, h1] at hd
              cases hd; exact h6
            have hty : ∀ v ∈ vs, HasT E v := by
              intro v hv
              obtain ⟨i, hi⟩ := List.getElem?_of_mem hv
              obtain ⟨y, cs', h1, h2, h3, h4⟩ := hvs i v hi
              exact h3
            have hub : bulk (.list vs false) ≤ ub (.slice (elems.map (·.1)) (rest.map (·.1))) := by
              rw [hu.slice, bulk]; omega
            by_cases h0 : len = 0
            · have : vs = [] := List.length_eq_zero_iff.1 (by omega)
              subst this
              subst h0
              exact ⟨.list [] false, ⟨[], rfl, fun x hx => by cases hx⟩, rfl, one rfl rfl (.lnil fun h => by cases h), hub, fun l h => by cases h⟩
            · refine ⟨.list vs false, ⟨vs, rfl, hty⟩, rfl, one rfl rfl ?_, hub, fun l h => by cases h⟩
              obtain ⟨v0, y0, cs0, h1, h2, h3, h4, h5⟩ := elem 0 (by omega)
              obtain ⟨g1, g2⟩ := cells_get h2
              have c0 := g2 0 (by omega)
              obtain ⟨c, hc⟩ : ∃ c, cs0[0]? = some c := ⟨_, List.getElem?_eq_getElem (show 0 < cs0.length by omega)⟩
              rw [hc] at c0
              obtain ⟨hs, bs, be, bfr, hblk, _⟩ := cell_block c0
              have haddr : a = ⟨a.block, a.off, none⟩ := by
                have : a.spot = none := by simpa [Addr.add] using hs
                cases a; simp_all
              have hblk' : w.heap[a.block]? = some (.cells bs be bfr) := by simpa [Addr.add] using hblk
              have celltot : ∀ i k, i < len → k < width E → ∃ v, vs[i]? = some v ∧ ∀ c, (cellsOf v)[k]? = some c → VR (Kall L w hg) β c (bs.getD (a.off + (i * width E + k)) Go.undef) ∧ a.off + (i * width E + k) < bs.size := by
                intro i k hi hk
                obtain ⟨v, hv⟩ : ∃ v, vs[i]? = some v := ⟨_, List.getElem?_eq_getElem (show i < vs.length by omega)⟩
                obtain ⟨y, cs', q1, q2, q3, q4, q5, q6⟩ := hvs i v hv
                obtain ⟨r1, r2⟩ := cells_get q2
                refine ⟨v, hv, fun c hc => ?_⟩
                have := q5.2 k c hc
                have e1 := r2 k (by omega)
                have hk' : k < cs'.length := by omega
                rw [List.getElem?_eq_getElem hk'] at e1
                obtain ⟨_, bs', be', bfr', hblk2, hcell⟩ := cell_block e1
                have : bs' = bs := by
                  rw [add_block, add_block, hblk'] at hblk2
                  cases hblk2; rfl
                subst this
                have e2 : bs'[a.off + (i * width E + k)]? = some cs'[k] := by
                  rw [add_off, add_off, hw, Nat.add_assoc] at hcell
                  exact hcell
                refine ⟨?_, (Array.getElem?_eq_some_iff.1 e2).1⟩
                rw [Array.getD_eq_getD_getElem?, e2]
                rw [List.getD_eq_getElem?_getD, List.getElem?_eq_getElem hk'] at this
                exact this
              have hn : ∀ v ∈ vs, (cellsOf v).length = width E := by
                intro v hv
                obtain ⟨i, hi⟩ := List.getElem?_of_mem hv
                obtain ⟨y, cs', h1, h2, h3, h4, _⟩ := hvs i v hi
                exact h4
              rw [haddr, ← hvl]
              refine .list (K := Kall L w hg) (n := width E) (e := be) (fr := bfr) (cs := bs) hblk' hn hw0 ?_ (by omega) (fun h => by cases h) ?_
              · obtain ⟨v, hv, hh⟩ := celltot (len - 1) (width E - 1) (by omega) (by omega)
                have hvm : v ∈ vs := List.mem_of_getElem? hv
                have hl := hn v hvm
                obtain ⟨_, hlt⟩ := hh _ (List.getElem?_eq_getElem (show width E - 1 < (cellsOf v).length by omega))
                have e3 : len * width E = (len - 1) * width E + width E := by
                  conv => lhs; rw [show len = (len - 1) + 1 from by omega, Nat.succ_mul]
                rw [hvl, e3]
                omega
              · intro i v hi
                obtain ⟨h0', u, hu1, hu2⟩ := flat_get hn i v hi
                have hi1 : i / width E < len := by
                  have := (List.getElem?_eq_some_iff.1 hu1).1; omega
                obtain ⟨v', hv', hh⟩ := celltot (i / width E) (i % width E) hi1 (Nat.mod_lt _ h0')
                rw [hu1] at hv'
                cases hv'
                have := (hh v hu2).1
                rwa [show i / width E * width E + i % width E = i from Nat.div_add_mod' i (width E)] at this
        · cases hT
      · cases hT
    · rename_i fs hP
      split at hT
      · rename_i Ts hTs
        split at hT
        · rename_i hok
          cases hT
          obtain ⟨xs, n, rfl, rfl, hlen, hxl, hf⟩ := DataW.trod_struct hP h
          obtain ⟨hok, hwd⟩ := hok
          obtain ⟨hml, hmg⟩ := mapOpt_get hTs
          obtain ⟨vs, g1, g2, g3, g4⟩ := fields_V (K := Kall L w hg) (β := β) hu (cs := cs) fs.toList Ts 0 xs hok (by simpa using hxl) (by omega) fun i f y T' hfi hxi hTi hwf => by
            obtain ⟨f', hf', hT'⟩ := hmg i T' hTi
            rw [hfi] at hf'
            cases hf'
            have := hf i f (by simpa using hfi)
            rw [hxi] at this
            obtain ⟨v, q1, q2, q3, q4, _⟩ := trod_V hu d f.type T' hT' n _ y this
            exact ⟨v, q1, q2, q3, q4⟩
          refine ⟨.agg (flat vs), ⟨vs, rfl, g1⟩, by rw [cellsOf, width]; exact g2, ⟨by rw [cellsOf]; omega, fun i c hi => ?_⟩, ?_, ⟨_, rfl⟩⟩
          · have := g3 i c hi
            rwa [Nat.zero_add] at this
          · rw [hu.agg, bulk]
            have := bulk_flat vs
            omega
        · cases hT
      · cases hT
    · rename_i n e hP
      split at hT
      · rename_i E hE
        split at hT
        · rename_i hok
          cases hT
          obtain ⟨hw, hwd⟩ := hok
          obtain ⟨m, xs, rfl, hlen, hxs, rfl⟩ := trod_array hP h
          have hxl : xs.length = n := by simpa using mapM_some_length hxs
          obtain ⟨vs, g1, g2, g3, g4⟩ := array_V (K := Kall L w hg) (β := β) hu (cs := cs) (T := E) n 0 xs hxl (by omega) fun i y hi => by
            have hin : i < n := by have := (List.getElem?_eq_some_iff.1 hi).1; omega
            have := mapM_some_get hxs i i (by simp [hin])
            rw [hi, hw] at this
            obtain ⟨v, q1, q2, q3, q4, _⟩ := trod_V hu d e E hE m _ y this
            rw [Nat.zero_add]
            exact ⟨v, q1, q2, q3, q4⟩
          refine ⟨.agg (flat vs), ⟨vs, rfl, g1⟩, by rw [cellsOf, width, widths_replicate]; exact g2, ⟨by rw [cellsOf]; omega, fun i c hi => ?_⟩, ?_, ⟨_, rfl⟩⟩
          · have := g3 i c hi
            rwa [Nat.zero_add] at this
          · rw [hu.agg, bulk]
            have := bulk_flat vs
            omega
        · cases hT
      · cases hT
    · cases hT
end
end Fz
namespace Fz
open Go Go.ChangeShapes Go.WideShapes Go.ChangeAt Go.RowKit
section
variable {L : Nat → Loop → Prop} {ub : {H : Type} → DataW H → Nat} {ubAll : {H : Type} → List (DataW H) → Nat} {P : Program} {H : Type} {enc : TypeId × Value → H}
theorem cellsR_VR {K : Kn} {β : Bi} {w : World} {base : Nat} {t : TypeId} {T : Ty} {d : Nat} (hT : tyOf P d t = some T) {v : V} {c : Value} (hv : CellsR K β v c.cells.toList) (hw : (cellsOf v).length = width T)
    (ha : AgOk T v) (hok : Value.okWide P w .any base t c) : VR K β v c := by
  cases d with
  | zero => cases hT
  | succ d =>
    have scal : (∀ cs, c ≠ .agg cs) → (∀ l, v ≠ .agg l) → VR K β v c := by
      intro h1 h2
      have e1 : c.cells = #[c] := by cases c <;> first | rfl | exact absurd rfl (h1 _)
      have e2 : cellsOf v = [v] := by cases v <;> first | rfl | exact absurd rfl (h2 _)
      have := hv.2 0 v (by rw [e2]; rfl)
      rw [e1] at this
      exact this
    have aggr : ∀ {cs : Array Value} {l : List V}, c = .agg cs → v = .agg l → VR K β v c := by
      rintro cs l rfl rfl
      refine .agg ?_ fun i u hu => ?_
      · have := hv.1; simpa [cellsOf, Value.cells] using this
      · have := hv.2 i u hu
        simpa [Value.cells, List.getD_eq_getElem?_getD, Array.getD_eq_getD_getElem?] using this
    rw [tyOf] at hT
    unfold Value.okWide at hok
    have noagg : Cell.okWide P w .any base t c → ∀ cs, c ≠ .agg cs := by
      rintro h cs rfl
      unfold Cell.okWide Cell.ok at h
      split at h
      all_goals first | (cases h; done) | (rename_i hc; cases hc; done) | skip
      split at h <;> simp_all
    split at hT
    · rename_i hP; rw [hP] at hok; cases hT; exact scal (noagg hok) ha
    · rename_i hP; rw [hP] at hok; cases hT; exact scal (noagg hok) ha
    · rename_i hP; rw [hP] at hok; cases hT; exact scal (noagg hok) ha
    · rename_i hP; rw [hP] at hok; cases hT; exact scal (noagg hok) ha
    · rename_i hP; rw [hP] at hok
      split at hT
      · split at hT <;> cases hT
        exact scal (noagg hok) ha
      · cases hT
    · rename_i hP; rw [hP] at hok
      obtain ⟨cs, rfl, _⟩ := hok
      split at hT
      · split at hT <;> cases hT
        obtain ⟨l, rfl⟩ := ha
        exact aggr rfl rfl
      · cases hT
    · rename_i hP; rw [hP] at hok
      obtain ⟨cs, rfl, _⟩ := hok
      split at hT
      · split at hT <;> cases hT
        obtain ⟨l, rfl⟩ := ha
        exact aggr rfl rfl
      · cases hT
    · cases hT
theorem args_V (hu : Bulk ub ubAll) {w : World} {hg : GlobW w} {base d : Nat} {β : Bi} : ∀ (ts : List TypeId) (Ts : List Ty), mapOpt (tyOf P d) ts = some Ts → ∀ (args : List Value) (ds : List (DataW H)) (p : List MemPlace),
    DataW.TrodAll enc P w 0 (fun _ => true) true ts args ds p → (∀ (j : Nat) t v, ts[j]? = some t → args[j]? = some v → Value.okWide P w .any base t v) →
    ∃ vs, HasTs Ts vs ∧ LR (Kall L w hg) β vs args ∧ bulkL vs ≤ ubAll ds
  | [], Ts, hT, args, ds, p, h, hok => by
    obtain ⟨rfl, rfl, rfl⟩ := trodAll_nil h
    simp [mapOpt] at hT
    subst hT
    exact ⟨[], rfl, LR.nil _ _, by rw [bulkL]; omega⟩
  | t :: ts, Ts, hT, args, ds, p, h, hok => by
    obtain ⟨v, vs, d1, ds', p1, q, rfl, rfl, rfl, h1, h2⟩ := trodAll_cons h
    obtain ⟨T, Ts', hT1, hT2, rfl⟩ := mapOpt_cons hT
    obtain ⟨l, g1, g2, g3⟩ := args_V hu ts Ts' hT2 vs ds' q h2 fun j t v hj hv => hok (j + 1) t v (by simpa using hj) (by simpa using hv)
    obtain ⟨fuel, hf⟩ := h1
    obtain ⟨u, k1, k2, k3, k4, k5⟩ := trod_V hu (β := β) d t T hT1 fuel _ _ hf
    refine ⟨u :: l, ⟨u, l, rfl, k1, g1⟩, LR.cons (cellsR_VR hT1 k3 k2 k5 (hok 0 t v rfl rfl)) g2, ?_⟩
    rw [bulkL, hu.cons]
    exact Nat.add_le_add k4 g3
theorem trodAll_stays (hl : laidOutB P = true) {W W' : World} (hb : Below W.heap.size W W') : ∀ (ts : List TypeId) (vs : List Value) (ds : List (DataW H)) (p : List MemPlace), (∀ t ∈ ts, P.readableRec t = true ∧ t < P.types.size) →
    DataW.TrodAll enc P W 0 (fun _ => true) true ts vs ds p → DataW.TrodAll enc P W' 0 (fun b => decide (b < W.heap.size)) true ts vs ds p
  | [], vs, ds, p, _, h => by
    obtain ⟨rfl, rfl, rfl⟩ := trodAll_nil h
    exact trodAll_mk0
  | t :: ts, vs, ds, p, ht, h => by
    obtain ⟨v, vs', d1, ds', p1, q, rfl, rfl, rfl, h1, h2⟩ := trodAll_cons h
    have g := trodAll_stays hl hb ts vs' ds' q (fun t h => ht t (List.mem_cons_of_mem _ h)) h2
    obtain ⟨a1, a2⟩ := ht t (List.mem_cons_self ..)
    refine trodAll_cons_mk (Below.trod hl a1 a2 h1 hb ?_) g
    obtain ⟨m, hm⟩ := h1
    exact DataW.trod_lt m _ _ _ hm
theorem ev_below {K K' : Kn} {β β' : Bi} {w w' : World} {H' : List Ob} (h : Ev K β [] w K' β' H' w') : Below w.heap.size w w' :=
  ⟨h.os, h.tape, h.output, h.size, fun k hk => h.frame k hk fun ⟨id, ⟨o, ho, _⟩, _⟩ => by simp at ho⟩
theorem law_contract (hu : Bulk ub ubAll) {p : AP} (hp : APOk P p) {f : FuncId} (hpr : p.prim f = none) {fn : Func} {ts : List TypeId} (hts : fn.params.toList = ts) {tb : TypeId} (hres : fn.resultTypes = #[tb]) (htb : P.underlying tb = some .bool)
    {d : Nat} {Ts : List Ty} (hT : mapOpt (tyOf P d) ts = some Ts) (hl : laidOutB P = true) (hr : ∀ t ∈ ts, P.readableRec t = true ∧ t < P.types.size)
    {s : ChangeSpec} (hv : s.vars = []) (hs : ∀ (ds : List (DataW H)), ds.length = ts.length → s.fn H ds = { results := [.lit (.bool true)], args := ds })
    {N : Nat} (hlaw : ∀ vs, HasTs Ts vs → bulkL vs ≤ N → ∃ n H', acall p n f vs [] = some (.ret (.bool true), H'))
    {W : World} {base : Nat} {args : Array Value} {ds gs : List (DataW H)} {before : List MemPlace}
    (hval : ∀ (j : Nat) t v, fn.params[j]? = some t → args[j]? = some v → Value.okWide P W .any base t v)
    (hW : DataW.Whole enc P fn.params.toList s.vars false W args.toList ds gs before) (hk : ubAll (ds ++ gs) ≤ N) (hY : f ≠ YF := by decide) (hg : GlobW W := by intro g l h; cases h) :
    Calls P f args W fun e W' => ∃ v, e = .returned v ∧ s.post enc P fn false true false false W args v W' := by
  have hW' := hW
  obtain ⟨pp, q, hA, hV, rfl, hfz, hnd⟩ := hW
  rw [hv] at hV
  obtain ⟨rfl, rfl⟩ := trodVars_none hV
  rw [List.append_nil] at hk
  rw [hts] at hA
  obtain ⟨vs, h1, h2, h3⟩ := args_V (L := lpOf P p) (hg := hg) hu (β := fun _ => none) ts Ts hT args.toList ds pp hA fun j t v hj hv => hval j t v (by rw [← hts] at hj; simpa using hj) (by simpa using hv)
  obtain ⟨n, H', hc⟩ := hlaw vs h1 (by omega)
  have hdl : ds.length = ts.length := by
    have : ∀ (ts : List TypeId) (vs : List Value) (ds : List (DataW H)) (p : List MemPlace), DataW.TrodAll enc P W 0 (fun _ => true) true ts vs ds p → ds.length = ts.length := by
      intro ts
      induction ts with
      | nil => intro vs ds p h; obtain ⟨rfl, rfl, rfl⟩ := trodAll_nil h; rfl
      | cons t ts ih =>
        intro vs ds p h
        obtain ⟨v, vs', d1, ds', p1, q, rfl, rfl, rfl, h1, h2⟩ := trodAll_cons h
        simp [ih _ _ _ h2]
    exact this _ _ _ _ hA
  refine (acall_calls hp n hpr hY hc rfl (inv_all (lpOf P p) W hg) h2).mono ?_
  intro e W' hh
  obtain ⟨K', β', r, _, ev⟩ := hh
  have bel := ev_below ev
  obtain ⟨c, rfl, r⟩ : ∃ c, e = .returned c ∧ VR K' β' (.bool true) c := by
    unfold CRel at r
    split at r
    · rename_i h; cases h; exact ⟨_, rfl, r⟩
    · rename_i h; cases h
    · exact r.elim
  obtain rfl : c = .bool true := by cases r; rfl
  refine ⟨_, rfl, ds, [], pp ++ [], [], pp, [], hW', ?_, ?_, ?_, bel.frame _, fun h => by cases h⟩
  · rw [hres]
    simp only [List.append_nil, hs ds hdl]
    exact trodAll_mk1 (shut_bool htb _)
  · simp only [List.append_nil, hs ds hdl, hts]
    exact trodAll_stays hl bel ts _ _ _ hr hA
  · simp only [List.append_nil, hs ds hdl, hv]
    exact rfl
end
end Fz
namespace Fz
open Go
theorem trace_more {call : CallT} {inl : FuncId → Bool} (r : List AO) : ∀ (e : Env) (hs : List (List Ob)) (t) (hs' : List (List Ob)) (e' : Env),
    trace call inl r e hs = some (t, hs', e') → ∃ m, hs' = hs ++ m := by
  induction r with
  | nil => intro e hs t hs' e' h; cases h; exact ⟨[], by simp⟩
  | cons o r ih =>
    intro e hs t hs' e' h
    unfold trace at h
    split at h
    · cases h
    · split at h
      · split at h
        · cases h
        · obtain ⟨x, hx, hh⟩ := Option.map_eq_some_iff.1 h
          obtain ⟨t1, h1, e1⟩ := x
          cases hh
          obtain ⟨m, hm⟩ := ih _ _ _ _ _ hx
          exact ⟨_, by rw [hm, List.append_assoc]⟩
      · split at h
        · cases h
        · obtain ⟨x, hx, hh⟩ := Option.map_eq_some_iff.1 h
          obtain ⟨t1, h1, e1⟩ := x
          cases hh
          exact ih _ _ _ _ _ hx
theorem trace_ext {call : CallT} {inl : FuncId → Bool} (r : List AO) : ∀ (m : Nat) (e : Env) (hs : List (List Ob)) (H : List Ob) (t) (hs' : List (List Ob)) (e' : Env),
    trace call inl r e hs = some (t, hs', e') → hs.getLast? = some H → (((r.filter fun o => o.eff).take m).all fun q => isExt q.op) = true →
    ∀ G ∈ (hs'.drop (hs.length - 1)).take (m + 1), ∃ A, G = H ++ A := by
  induction r with
  | nil =>
    intro m e hs H t hs' e' h hl _ G hG
    cases h
    have h2 : hs = hs.dropLast ++ [H] := by
      rw [List.getLast?_eq_some_iff] at hl
      obtain ⟨ys, rfl⟩ := hl
      simp
    rw [h2, show (hs.dropLast ++ [H]).length - 1 = hs.dropLast.length from by simp, List.drop_left] at hG
    have := List.mem_of_mem_take hG
    rw [List.mem_singleton] at this
    exact ⟨[], by rw [this, List.append_nil]⟩
  | cons o r ih =>
    intro m e hs H t hs' e' h hl hx G hG
    have hm := trace_more _ _ _ _ _ _ h
    unfold trace at h
    rw [hl] at h
    dsimp only at h
    split at h
    · rename_i heff
      split at h
      · cases h
      · rename_i v H1 hv
        obtain ⟨x, hx2, hh⟩ := Option.map_eq_some_iff.1 h
        obtain ⟨t1, h1, e1⟩ := x
        cases hh
        rw [List.filter_cons, if_pos heff] at hx
        obtain ⟨M, hM⟩ := hm
        have h2 : hs = hs.dropLast ++ [H] := by
          rw [List.getLast?_eq_some_iff] at hl
          obtain ⟨ys, rfl⟩ := hl
          simp
        have hd : hs'.drop (hs.length - 1) = H :: hs'.drop hs.length := by
          rw [hM]
          rw [List.drop_left]
          rw [h2, List.append_assoc, show (hs.dropLast ++ [H]).length - 1 = hs.dropLast.length from by simp, List.drop_left]
          rfl
        rw [hd, List.take_succ_cons, List.mem_cons] at hG
        rcases hG with rfl | hG
        · exact ⟨[], (List.append_nil _).symm⟩
        · cases m with
          | zero => rw [List.take_zero] at hG; cases hG
          | succ m =>
            rw [List.take_succ_cons, List.all_cons, Bool.and_eq_true] at hx
            obtain ⟨A, rfl⟩ := eff_ext hx.1 hv
            obtain ⟨B, rfl⟩ := ih m _ _ (H ++ A) _ _ _ hx2 (by simp) hx.2 G (by
              rw [List.length_append, List.length_singleton, Nat.add_sub_cancel]
              exact hG)
            exact ⟨A ++ B, List.append_assoc ..⟩
    · rename_i heff
      split at h
      · cases h
      · rename_i v hv
        obtain ⟨x, hx2, hh⟩ := Option.map_eq_some_iff.1 h
        obtain ⟨t1, h1, e1⟩ := x
        cases hh
        rw [List.filter_cons, if_neg heff] at hx
        exact ih m _ _ H _ _ _ hx2 hl hx G hG
theorem steady_calm {call : CallT} {inl : FuncId → Bool} {ops : List AO} {an : List (List Nat)} {effs : List AO} (r : List AO) : ∀ (s : Nat) (e : Env) (hs : List (List Ob)) (t) (hs' : List (List Ob)) (e' : Env),
    trace call inl r e hs = some (t, hs', e') → effs.drop (hs.length - 1) = (r.filter fun o => o.eff) → calmGo ops an effs (r.zipIdx s) (hs.length - 1) = true → steadyAll call inl ops an hs' (r.zipIdx s) t = true := by
  induction r with
  | nil => intro s e hs t hs' e' h _ _; cases h; rfl
  | cons o r ih =>
    intro s e hs t hs' e' h hE hc
    have hext := fun m H => trace_ext (o :: r) m e hs H t hs' e' h
    obtain ⟨m, hm⟩ := trace_more _ _ _ _ _ _ h
    rw [List.zipIdx_cons] at hc ⊢
    unfold calmGo at hc
    rw [Bool.and_eq_true] at hc
    obtain ⟨hc1, hc2⟩ := hc
    unfold trace at h
    split at h
    · cases h
    · rename_i H hl
      have hlen : hs.length ≠ 0 := by intro h0; rw [List.length_eq_zero_iff.1 h0] at hl; cases hl
      split at h
      · rename_i heff
        split at h
        · cases h
        · obtain ⟨x, hx, hh⟩ := Option.map_eq_some_iff.1 h
          obtain ⟨t1, h1, e1⟩ := x
          cases hh
          unfold steadyAll
          rw [Bool.and_eq_true]
          have e2 : hs.length + 1 - 1 = hs.length - 1 + 1 := by omega
          refine ⟨by rw [heff]; rfl, ih _ _ _ _ _ _ hx ?_ ?_⟩
          · rw [List.length_append, List.length_singleton, e2, ← List.drop_drop, hE, List.filter_cons, if_pos heff]
            rfl
          · rw [if_pos heff] at hc2
            rw [List.length_append, List.length_singleton, e2]
            exact hc2
      · rename_i heff
        split at h
        · cases h
        · rename_i v hv
          obtain ⟨x, hx, hh⟩ := Option.map_eq_some_iff.1 h
          obtain ⟨t1, h1, e1⟩ := x
          cases hh
          unfold steadyAll
          rw [Bool.and_eq_true]
          refine ⟨?_, ih _ _ _ _ _ _ hx (by rw [hE, List.filter_cons, if_neg heff]) (by rw [if_neg heff] at hc2; exact hc2)⟩
          rw [Bool.or_eq_true]
          refine .inr ?_
          rw [Bool.or_eq_true, Bool.or_eq_true] at hc1
          have key : ∀ l : List (List Ob), (∀ G ∈ l, quietOp call inl e G o = some v) → steady call inl e v o l = true := by
            intro l
            induction l with
            | nil => intro _; rfl
            | cons H' l ihl =>
              intro hq
              unfold steady
              rw [hq H' (List.mem_cons_self ..), Bool.and_eq_true]
              exact ⟨veq_refl v, ihl fun G hG => hq G (List.mem_cons_of_mem _ hG)⟩
          rcases hc1 with (h1 | h1) | h1
          · exact absurd h1 heff
          · exact key _ fun G _ => quiet_free h1 H G hv
          · rw [Bool.and_eq_true, beq_iff_eq] at h1
            obtain ⟨h1, h2⟩ := h1
            rw [h1]
            by_cases hh : hs.length - 1 ≤ hiOf ops an s
            · refine key _ fun G hG => ?_
              rw [hE] at h2
              rw [show hiOf ops an s + 1 - (hs.length - 1) = hiOf ops an s - (hs.length - 1) + 1 from by omega] at hG
              obtain ⟨A, rfl⟩ := hext _ H hl h2 G hG
              exact quiet_ext A hv
            · rw [show hiOf ops an s + 1 - (hs.length - 1) = 0 from by omega, List.take_zero]
              rfl
theorem runDraw_calm {call : CallT} {inl : FuncId → Bool} {ops : List AO} (hc : calm ops = true) {e : Env} {H : List Ob} {t hs e' H'}
    (h : trace call inl ops e [H] = some (t, hs, e')) (hl : hs.getLast? = some H') : runDraw call inl ops e H = some (.normal, e', H') := by
  unfold calm at hc
  rw [Bool.and_eq_true] at hc
  refine runDraw_of ?_
  unfold runDrawN
  rw [h]
  dsimp only
  rw [hc.1, steady_calm ops 0 _ _ _ _ _ h rfl hc.2, hl]
  rfl
def wCalm (p : AP) (Q : X → Env → List Ob → Prop) : List AO → Env → List Ob → Prop
  | [], e, H => Q .normal e H
  | o :: r, e, H => if o.eff = true then
      wGuard e o.guard (wAct p e H (fun v H' => wCalm p Q r (putE e o.dst v) H') (fun _ _ => False) o.op) (wCalm p Q r (putE e o.dst uv) H)
    else wGuard e o.guard (wQ p e H (fun v => wCalm p Q r (putE e o.dst v) H) o.op) (wCalm p Q r (putE e o.dst uv) H)
theorem noskip {ρ : Opd → V} {H H' : List Ob} {op : AOp} (h : pureOp op = true) : evOp ρ H op ≠ some (.skip H') := by
  intro h2
  cases op with
  | store n a x => cases h
  | append _ _ _ _ _ => cases h
  | mem _ _ => cases h
  | conv k x =>
    cases k with
    | b2s =>
      simp only [evOp] at h2
      split at h2
      · obtain ⟨a, _, h2⟩ := Option.bind_eq_some_iff.1 h2
        split at h2 <;> cases h2
      · obtain ⟨a, _, h2⟩ := Option.bind_eq_some_iff.1 h2
        split at h2 <;> cases h2
      · cases h2
    | _ =>
      simp only [evOp] at h2
      first
      | (cases h2; done)
      | (split at h2 <;> cases h2)
  | _ =>
    simp only [evOp, ans] at h2
    repeat' split at h2
    all_goals first | (cases h2; done) | (obtain ⟨_, _, h2⟩ := Option.map_eq_some_iff.1 h2; cases h2)
theorem wQ_ok {p : AP} {e : Env} {H : List Ob} {K : V → Prop} {op : AOp} (h : wQ p e H K op) :
    (∃ v H', evOp (evO e) H op = some (.val v H') ∧ pureOp op = true ∧ K v) ∨
    (∃ f args, evOp (evO e) H op = some (.call f args) ∧ WQuiet p f args H K) := by
  unfold wQ at h
  split at h
  · exact .inr ⟨_, _, rfl, h⟩
  · split at h
    · rename_i hf; exact .inr ⟨_, _, by simp only [evOp, hf, if_neg h.1], h.2⟩
    · cases h
    · cases h
  · obtain ⟨h1, h⟩ := h
    obtain ⟨v, H', h2, h3⟩ := wOp_ok h
    rcases h2 with h2 | ⟨h2, _⟩
    · exact .inl ⟨v, H', h2, h1, h3⟩
    · exact absurd h2 (noskip h1)
theorem wEff_ok {p : AP} {e : Env} {H : List Ob} {K : V → List Ob → Prop} {o : AO} {N : Prop}
    (h : wGuard e o.guard (wAct p e H K (fun _ _ => False) o.op) N) :
    (∃ n v H', effOp (acall p n) p.inlY e H o = some (v, H') ∧ K v H') ∨ ((∀ n, effOp (acall p n) p.inlY e H o = some (uv, H)) ∧ N) := by
  have go : ∀ (hh : wAct p e H K (fun _ _ => False) o.op), ∃ n v H', (match evOp (evO e) H o.op with
      | some (.val v H') => some (v, H')
      | some (.skip H') => some (uv, H')
      | some (.call k args) => match doCall (acall p n) p.inlY k args H with
        | some (.ret v, H') => some (v, H')
        | _ => none
      | _ => none) = some (v, H') ∧ K v H' := by
    intro hh
    rcases wAct_ok hh with ⟨v, H', h1, h2⟩ | ⟨v, H', h1, h2⟩ | ⟨f, args, h1, n, c, H', h2, h3⟩
    · rcases h1 with h1 | ⟨h1, rfl⟩
      · exact ⟨0, v, H', by rw [h1], h2⟩
      · exact ⟨0, _, H', by rw [h1], h2⟩
    · cases h2
    · cases c with
      | ret v => exact ⟨n, v, H', by rw [h1]; dsimp only; rw [h2], h3⟩
      | panic v => cases h3
  unfold wGuard at h
  unfold effOp
  dsimp only
  cases hg : o.guard with
  | none => rw [hg] at h; exact .inl (go h)
  | some tw =>
    obtain ⟨t, w⟩ := tw
    rw [hg] at h
    dsimp only at h ⊢
    cases he : e t with
    | bool b =>
      simp only [he] at h ⊢
      by_cases hb : b = w
      · rw [if_pos hb] at h; simp only [if_pos hb]; exact .inl (go h)
      · rw [if_neg hb] at h; simp only [if_neg hb]; exact .inr ⟨fun _ => trivial, h⟩
    | tuple l =>
      simp only [he] at h ⊢
      obtain ⟨rfl, h⟩ := h
      exact .inr ⟨fun _ => rfl, h⟩
    | _ => simp only [he] at h
theorem wQuiet_ok {p : AP} {e : Env} {H : List Ob} {K : V → Prop} {o : AO} {N : Prop}
    (h : wGuard e o.guard (wQ p e H K o.op) N) :
    (∃ n v, quietOp (acall p n) p.inlY e H o = some v ∧ K v) ∨ ((∀ n, quietOp (acall p n) p.inlY e H o = some uv) ∧ N) := by
  have go : ∀ (hh : wQ p e H K o.op), ∃ n v, (match evOp (evO e) H o.op with
      | some (.val v _) => if pureOp o.op then some v else none
      | some (.call k args) => match mapOpt (lendV H depthF) args with
        | some l => if groundL l then (match doCall (acall p n) p.inlY k l [] with
          | some (.ret v, []) => if ground v && (listFree v || groundL args) then some v else none
          | _ => none) else none
        | none => none
      | _ => none) = some v ∧ K v := by
    intro hh
    rcases wQ_ok hh with ⟨v, H', h1, h2, h3⟩ | ⟨f, args, h1, n, l, v, h2, h3, h4, h5, h6⟩
    · exact ⟨0, v, by rw [h1]; simp only [h2, if_true], h3⟩
    · exact ⟨n, v, by rw [h1]; simp only [h2, h3, if_true, h4, h5], h6⟩
  unfold wGuard at h
  unfold quietOp
  dsimp only
  cases hg : o.guard with
  | none => rw [hg] at h; exact .inl (go h)
  | some tw =>
    obtain ⟨t, w⟩ := tw
    rw [hg] at h
    dsimp only at h ⊢
    cases he : e t with
    | bool b =>
      simp only [he] at h ⊢
      by_cases hb : b = w
      · rw [if_pos hb] at h; simp only [if_pos hb]; exact .inl (go h)
      · rw [if_neg hb] at h; simp only [if_neg hb]; exact .inr ⟨fun _ => trivial, h⟩
    | tuple l =>
      simp only [he] at h ⊢
      obtain ⟨rfl, h⟩ := h
      exact .inr ⟨fun _ => rfl, h⟩
    | _ => simp only [he] at h
theorem wCalm_trace {p : AP} {Q : X → Env → List Ob → Prop} (ops : List AO) : ∀ (e : Env) (H : List Ob) (hs : List (List Ob)), wCalm p Q ops e H → hs.getLast? = some H →
    ∃ n t hs' e' H', trace (acall p n) p.inlY ops e hs = some (t, hs', e') ∧ hs'.getLast? = some H' ∧ Q .normal e' H' := by
  induction ops with
  | nil => intro e H hs h hl; exact ⟨0, _, _, _, _, rfl, hl, h⟩
  | cons o r ih =>
    intro e H hs h hl
    unfold wCalm at h
    unfold trace
    rw [hl]
    dsimp only
    by_cases he : o.eff = true
    · rw [if_pos he] at h
      simp only [if_pos he]
      rcases wEff_ok h with ⟨n, v, H', h1, h2⟩ | ⟨h1, h2⟩
      · obtain ⟨m, t, hs', e', H'', h3, h4, h5⟩ := ih _ _ (hs ++ [H']) h2 (by simp)
        refine ⟨max n m, (e, hs.length - 1, v) :: t, hs', e', H'', ?_, h4, h5⟩
        rw [effOp_mono (acall_le p (Nat.le_max_left n m)) _ _ _ _ _ h1]
        dsimp only
        rw [trace_mono (acall_le p (Nat.le_max_right n m)) _ _ _ _ _ h3]
        rfl
      · obtain ⟨m, t, hs', e', H'', h3, h4, h5⟩ := ih _ _ (hs ++ [H]) h2 (by simp)
        refine ⟨m, (e, hs.length - 1, uv) :: t, hs', e', H'', ?_, h4, h5⟩
        rw [h1]
        dsimp only
        rw [h3]
        rfl
    · rw [if_neg he] at h
      simp only [if_neg he]
      rcases wQuiet_ok h with ⟨n, v, h1, h2⟩ | ⟨h1, h2⟩
      · obtain ⟨m, t, hs', e', H'', h3, h4, h5⟩ := ih _ _ hs h2 hl
        refine ⟨max n m, (e, hs.length - 1, v) :: t, hs', e', H'', ?_, h4, h5⟩
        rw [quietOp_mono (acall_le p (Nat.le_max_left n m)) _ _ _ _ _ h1]
        dsimp only
        rw [trace_mono (acall_le p (Nat.le_max_right n m)) _ _ _ _ _ h3]
        rfl
      · obtain ⟨m, t, hs', e', H'', h3, h4, h5⟩ := ih _ _ hs h2 hl
        refine ⟨m, (e, hs.length - 1, uv) :: t, hs', e', H'', ?_, h4, h5⟩
        rw [h1]
        dsimp only
        rw [h3]
        rfl
def WDraw (p : AP) (ops : List AO) (e : Env) (H : List Ob) (Q : X → Env → List Ob → Prop) : Prop :=
  ∃ n x e' H', runDraw (acall p n) p.inlY ops e H = some (x, e', H') ∧ Q x e' H'
theorem WDraw_calm {p : AP} {ops : List AO} (hc : calm ops = true) {e : Env} {H : List Ob} {Q : X → Env → List Ob → Prop} (h : wCalm p Q ops e H) : WDraw p ops e H Q := by
  obtain ⟨n, t, hs', e', H', h1, h2, h3⟩ := wCalm_trace ops e H [H] h rfl
  exact ⟨n, _, _, _, runDraw_calm hc h1 h2, h3⟩
def wSame (p : AP) (Q : X → Env → List Ob → Prop) : List AO → Env → List Ob → Prop
  | [], e, H => Q .normal e H
  | o :: r, e, H => if o.eff = true then
      wGuard e o.guard (wAct p e H (fun v H' => H' = H ∧ wSame p Q r (putE e o.dst v) H) (fun _ _ => False) o.op) (wSame p Q r (putE e o.dst uv) H)
    else wGuard e o.guard (wQ p e H (fun v => wSame p Q r (putE e o.dst v) H) o.op) (wSame p Q r (putE e o.dst uv) H)
theorem wSame_trace {p : AP} {Q : X → Env → List Ob → Prop} (ops : List AO) : ∀ (e : Env) (H : List Ob) (hs : List (List Ob)), wSame p Q ops e H → hs.getLast? = some H → (∀ G ∈ hs, G = H) →
    ∃ n t hs' e', trace (acall p n) p.inlY ops e hs = some (t, hs', e') ∧ hs'.getLast? = some H ∧ (∀ G ∈ hs', G = H) ∧ Q .normal e' H := by
  induction ops with
  | nil => intro e H hs h hl ha; exact ⟨0, _, _, _, rfl, hl, ha, h⟩
  | cons o r ih =>
    intro e H hs h hl ha
    unfold wSame at h
    unfold trace
    rw [hl]
    dsimp only
    have ha' : ∀ G ∈ hs ++ [H], G = H := by
      intro G hG
      rcases List.mem_append.1 hG with h | h
      · exact ha G h
      · exact List.mem_singleton.1 h
    by_cases he : o.eff = true
    · rw [if_pos he] at h
      simp only [if_pos he]
      rcases wEff_ok h with ⟨n, v, H', h1, rfl, h2⟩ | ⟨h1, h2⟩
      · obtain ⟨m, t, hs', e', h3, h4, h5, h6⟩ := ih _ _ (hs ++ [H']) h2 (by simp) ha'
        refine ⟨max n m, (e, hs.length - 1, v) :: t, hs', e', ?_, h4, h5, h6⟩
        rw [effOp_mono (acall_le p (Nat.le_max_left n m)) _ _ _ _ _ h1]
        dsimp only
        rw [trace_mono (acall_le p (Nat.le_max_right n m)) _ _ _ _ _ h3]
        rfl
      · obtain ⟨m, t, hs', e', h3, h4, h5, h6⟩ := ih _ _ (hs ++ [H]) h2 (by simp) ha'
        refine ⟨m, (e, hs.length - 1, uv) :: t, hs', e', ?_, h4, h5, h6⟩
        rw [h1]
        dsimp only
        rw [h3]
        rfl
    · rw [if_neg he] at h
      simp only [if_neg he]
      rcases wQuiet_ok h with ⟨n, v, h1, h2⟩ | ⟨h1, h2⟩
      · obtain ⟨m, t, hs', e', h3, h4, h5, h6⟩ := ih _ _ hs h2 hl ha
        refine ⟨max n m, (e, hs.length - 1, v) :: t, hs', e', ?_, h4, h5, h6⟩
        rw [quietOp_mono (acall_le p (Nat.le_max_left n m)) _ _ _ _ _ h1]
        dsimp only
        rw [trace_mono (acall_le p (Nat.le_max_right n m)) _ _ _ _ _ h3]
        rfl
      · obtain ⟨m, t, hs', e', h3, h4, h5, h6⟩ := ih _ _ hs h2 hl ha
        refine ⟨m, (e, hs.length - 1, uv) :: t, hs', e', ?_, h4, h5, h6⟩
        rw [h1]
        dsimp only
        rw [h3]
        rfl
theorem steady_same {call : CallT} {inl : FuncId → Bool} {ops : List AO} {an : List (List Nat)} {H : List Ob} {hsF : List (List Ob)} (hF : ∀ G ∈ hsF, G = H) (r : List AO) :
    ∀ (s : Nat) (e : Env) (hs : List (List Ob)) (t) (hs' : List (List Ob)) (e' : Env), trace call inl r e hs = some (t, hs', e') → (∀ G ∈ hs', G = H) → steadyAll call inl ops an hsF (r.zipIdx s) t = true := by
  induction r with
  | nil => intro s e hs t hs' e' h _; cases h; rfl
  | cons o r ih =>
    intro s e hs t hs' e' h hall
    obtain ⟨m, hm⟩ := trace_more _ _ _ _ _ _ h
    rw [List.zipIdx_cons]
    unfold trace at h
    split at h
    · cases h
    · rename_i G hl
      have hG : G = H := hall G (by rw [hm]; exact List.mem_append_left _ (List.mem_of_getLast? hl))
      split at h
      · rename_i heff
        split at h
        · cases h
        · obtain ⟨x, hx, hh⟩ := Option.map_eq_some_iff.1 h
          obtain ⟨t1, h1, e1⟩ := x
          cases hh
          unfold steadyAll
          rw [Bool.and_eq_true]
          exact ⟨by rw [heff]; rfl, ih _ _ _ _ _ _ hx hall⟩
      · split at h
        · cases h
        · rename_i v hv
          obtain ⟨x, hx, hh⟩ := Option.map_eq_some_iff.1 h
          obtain ⟨t1, h1, e1⟩ := x
          cases hh
          unfold steadyAll
          rw [Bool.and_eq_true]
          refine ⟨?_, ih _ _ _ _ _ _ hx hall⟩
          rw [Bool.or_eq_true]
          refine .inr ?_
          have : ∀ l : List (List Ob), (∀ G ∈ l, G = H) → steady call inl e v o l = true := by
            intro l
            induction l with
            | nil => intro _; rfl
            | cons H' l ihl =>
              intro hl'
              unfold steady
              rw [hl' H' (List.mem_cons_self ..), ← hG, hv, Bool.and_eq_true]
              exact ⟨veq_refl v, ihl fun G hG => hl' G (List.mem_cons_of_mem _ hG)⟩
          exact this _ fun G hG => hF G (List.mem_of_mem_drop (List.mem_of_mem_take hG))
theorem WDraw_same {p : AP} {ops : List AO} (hc : okDraw ops = true) {e : Env} {H : List Ob} {Q : X → Env → List Ob → Prop} (h : wSame p Q ops e H) : WDraw p ops e H Q := by
  obtain ⟨n, t, hs', e', h1, h2, h3, h4⟩ := wSame_trace ops e H [H] h rfl (fun G hG => List.mem_singleton.1 hG)
  refine ⟨n, .normal, e', H, ?_, h4⟩
  refine runDraw_of ?_
  unfold runDrawN
  rw [h1]
  dsimp only
  rw [hc, steady_same h3 ops 0 _ _ _ _ _ h1 h3, h2]
  rfl
end Fz
namespace Fz
open Go
inductive WC where
  | skip
  | reg (ops : List AO)
  | calm (ops : List AO)
  | same (ops : List AO)
  | draw (ops : List AO)
  | seq (a b : WC)
  | cond (c : Opd) (thn els : WC)
  | block (id : Nat) (body : WC)
  | loop (body : WC)
  | exit (id : Nat)
  | ret
  | fix (t : Option Nat) (body : WC)
  | range (k : Nat) (f : Opd) (ps : List Nat) (assign body : WC)
def toA : WC → ACode
  | .skip => .skip
  | .reg ops => .region ops false
  | .calm ops => .region ops true
  | .same ops => .region ops true
  | .draw ops => .region ops true
  | .seq a b => .seq (toA a) (toA b)
  | .cond c a b => .cond c (toA a) (toA b)
  | .block i b => .block i (toA b)
  | .loop b => .loop (toA b)
  | .exit i => .exit i
  | .ret => .ret
  | .fix t b => .fix t (toA b)
  | .range k f ps a b => .range k f ps (toA a) (toA b)
def okW : WC → Bool
  | .calm ops => Fz.calm ops
  | .same ops => okDraw ops
  | .seq a b => okW a && okW b
  | .cond _ a b => okW a && okW b
  | .block _ b => okW b
  | .loop b => okW b
  | .fix _ b => okW b
  | _ => true
abbrev QX := X → Env → List Ob → Prop
def WX (p : AP) (c : ACode) (e : Env) (H : List Ob) (Q : QX) : Prop := ∃ n x e' H', exec p n c e H = some (x, e', H') ∧ Q x e' H'
def thenQ (N : Env → List Ob → Prop) (Q : QX) : QX := fun x e H => match x with
  | .normal => N e H
  | .mayRet => False
  | x => Q x e H
def blockQ (id : Nat) (Q : QX) : QX := fun x e H => match x with
  | .exit i => if i = id then Q .normal e H else Q (.exit i) e H
  | x => Q x e H
def WRange (p : AP) (k : Nat) (f : V) (e : Env) (H : List Ob) (Q : QX) : Prop := ∃ ab g first cap, p.body k = some ab ∧ f = .fn (.func g) first cap ∧
  ∃ n r H2, doCall (callE p (exec p n)) (fun _ => true) g (first ++ [.yld H.length] ++ cap) (H ++ [.loop k ab.keep (ab.keep.map e) .ready]) = some (r, H2) ∧ ∃ x e' H', endRange H.length e (some (r, H2)) = some (x, e', H') ∧ Q x e' H'
def WL (p : AP) (b : WC) (e : Env) (H : List Ob) (Q : QX) : Prop := WX p (.loop (toA b)) e H Q
def wFixV (v : V) (H : List Ob) (K : V → List Ob → Prop) : Prop := ∃ v' H', freezeV depthF v H = some (v', H') ∧ K v' H'
def wFixH (H : List Ob) (K : List Ob → Prop) : Prop := ∃ H', freezeObs 0 H H = some H' ∧ K H'
def wJoin (A B : QX → Prop) (Q : QX) : Prop := ∃ x e1 e2 H', A (fun x' e' H'' => x' = x ∧ e' = e1 ∧ H'' = H') ∧ B (fun x' e' H'' => x' = x ∧ e' = e2 ∧ H'' = H') ∧ (xEq x x = true ∧ obsEq H' H' = true) ∧ Q x (joinE e1 e2) H'
def wCond (v : V) (P N J : Prop) : Prop := match v with
  | .bool b => if b = true then P else N
  | .anyb => J
  | _ => False
def wx (p : AP) : WC → Env → List Ob → QX → Prop
  | .skip, e, H, Q => Q .normal e H
  | .reg ops, e, H, Q => wOps p Q ops e H
  | .calm ops, e, H, Q => wCalm p Q ops e H
  | .same ops, e, H, Q => wSame p Q ops e H
  | .draw ops, e, H, Q => WDraw p ops e H Q
  | .seq a b, e, H, Q => wx p a e H (thenQ (fun e H => wx p b e H Q) Q)
  | .cond c a b, e, H, Q => wCond (evO e c) (wx p a e H Q) (wx p b e H Q) (wJoin (wx p a e H) (wx p b e H) Q)
  | .block id b, e, H, Q => wx p b e H (blockQ id Q)
  | .loop b, e, H, Q => WL p b e H Q
  | .exit id, e, H, Q => Q (.exit id) e H
  | .ret, e, H, Q => Q .ret e H
  | .fix (some t) b, e, H, Q => wFixV (e t) H fun v H' => wx p b (upd e t v) H' Q
  | .fix none b, e, H, Q => wFixH H fun H' => wx p b e H' Q
  | .range k f _ _ _, e, H, Q => WRange p k (evO e f) e H Q
theorem WX_draw {p : AP} {ops : List AO} {e : Env} {H : List Ob} {Q : QX} (h : WDraw p ops e H Q) : WX p (.region ops true) e H Q := by
  obtain ⟨n, x, e', H', h1, h2⟩ := h
  exact ⟨n + 1, x, e', H', by unfold exec; exact h1, h2⟩
theorem wx_ok {p : AP} (c : WC) : ∀ (e : Env) (H : List Ob) (Q : QX), okW c = true → wx p c e H Q → WX p (toA c) e H Q := by
  induction c with
  | skip => intro e H Q _ h; exact ⟨1, _, _, _, rfl, h⟩
  | reg ops =>
    intro e H Q hc h
    obtain ⟨n, x, e', H', h1, h2⟩ := wOps_ok ops e H h
    exact ⟨n + 1, x, e', H', by unfold toA exec; exact h1, h2⟩
  | calm ops => intro e H Q hc h; exact WX_draw (WDraw_calm hc h)
  | same ops => intro e H Q hc h; exact WX_draw (WDraw_same hc h)
  | draw ops => intro e H Q hc h; exact WX_draw h
  | seq a b iha ihb =>
    intro e H Q hc h
    rw [okW, Bool.and_eq_true] at hc
    unfold wx at h
    obtain ⟨n, x, e', H', h1, h2⟩ := iha e H _ hc.1 h
    unfold toA
    cases x with
    | normal =>
      obtain ⟨m, x, e'', H'', h3, h4⟩ := ihb e' H' Q hc.2 h2
      refine ⟨max n m + 1, x, e'', H'', ?_, h4⟩
      rw [exec, exec_le p (Nat.le_max_left n m) _ _ _ _ h1]
      exact exec_le p (Nat.le_max_right n m) _ _ _ _ h3
    | mayRet => cases h2
    | _ => exact ⟨n + 1, _, _, _, by rw [exec, h1], h2⟩
  | cond c a b iha ihb =>
    intro e H Q hc h
    rw [okW, Bool.and_eq_true] at hc
    unfold wx wCond at h
    unfold toA
    cases hv : evO e c with
    | bool t =>
      rw [hv] at h
      cases t with
      | true =>
        obtain ⟨n, x, e', H', h1, h2⟩ := iha e H Q hc.1 h
        exact ⟨n + 1, x, e', H', by rw [exec, hv]; exact h1, h2⟩
      | false =>
        obtain ⟨n, x, e', H', h1, h2⟩ := ihb e H Q hc.2 h
        exact ⟨n + 1, x, e', H', by rw [exec, hv]; exact h1, h2⟩
    | anyb =>
      rw [hv] at h
      obtain ⟨x, e1, e2, H1, h1, h2, h3, h4⟩ := h
      obtain ⟨n, x1, e1', H1', g1, rfl, rfl, rfl⟩ := iha e H _ hc.1 h1
      obtain ⟨m, x2, e2', H2', g2, rfl, rfl, rfl⟩ := ihb e H _ hc.2 h2
      refine ⟨max n m + 1, _, _, _, ?_, h4⟩
      rw [exec, hv]
      dsimp only
      rw [exec_le p (Nat.le_max_left n m) _ _ _ _ g1, exec_le p (Nat.le_max_right n m) _ _ _ _ g2]
      simp only [joinR, h3.1, h3.2, if_true]
    | _ => rw [hv] at h; cases h
  | block id b ih =>
    intro e H Q hc h
    unfold wx at h
    unfold toA
    obtain ⟨n, x, e', H', h1, h2⟩ := ih e H _ hc h
    unfold blockQ at h2
    split at h2
    · rename_i i
      split at h2
      · rename_i hi; exact ⟨n + 1, _, _, _, by rw [exec, h1]; simp only [if_pos hi], h2⟩
      · rename_i hi; exact ⟨n + 1, _, _, _, by rw [exec, h1]; simp only [if_neg hi], h2⟩
    · rename_i hx
      refine ⟨n + 1, x, e', H', ?_, h2⟩
      rw [exec, h1]
      cases x with
      | exit i => exact absurd rfl (hx i)
      | _ => rfl
  | loop b ih => intro e H Q hc h; exact h
  | fix t b ih =>
    intro e H Q hc h
    unfold toA
    cases t with
    | some t =>
      unfold wx at h
      obtain ⟨v, H1, h1, h2⟩ := h
      obtain ⟨n, x, e', H', h3, h4⟩ := ih _ _ Q hc h2
      exact ⟨n + 1, x, e', H', by rw [exec, h1]; exact h3, h4⟩
    | none =>
      unfold wx at h
      obtain ⟨H1, h1, h2⟩ := h
      obtain ⟨n, x, e', H', h3, h4⟩ := ih _ _ Q hc h2
      exact ⟨n + 1, x, e', H', by rw [exec, h1]; exact h3, h4⟩
  | range k f ps a b _ _ =>
    intro e H Q _ h
    obtain ⟨ab, g, first, cap, h1, h2, n, r, H2, h3, x, e', H', h4, h5⟩ := h
    refine ⟨n + 1, x, e', H', ?_, h5⟩
    unfold toA
    rw [exec, h1, h2]
    dsimp only
    rw [h3]; exact h4
  | exit id => intro e H Q _ h; exact ⟨1, _, _, _, rfl, h⟩
  | ret => intro e H Q _ h; exact ⟨1, _, _, _, rfl, h⟩
def loopQ (I : Nat → Env → List Ob → Prop) (k : Nat) (Q : QX) : QX := fun x e H => match x with
  | .normal => ∃ k', k' < k ∧ I k' e H
  | .mayRet => False
  | x => Q x e H
theorem WL_by {p : AP} {b : WC} {Q : QX} {e : Env} {H : List Ob} (hc : okW b = true) (I : Nat → Env → List Ob → Prop) (k : Nat) (h : I k e H)
    (step : ∀ k e H, I k e H → wx p b e H (loopQ I k Q)) : WL p b e H Q := by
  unfold WL
  induction k using Nat.strongRecOn generalizing e H with
  | _ k ih =>
    obtain ⟨n, x, e', H', h1, h2⟩ := wx_ok b e H _ hc (step k e H h)
    cases x with
    | normal =>
      obtain ⟨k', hk, hI⟩ := h2
      obtain ⟨m, x, e'', H'', h3, h4⟩ := ih k' hk hI
      refine ⟨max n m + 1, x, e'', H'', ?_, h4⟩
      rw [exec, exec_le p (Nat.le_max_left n m) _ _ _ _ h1]
      exact exec_le p (Nat.le_max_right n m) _ _ _ _ h3
    | mayRet => cases h2
    | _ => exact ⟨n + 1, _, _, _, by rw [exec, h1], h2⟩
def wResult (e : Env) (H : List Ob) (K : V → Prop) : Nat × Option (Bool × Nat) → Prop
  | (t, none) => K (e t)
  | (t, some (agg, n)) => wPeek H n (e t) fun l => if agg = true then K (.agg l) else ∃ v, l = [v] ∧ K v
def wResults (e : Env) (H : List Ob) : List (Nat × Option (Bool × Nat)) → (List V → Prop) → Prop
  | [], K => K []
  | r :: rs, K => wResult e H (fun v => wResults e H rs fun l => K (v :: l)) r
def tupV : List V → V
  | [v] => v
  | l => .tuple l
def finQ (rs : List (Nat × Option (Bool × Nat))) (Q : CR → List Ob → Prop) : QX := fun x e H => match x with
  | .normal => wResults e H rs fun l => Q (.ret (tupV l)) H
  | .ret => wResults e H rs fun l => Q (.ret (tupV l)) H
  | .panic v => Q (.panic v) H
  | .exit _ => False
  | .mayRet => False
theorem wResult_ok {e : Env} {H : List Ob} {K : V → Prop} {r : Nat × Option (Bool × Nat)} (h : wResult e H K r) : ∃ v, resultV e H r = some v ∧ K v := by
  obtain ⟨t, o⟩ := r
  cases o with
  | none => exact ⟨_, rfl, h⟩
  | some q =>
    obtain ⟨agg, n⟩ := q
    obtain ⟨l, h1, h2⟩ := wPeek_ok (show wPeek H n (e t) (fun l => if agg = true then K (.agg l) else ∃ v, l = [v] ∧ K v) from h)
    cases agg with
    | true => exact ⟨_, by simp only [resultV, h1]; rfl, h2⟩
    | false =>
      rw [if_neg Bool.false_ne_true] at h2
      obtain ⟨v, rfl, h2⟩ := h2
      exact ⟨v, by simp only [resultV, h1]; rfl, h2⟩
theorem wResults_ok {e : Env} {H : List Ob} : ∀ {rs : List (Nat × Option (Bool × Nat))} {K : List V → Prop}, wResults e H rs K → ∃ l, resultsV e H rs = some l ∧ K l
  | [], K, h => ⟨[], rfl, h⟩
  | r :: rs, K, h => by
    obtain ⟨v, h1, h2⟩ := wResult_ok h
    obtain ⟨l, h3, h4⟩ := wResults_ok h2
    exact ⟨v :: l, by rw [resultsV, h1, h3], h4⟩
theorem resultOf_eq {e : Env} {H : List Ob} {rs : List (Nat × Option (Bool × Nat))} {l : List V} (h : resultsV e H rs = some l) : resultOf e H rs = some (tupV l) := by
  unfold resultOf
  rw [h]
  match l with
  | [] => rfl
  | [v] => rfl
  | _ :: _ :: _ => rfl
def WFun (p : AP) (f : FuncId) (args : List V) (H : List Ob) (Q : CR → List Ob → Prop) : Prop := ∃ n r H', acall p n f args H = some (r, H') ∧ Q r H'
structure WF where
  nt : Nat
  results : List (Nat × Option (Bool × Nat))
  code : WC
  dfr : Option (List WC × List AO × Opd × WC) := none
  rcv : Option Nat := none
def WF.toA (w : WF) : AFun := { nt := w.nt, results := w.results, code := Fz.toA w.code, dfr := w.dfr.map fun x => (x.1.map Fz.toA, x.2.1, x.2.2.1, Fz.toA x.2.2.2), rcv := w.rcv }
def okD (w : WF) : Bool := match w.dfr with
  | some (pre, _, _, r) => pre.all okW && okW r
  | none => true
theorem WFun_of {p : AP} {f : FuncId} (w : WF) {args : List V} {H : List Ob} {Q : CR → List Ob → Prop} (hp : p.prim f = none) (hf : p.fn f = some w.toA)
    (hc : okW w.code = true) (h : wx p w.code (env0 args) H (finQ w.results Q)) (hY : f ≠ YF := by decide) (hd : w.dfr = none := by rfl) (hr : w.rcv = none := by rfl) : WFun p f args H Q := by
  obtain ⟨n, x, e, H', h1, h2⟩ := wx_ok _ _ _ _ hc h
  cases x with
  | normal =>
    obtain ⟨l, h3, h4⟩ := wResults_ok h2
    exact ⟨n, _, H', by simp only [acall, callW, if_neg hY, hp, hf, runFn, WF.toA, hd, hr, h1, finishF, resultOf_eq h3, Option.map_some, Option.map_none], h4⟩
  | ret =>
    obtain ⟨l, h3, h4⟩ := wResults_ok h2
    exact ⟨n, _, H', by simp only [acall, callW, if_neg hY, hp, hf, runFn, WF.toA, hd, hr, h1, finishF, resultOf_eq h3, Option.map_some, Option.map_none], h4⟩
  | panic v => exact ⟨n, _, H', by simp only [acall, callW, if_neg hY, hp, hf, runFn, WF.toA, hd, hr, h1, finishF, Option.map_none], h2⟩
  | exit _ => cases h2
  | mayRet => cases h2
def shal : Nat → V → Bool
  | 0, _ => false
  | k + 1, v => match v with
    | .agg l => l.all (shal k)
    | .tuple l => l.all (shal k)
    | _ => true
def gr (v : V) : Bool := ground v && shal depthF v
theorem freeze_gr : ∀ (k : Nat) (v : V) (H : List Ob), ground v = true → shal k v = true → freezeV k v H = some (v, H) := by
  intro k
  induction k with
  | zero => intro v H _ h; cases h
  | succ k ih =>
    have hl : ∀ (l : List V) (H : List Ob), l.all ground = true → l.all (shal k) = true → mapS (freezeV k) l H = some (l, H) := by
      intro l
      induction l with
      | nil => intros; rfl
      | cons v l ihl =>
        intro H h1 h2
        rw [List.all_cons, Bool.and_eq_true] at h1 h2
        rw [mapS, ih v H h1.1 h2.1]
        dsimp only
        rw [ihl H h1.2 h2.2]
    intro v H h1 h2
    cases v with
    | agg l => simp only [freezeV, hl l H (by rw [← groundL_eq]; simpa only [ground] using h1) (by simpa only [shal] using h2), Option.map_some]
    | tuple l => simp only [freezeV, hl l H (by rw [← groundL_eq]; simpa only [ground] using h1) (by simpa only [shal] using h2), Option.map_some]
    | own _ _ _ _ => cases h1
    | mref _ => cases h1
    | _ => rfl
theorem grs_freeze {l : List V} (h : l.all gr = true) (H : List Ob) : mapS (freezeV depthF) l H = some (l, H) := by
  induction l with
  | nil => rfl
  | cons v l ih =>
    rw [List.all_cons, Bool.and_eq_true] at h
    unfold gr at h
    rw [Bool.and_eq_true] at h
    rw [mapS, freeze_gr _ _ _ h.1.1 h.1.2]
    dsimp only
    rw [ih h.2]
theorem grs_ground {l : List V} (h : l.all gr = true) : groundL l = true := by
  rw [groundL_eq, List.all_eq_true] at *
  intro v hv
  have := h v hv
  unfold gr at this
  exact (Bool.and_eq_true _ _ ▸ this).1
mutual
theorem ground_ren (g : Nat → Nat) : ∀ (v : V), ground v = true → ren g v = v := by
  intro v h
  cases v with
  | ptr _ _ => cases h
  | own _ _ _ _ => cases h
  | mref _ => cases h
  | any => cases h
  | yld _ => cases h
  | ref l => rw [ren, groundL_ren g l h]
  | list l c => rw [ren, groundL_ren g l h]
  | agg l => rw [ren, groundL_ren g l h]
  | tuple l => rw [ren, groundL_ren g l h]
  | fn f a b =>
    rw [ground, Bool.and_eq_true] at h
    rw [ren, groundL_ren g a h.1, groundL_ren g b h.2]
  | iface t v => rw [ren, ground_ren g v h]
  | map a b =>
    rw [ground, Bool.and_eq_true] at h
    rw [ren, groundL_ren g a h.1, groundL_ren g b h.2]
  | _ => rfl
theorem groundL_ren (g : Nat → Nat) : ∀ (l : List V), groundL l = true → renL g l = l := by
  intro l h
  cases l with
  | nil => rfl
  | cons v l =>
    rw [groundL, Bool.and_eq_true] at h
    rw [renL, ground_ren g v h.1, groundL_ren g l h.2]
end
mutual
def nm : V → Bool
  | .list l c => !c && nmL l
  | .agg l => nmL l
  | .tuple l => nmL l
  | .iface _ v => nm v
  | _ => true
def nmL : List V → Bool
  | [] => true
  | v :: l => nm v && nmL l
end
mutual
theorem nrm_nm : ∀ (v : V), nm v = true → nrm v = v := by
  intro v h
  cases v with
  | list l c =>
    simp only [nm, Bool.and_eq_true, Bool.not_eq_true'] at h
    rw [nrm, nrmL_nm l h.2, h.1]
  | agg l => rw [nrm, nrmL_nm l (by simpa only [nm] using h)]
  | tuple l => rw [nrm, nrmL_nm l (by simpa only [nm] using h)]
  | iface t v => rw [nrm, nrm_nm v (by simpa only [nm] using h)]
  | _ => rfl
theorem nrmL_nm : ∀ (l : List V), nmL l = true → nrmL l = l := by
  intro l h
  cases l with
  | nil => rfl
  | cons v l =>
    rw [nmL, Bool.and_eq_true] at h
    rw [nrmL, nrm_nm v h.1, nrmL_nm l h.2]
end
theorem nmL_eq (l : List V) : nmL l = l.all nm := by
  induction l with
  | nil => rfl
  | cons v l ih => rw [nmL, ih, List.all_cons]
theorem nrms_nm {l : List V} (h : l.all nm = true) : l.map nrm = l := by
  rw [← nrmL_eq]; exact nrmL_nm l (by rw [nmL_eq]; exact h)
def Comes (p : AP) (f : FuncId) (args : List V) (v : V) : Prop :=
  args.all gr = true ∧ gr v = true ∧ (p.inlY f || args.all nm) = true ∧ ∃ n u H', acall p n f args [] = some (.ret u, H') ∧
    (p.inlY f = true ∧ u = v ∨ p.inlY f = false ∧ ∃ u' H'', freezeV depthF u H' = some (u', H'') ∧ nrm u' = v)
theorem Comes.doCall {p : AP} {f : FuncId} {args : List V} {v : V} (h : Comes p f args v) : ∃ n, ∀ H, doCall (acall p n) p.inlY f args H = some (.ret v, H) := by
  obtain ⟨h1, h2, h0, n, u, H', h3, h4⟩ := h
  refine ⟨n, fun H => ?_⟩
  have hg : ground v = true := by unfold gr at h2; exact (Bool.and_eq_true _ _ ▸ h2).1
  have ha : (if p.inlY f = true then some (args, H) else (mapS (freezeV depthF) args H).map fun x => (x.1.map nrm, x.2)) = some (args, H) := by
    split
    · rfl
    · rename_i hi
      rw [Bool.or_eq_true] at h0
      rw [grs_freeze h1 H, Option.map_some, nrms_nm (h0.resolve_left hi)]
  have hs : ∃ H'', (if p.inlY f = true then some (CR.ret u, H') else settleR 0 (.ret u) H') = some (.ret v, H'') := by
    rcases h4 with ⟨h4, rfl⟩ | ⟨h4, u', H'', h5, h6⟩
    · exact ⟨H', if_pos h4⟩
    · refine ⟨H'', ?_⟩
      rw [if_neg (by rw [h4]; exact Bool.false_ne_true)]
      unfold settleR
      rw [List.take_zero, freezeObs]
      dsimp only
      rw [h5, Option.map_some, h6]
  obtain ⟨H'', hs⟩ := hs
  unfold Fz.doCall
  rw [ha]
  dsimp only
  rw [groundL_refs _ (grs_ground h1), show reach H 1000 [] [] = some [] from rfl]
  dsimp only
  rw [groundL_ren _ _ (grs_ground h1), List.map_nil, h3]
  dsimp only
  rw [List.length_nil, hs]
  dsimp only
  rw [if_pos (Nat.zero_le _), List.take_zero, List.map_nil, setAll.eq_def]
  dsimp only
  rw [crV, ground_refs _ hg, List.flatMap_nil, List.append_nil, List.any_nil, if_neg Bool.false_ne_true, renR, ground_ren _ _ hg]
theorem WCall_fn {p : AP} {f : FuncId} {args : List V} {v : V} (h : Comes p f args v) (H : List Ob) (Q : CR → List Ob → Prop) : WCall p f args H Q = Q (.ret v) H := by
  obtain ⟨n, hn⟩ := h.doCall
  refine propext ⟨?_, fun hq => ⟨n, _, _, hn H, hq⟩⟩
  rintro ⟨m, r, H', h1, h2⟩
  have e1 := doCall_mono (acall_le p (Nat.le_max_left m n)) p.inlY _ _ _ _ h1
  have e2 := doCall_mono (acall_le p (Nat.le_max_right m n)) p.inlY _ _ _ _ (hn H)
  rw [e1] at e2
  cases e2
  exact h2
def wFix (p : AP) (f : FuncId) (v : V) (r : CR) (H : List Ob) : Prop := match r with
  | .ret u => p.inlY f = true ∧ u = v ∨ p.inlY f = false ∧ ∃ u' H'', freezeV depthF u H = some (u', H'') ∧ nrm u' = v
  | .panic _ => False
theorem Comes_of {p : AP} {f : FuncId} (w : WF) {args : List V} {v : V} (hp : p.prim f = none) (hf : p.fn f = some w.toA)
    (hc : okW w.code = true) (ha : args.all gr = true) (hn : (p.inlY f || args.all nm) = true) (hv : gr v = true) (h : wx p w.code (env0 args) [] (finQ w.results (wFix p f v))) (hY : f ≠ YF := by decide) (hd : w.dfr = none := by rfl) (hr : w.rcv = none := by rfl) : Comes p f args v := by
  obtain ⟨n, r, H', h1, h2⟩ := WFun_of w hp hf hc h hY hd hr
  cases r with
  | panic _ => cases h2
  | ret u => exact ⟨ha, hv, hn, n, u, H', h1, h2⟩
end Fz
namespace Fz
open Go
class Tok {α : Sort _} (a : α) : Type where
instance {α : Sort _} (a : α) : Tok a := ⟨⟩
def xFixV (v : V) (H : List Ob) (K : V → List Ob → Prop) [Tok K] : Prop := wFixV v H K
def xFixH (H : List Ob) (K : List Ob → Prop) [Tok K] : Prop := wFixH H K
def xInt (v : V) (K : IntKind → Int → Prop) [Tok K] : Prop := wInt v K
def xBool (v : V) (P N : Prop) [Tok P] [Tok N] : Prop := wBool v P N
def xNat (o : Option V) (d : Nat) (K : Nat → Prop) [Tok K] [Tok d] : Prop := wNat o d K
def xPeek (H : List Ob) (n : Nat) (v : V) (K : List V → Prop) [Tok K] [Tok H] : Prop := wPeek H n v K
def xElems (H : List Ob) (n : Nat) (v : V) (K : List V → Nat → Prop) [Tok K] [Tok H] : Prop := wElems H n v K
def xSlice (H : List Ob) (k : SlK) (x : V) (lo hi mx : Option V) (K : V → Prop) [Tok K] [Tok H] : Prop := wSlice H k x lo hi mx K
def xAppend (H : List Ob) (n bytes : Nat) (s : V) (xs : List V) (k : Nat) (Q : V → List Ob → Prop) [Tok Q] [Tok H] : Prop := wAppend H n bytes s xs k Q
def xBin (op : BinOp) (ek : EqK) (x y : V) (K : V → Prop) [Tok K] : Prop := wBin op ek x y K
def xUn (op : UnOp) (x : V) (K : V → Prop) [Tok K] : Prop := wUn op x K
def xL (p : AP) (b : WC) (e : Env) (H : List Ob) (Q : QX) [Tok b] [Tok e] [Tok H] [Tok Q] : Prop := WL p b e H Q
def xDraw (p : AP) (ops : List AO) (e : Env) (H : List Ob) (Q : QX) [Tok ops] [Tok e] [Tok H] [Tok Q] : Prop := WDraw p ops e H Q
def xCall (p : AP) (f : FuncId) (args : List V) (H : List Ob) (Q : CR → List Ob → Prop) [Tok H] [Tok Q] : Prop := WCall p f args H Q
def xQuiet (p : AP) (f : FuncId) (args : List V) (H : List Ob) (K : V → Prop) [Tok H] [Tok K] : Prop := WQuiet p f args H K
def wVal {α : Type} (x : α) (K : α → Prop) [Tok K] : Prop := K x
def wGuardV (v : V) (w : Bool) (P N : Prop) [Tok P] [Tok N] : Prop := match v with
  | .bool b => if b = w then P else N
  | .tuple l => l = [] ∧ N
  | _ => False
def wGet (l : List V) (i : Nat) (K : V → Prop) [Tok K] : Prop := ∃ v, l[i]? = some v ∧ K v
def wAt {α : Type} (l : List α) (i : Nat) (K : α → Prop) [Tok K] : Prop := ∃ v, l[i]? = some v ∧ K v
def wLive (H : List Ob) (id : Nat) (K : List V → Prop) [Tok K] : Prop := ∃ l, (H[id]? = some (.live l) ∨ H[id]? = some (.fixed l)) ∧ K l
def wMut (H : List Ob) (id : Nat) (K : List V → Prop) [Tok K] : Prop := ∃ l, H[id]? = some (.live l) ∧ K l
def wOne (l : List V) (K : V → Prop) [Tok K] : Prop := ∃ v, l = [v] ∧ K v
section code
variable {p : AP} {e : Env} {H : List Ob} {Q : QX}
@[simp ↓] theorem wx_skip : wx p .skip e H Q = Q .normal e H := (rfl)
@[simp ↓] theorem wx_reg {ops : List AO} : wx p (.reg ops) e H Q = wOps p Q ops e H := (rfl)
@[simp ↓] theorem wx_calm {ops : List AO} : wx p (.calm ops) e H Q = wCalm p Q ops e H := (rfl)
@[simp ↓] theorem wx_same {ops : List AO} : wx p (.same ops) e H Q = wSame p Q ops e H := (rfl)
@[simp ↓] theorem wx_draw {ops : List AO} : wx p (.draw ops) e H Q = xDraw p ops e H Q := (rfl)
@[simp ↓] theorem wx_seq {a b : WC} : wx p (.seq a b) e H Q = wx p a e H (thenQ (fun e H => wx p b e H Q) Q) := (rfl)
def xCond (v : V) (P N J : Prop) [Tok P] [Tok N] [Tok J] : Prop := wCond v P N J
@[simp] theorem xCond_bool {b : Bool} {P N J : Prop} : xCond (.bool b) P N J = if b = true then P else N := (rfl)
@[simp ↓] theorem wx_cond {c : Opd} {a b : WC} : wx p (.cond c a b) e H Q = xCond (evO e c) (wx p a e H Q) (wx p b e H Q) (wJoin (wx p a e H) (wx p b e H) Q) := (rfl)
@[simp ↓] theorem wx_block {i : Nat} {b : WC} : wx p (.block i b) e H Q = wx p b e H (blockQ i Q) := (rfl)
@[simp ↓] theorem wx_loop {b : WC} : wx p (.loop b) e H Q = xL p b e H Q := (rfl)
@[simp ↓] theorem wx_exit {i : Nat} : wx p (.exit i) e H Q = Q (.exit i) e H := (rfl)
@[simp ↓] theorem wx_fixT {t : Nat} {b : WC} : wx p (.fix (some t) b) e H Q = xFixV (e t) H fun v H' => wVal v fun v => wx p b (upd e t v) H' Q := (rfl)
@[simp ↓] theorem wx_fixH {b : WC} : wx p (.fix none b) e H Q = xFixH H fun H' => wx p b e H' Q := (rfl)
@[simp ↓] theorem wx_ret : wx p .ret e H Q = Q .ret e H := (rfl)
@[simp ↓] theorem thenQ_normal {N : Env → List Ob → Prop} : thenQ N Q .normal e H = N e H := (rfl)
@[simp ↓] theorem thenQ_exit {N : Env → List Ob → Prop} {i : Nat} : thenQ N Q (.exit i) e H = Q (.exit i) e H := (rfl)
@[simp ↓] theorem thenQ_ret {N : Env → List Ob → Prop} : thenQ N Q .ret e H = Q .ret e H := (rfl)
@[simp ↓] theorem thenQ_panic {N : Env → List Ob → Prop} {v : V} : thenQ N Q (.panic v) e H = Q (.panic v) e H := (rfl)
@[simp ↓] theorem blockQ_normal {i : Nat} : blockQ i Q .normal e H = Q .normal e H := (rfl)
@[simp ↓] theorem blockQ_exit {i j : Nat} : blockQ i Q (.exit j) e H = if j = i then Q .normal e H else Q (.exit j) e H := (rfl)
@[simp ↓] theorem blockQ_ret {i : Nat} : blockQ i Q .ret e H = Q .ret e H := (rfl)
@[simp ↓] theorem blockQ_panic {i : Nat} {v : V} : blockQ i Q (.panic v) e H = Q (.panic v) e H := (rfl)
section
variable {I : Nat → Env → List Ob → Prop} {k : Nat}
def again (I : Nat → Env → List Ob → Prop) (k : Nat) (e : Env) (H : List Ob) [Tok I] [Tok k] [Tok e] [Tok H] : Prop := ∃ k', k' < k ∧ I k' e H
@[simp ↓] theorem loopQ_normal : loopQ I k Q .normal e H = again I k e H := (rfl)
@[simp ↓] theorem loopQ_exit {j : Nat} : loopQ I k Q (.exit j) e H = Q (.exit j) e H := (rfl)
@[simp ↓] theorem loopQ_ret : loopQ I k Q .ret e H = Q .ret e H := (rfl)
@[simp ↓] theorem loopQ_panic {v : V} : loopQ I k Q (.panic v) e H = Q (.panic v) e H := (rfl)
end
section
variable {rs : List (Nat × Option (Bool × Nat))} {Q : CR → List Ob → Prop}
@[simp ↓] theorem finQ_normal : finQ rs Q .normal e H = wResults e H rs fun l => Q (.ret (tupV l)) H := (rfl)
@[simp ↓] theorem finQ_ret : finQ rs Q .ret e H = wResults e H rs fun l => Q (.ret (tupV l)) H := (rfl)
@[simp ↓] theorem finQ_panic {v : V} : finQ rs Q (.panic v) e H = Q (.panic v) H := (rfl)
@[simp ↓] theorem finQ_exit {i : Nat} : finQ rs Q (.exit i) e H = False := (rfl)
end
@[simp ↓] theorem wResults_nil {K : List V → Prop} : wResults e H [] K = K [] := (rfl)
@[simp ↓] theorem wResults_cons {K : List V → Prop} {r : Nat × Option (Bool × Nat)} {rs : List (Nat × Option (Bool × Nat))} : wResults e H (r :: rs) K = wResult e H (fun v => wResults e H rs fun l => K (v :: l)) r := (rfl)
@[simp ↓] theorem wResult_none {K : V → Prop} {t : Nat} : wResult e H K (t, none) = wVal (e t) K := (rfl)
@[simp ↓] theorem wResult_agg {K : V → Prop} {t n : Nat} : wResult e H K (t, some (true, n)) = xPeek H n (e t) fun l => wVal l fun l => K (.agg l) := (rfl)
@[simp ↓] theorem wResult_cell {K : V → Prop} {t n : Nat} : wResult e H K (t, some (false, n)) = xPeek H n (e t) fun l => wOne l K := (rfl)
@[simp ↓] theorem wOps_nil : wOps p Q [] e H = Q .normal e H := (rfl)
@[simp ↓] theorem wOps_none {op : AOp} {af : List Nat} {ef : Bool} {r : List AO} :
    wOps p Q (⟨none, op, none, af, ef⟩ :: r) e H = wAct p e H (fun _ H' => wOps p Q r e H') (fun v H' => Q (.panic v) e H') op := (rfl)
@[simp ↓] theorem wOps_some {d : Nat} {op : AOp} {af : List Nat} {ef : Bool} {r : List AO} :
    wOps p Q (⟨some d, op, none, af, ef⟩ :: r) e H = wAct p e H (fun v H' => wVal v fun v => wOps p Q r (upd e d v) H') (fun v H' => Q (.panic v) e H') op := (rfl)
@[simp ↓] theorem wOps_guard {d : Option Nat} {op : AOp} {t : Nat} {w : Bool} {af : List Nat} {ef : Bool} {r : List AO} :
    wOps p Q (⟨d, op, some (t, w), af, ef⟩ :: r) e H = wGuardV (e t) w (wAct p e H (fun v H' => wVal v fun v => wOps p Q r (putE e d v) H') (fun v H' => Q (.panic v) e H') op) (wOps p Q r (putE e d uv) H) := (rfl)
@[simp ↓] theorem wCalm_nil : wCalm p Q [] e H = Q .normal e H := (rfl)
@[simp ↓] theorem wCalm_eff {d : Option Nat} {op : AOp} {af : List Nat} {r : List AO} :
    wCalm p Q (⟨d, op, none, af, true⟩ :: r) e H = wAct p e H (fun v H' => wVal v fun v => wCalm p Q r (putE e d v) H') (fun _ _ => False) op := (rfl)
@[simp ↓] theorem wCalm_effG {d : Option Nat} {op : AOp} {t : Nat} {w : Bool} {af : List Nat} {r : List AO} :
    wCalm p Q (⟨d, op, some (t, w), af, true⟩ :: r) e H = wGuardV (e t) w (wAct p e H (fun v H' => wVal v fun v => wCalm p Q r (putE e d v) H') (fun _ _ => False) op) (wCalm p Q r (putE e d uv) H) := (rfl)
@[simp ↓] theorem wCalm_q {d : Option Nat} {op : AOp} {af : List Nat} {r : List AO} :
    wCalm p Q (⟨d, op, none, af, false⟩ :: r) e H = wQ p e H (fun v => wVal v fun v => wCalm p Q r (putE e d v) H) op := (rfl)
@[simp ↓] theorem wCalm_qG {d : Option Nat} {op : AOp} {t : Nat} {w : Bool} {af : List Nat} {r : List AO} :
    wCalm p Q (⟨d, op, some (t, w), af, false⟩ :: r) e H = wGuardV (e t) w (wQ p e H (fun v => wVal v fun v => wCalm p Q r (putE e d v) H) op) (wCalm p Q r (putE e d uv) H) := (rfl)
@[simp ↓] theorem wSame_nil : wSame p Q [] e H = Q .normal e H := (rfl)
@[simp ↓] theorem wSame_eff {d : Option Nat} {op : AOp} {af : List Nat} {r : List AO} :
    wSame p Q (⟨d, op, none, af, true⟩ :: r) e H = wAct p e H (fun v H' => H' = H ∧ wVal v fun v => wSame p Q r (putE e d v) H) (fun _ _ => False) op := (rfl)
@[simp ↓] theorem wSame_effG {d : Option Nat} {op : AOp} {t : Nat} {w : Bool} {af : List Nat} {r : List AO} :
    wSame p Q (⟨d, op, some (t, w), af, true⟩ :: r) e H = wGuardV (e t) w (wAct p e H (fun v H' => H' = H ∧ wVal v fun v => wSame p Q r (putE e d v) H) (fun _ _ => False) op) (wSame p Q r (putE e d uv) H) := (rfl)
@[simp ↓] theorem wSame_q {d : Option Nat} {op : AOp} {af : List Nat} {r : List AO} :
    wSame p Q (⟨d, op, none, af, false⟩ :: r) e H = wQ p e H (fun v => wVal v fun v => wSame p Q r (putE e d v) H) op := (rfl)
@[simp ↓] theorem wSame_qG {d : Option Nat} {op : AOp} {t : Nat} {w : Bool} {af : List Nat} {r : List AO} :
    wSame p Q (⟨d, op, some (t, w), af, false⟩ :: r) e H = wGuardV (e t) w (wQ p e H (fun v => wVal v fun v => wSame p Q r (putE e d v) H) op) (wSame p Q r (putE e d uv) H) := (rfl)
@[simp ↓] theorem putE_some {d : Nat} {v : V} : putE e (some d) v = upd e d v := (rfl)
@[simp ↓] theorem putE_none {v : V} : putE e none v = e := (rfl)
@[simp ↓] theorem upd_at {d i : Nat} {v : V} : upd e d v i = if i = d then v else e i := (rfl)
@[simp ↓] theorem evO_t {n : Nat} : evO e (.t n) = e n := (rfl)
@[simp ↓] theorem evO_c {v : V} : evO e (.c v) = v := (rfl)
@[simp] theorem env0_zero {v : V} {l : List V} : env0 (v :: l) 0 = v := (rfl)
@[simp] theorem env0_succ {v : V} {l : List V} {n : Nat} : env0 (v :: l) (n + 1) = env0 l n := (rfl)
@[simp] theorem env0_nil {n : Nat} : env0 [] n = uv := (rfl)
end code
section ops
variable {p : AP} {e : Env} {H : List Ob} {K R : V → List Ob → Prop} {ρ : Opd → V}
@[simp ↓] theorem wAct_call {f : FuncId} {l : List Opd} : wAct p e H K R (.call f l) = xCall p f (l.map (evO e)) H (wRet K R) := (rfl)
def wFnV (v : V) (K : FuncId → List V → List V → Prop) (Y : Nat → Prop) [Tok K] [Tok Y] : Prop := match v with
  | .fn (.func g) a b => g ≠ YF ∧ K g a b
  | .yld id => Y id
  | _ => False
@[simp] theorem wFnV_fn {g : FuncId} {a b : List V} {K : FuncId → List V → List V → Prop} {Y : Nat → Prop} : wFnV (.fn (.func g) a b) K Y = (g ≠ 4000000000 ∧ K g a b) := (rfl)
@[simp] theorem wFnV_yld {id : Nat} {K : FuncId → List V → List V → Prop} {Y : Nat → Prop} : wFnV (.yld id) K Y = Y id := (rfl)
@[simp ↓] theorem wAct_callv {f : Opd} {l : List Opd} : wAct p e H K R (.callv f l) = wFnV (evO e f) (fun g a b => xCall p g (a ++ l.map (evO e) ++ b) H (wRet K R)) (fun id => xCall p YF (.yld id :: l.map (evO e)) H (wRet K R)) := (rfl)
@[simp ↓] theorem wQ_call {f : FuncId} {l : List Opd} {K : V → Prop} : wQ p e H K (.call f l) = xQuiet p f (l.map (evO e)) H K := (rfl)
@[simp ↓] theorem wQ_callv {f : Opd} {l : List Opd} {K : V → Prop} : wQ p e H K (.callv f l) = wFnV (evO e f) (fun g a b => xQuiet p g (a ++ l.map (evO e) ++ b) H K) (fun _ => False) := (rfl)
@[simp ↓] theorem wRet_ret {Q : V → List Ob → Prop} {v : V} : wRet Q R (.ret v) H = Q v H := (rfl)
@[simp ↓] theorem wRet_panic {Q : V → List Ob → Prop} {v : V} : wRet Q R (.panic v) H = R v H := (rfl)
def wIface (v : V) (K : V → Prop) [Tok K] : Prop := match v with
  | .iface t v => K (.iface t v)
  | _ => False
@[simp] theorem wIface_iface {t : TypeId} {v : V} {K : V → Prop} : wIface (.iface t v) K = K (.iface t v) := (rfl)
@[simp ↓] theorem wAct_panic {x : Opd} : wAct p e H K R (.panic x) = wIface (evO e x) fun v => R v H := by
  simp only [wAct, wIface] <;> (split <;> simp_all)
def plain : AOp → Bool
  | .call _ _ | .callv _ _ | .panic _ => false
  | _ => true
def wStr (v : V) (K : ByteArray → Prop) [Tok K] : Prop := match v with
  | .str s => K s
  | _ => False
def wPtr (v : V) (K : Nat → Nat → Prop) [Tok K] : Prop := match v with
  | .ptr i o => K i o
  | _ => False
def wPR (v : V) (P : Nat → Nat → Prop) (R : List V → Prop) [Tok P] [Tok R] : Prop := match v with
  | .ptr i o => P i o
  | .ref l => R l
  | _ => False
def wSl (v : V) (L : List V → Bool → Prop) (O : Nat → Nat → Nat → Nat → Prop) [Tok L] [Tok O] : Prop := match v with
  | .list l c => L l c
  | .own a b c d => O a b c d
  | _ => False
def wAgg (v : V) (K : List V → Prop) [Tok K] : Prop := match v with
  | .agg l => K l
  | _ => False
def wTup (v : V) (K : List V → Prop) [Tok K] : Prop := match v with
  | .tuple l => K l
  | _ => False
def wNil (v : V) (K : V → Prop) [Tok K] : Prop := match v with
  | .ptr i o => K (.ptr i o)
  | .ref l => K (.ref l)
  | .fn (.func f) a b => K (.fn (.func f) a b)
  | _ => False
def wOpt {α : Type} (o : Option α) (K : α → Prop) [Tok K] : Prop := ∃ v, o = some v ∧ K v
variable {A : Prop}
@[simp] theorem wVal_eq {α : Type} {x : α} {K : α → Prop} : wVal x K = K x := (rfl)
@[simp] theorem wStr_str {s : ByteArray} {K : ByteArray → Prop} : wStr (.str s) K = K s := (rfl)
@[simp] theorem wPtr_ptr {i o : Nat} {K : Nat → Nat → Prop} : wPtr (.ptr i o) K = K i o := (rfl)
@[simp] theorem wPR_ptr {i o : Nat} {P : Nat → Nat → Prop} {R : List V → Prop} : wPR (.ptr i o) P R = P i o := (rfl)
@[simp] theorem wPR_ref {l : List V} {P : Nat → Nat → Prop} {R : List V → Prop} : wPR (.ref l) P R = R l := (rfl)
@[simp] theorem wSl_list {l : List V} {c : Bool} {L : List V → Bool → Prop} {O : Nat → Nat → Nat → Nat → Prop} : wSl (.list l c) L O = L l c := (rfl)
@[simp] theorem wSl_own {a b c d : Nat} {L : List V → Bool → Prop} {O : Nat → Nat → Nat → Nat → Prop} : wSl (.own a b c d) L O = O a b c d := (rfl)
@[simp] theorem wAgg_agg {l : List V} {K : List V → Prop} : wAgg (.agg l) K = K l := (rfl)
@[simp] theorem wTup_tuple {l : List V} {K : List V → Prop} : wTup (.tuple l) K = K l := (rfl)
@[simp] theorem wNil_ptr {i o : Nat} {K : V → Prop} : wNil (.ptr i o) K = K (.ptr i o) := (rfl)
@[simp] theorem wNil_ref {l : List V} {K : V → Prop} : wNil (.ref l) K = K (.ref l) := (rfl)
@[simp] theorem wNil_fn {f : FuncId} {a b : List V} {K : V → Prop} : wNil (.fn (.func f) a b) K = K (.fn (.func f) a b) := (rfl)
@[simp] theorem wOpt_some {α : Type} {x : α} {K : α → Prop} : wOpt (some x) K = K x := by simp [wOpt]
@[simp] theorem wOpt_none {α : Type} {K : α → Prop} : wOpt none K = False := by simp [wOpt]
@[simp] theorem wInt_int {k : IntKind} {n : Int} {K : IntKind → Int → Prop} : xInt (.int k n) K = K k n := (rfl)
@[simp] theorem wBool_bool {b : Bool} {P N : Prop} : xBool (.bool b) P N = if b = true then P else N := (rfl)
@[simp] theorem wGuardV_true {b : Bool} {P N : Prop} : wGuardV (.bool b) true P N = if b = true then P else N := (rfl)
@[simp] theorem wGuardV_false {b : Bool} {P N : Prop} : wGuardV (.bool b) false P N = if b = true then N else P := by
  cases b <;> simp [wGuardV]
@[simp] theorem wGuardV_uv {w : Bool} {P N : Prop} : wGuardV uv w P N = N := by simp [wGuardV, uv]
@[simp] theorem wNat_none {d : Nat} {K : Nat → Prop} : xNat none d K = wVal d K := (rfl)
@[simp] theorem wNat_some {k : IntKind} {i : Int} {d : Nat} {K : Nat → Prop} : xNat (some (.int k i)) d K = (0 ≤ i ∧ wVal i.toNat K) := (rfl)
@[simp] theorem wPeek_ref {n : Nat} {l : List V} {K : List V → Prop} : xPeek H n (.ref l) K = (n ≤ l.length ∧ wVal (l.take n) K) := (rfl)
@[simp] theorem wPeek_ptr {n i o : Nat} {K : List V → Prop} : xPeek H n (.ptr i o) K = wLive H i fun l => o + n ≤ l.length ∧ wVal ((l.drop o).take n) K := (rfl)
@[simp] theorem wElems_list {n : Nat} {l : List V} {c : Bool} {K : List V → Nat → Prop} : xElems H n (.list l c) K = (uni n l = true ∧ wVal (flat l) fun x => wVal l.length fun k => K x k) := (rfl)
@[simp] theorem wElems_own {n i o len m : Nat} {K : List V → Nat → Prop} : xElems H n (.own i o len m) K = (m = n ∧ xPeek H (len * n) (.ptr i o) fun x => K x len) := (rfl)
@[simp] theorem wElems_str {n : Nat} {s : ByteArray} {K : List V → Nat → Prop} : xElems H n (.str s) K = (n = 1 ∧ K (s.data.toList.map fun b => V.int .u8 b.toNat) s.size) := (rfl)
@[simp] theorem wSlice_list {n : Nat} {l : List V} {c : Bool} {lo hi mx : Option V} {K : V → Prop} : xSlice H (.sl n) (.list l c) lo hi mx K =
    ((mx.isSome && hi.isNone) = false ∧ uni n l = true ∧ xNat mx l.length fun m => xNat hi l.length fun h => xNat lo 0 fun o =>
      (o ≤ h ∧ h ≤ m ∧ m ≤ l.length) ∧ wVal (V.list ((l.drop o).take (h - o)) (if mx.isSome then m == h else c && h == l.length)) K) := (rfl)
@[simp] theorem wSlice_str {s : ByteArray} {lo hi mx : Option V} {K : V → Prop} : xSlice H .str (.str s) lo hi mx K =
    ((mx.isSome && hi.isNone) = false ∧ mx.isSome = false ∧ xNat hi s.size fun h => xNat lo 0 fun l => (l ≤ h ∧ h ≤ s.size) ∧ wVal (V.str (s.extract l h)) K) := (rfl)
@[simp] theorem wSlice_own {n id off len n' : Nat} {lo hi mx : Option V} {K : V → Prop} : xSlice H (.sl n) (.own id off len n') lo hi mx K =
    ((mx.isSome && hi.isNone) = false ∧ xNat mx len fun m => xNat hi len fun h => xNat lo 0 fun l => (n = n' ∧ l ≤ h ∧ h ≤ m ∧ m ≤ len) ∧
      K (if h = l ∧ (l ≠ 0 ∨ mx.isSome = true) then .list [] (mx.isSome && m == h) else .own id (off + l * n) (h - l) n)) := (rfl)
@[simp] theorem wSlice_arr {alen n id off : Nat} {lo hi mx : Option V} {K : V → Prop} : xSlice H (.arr alen n) (.ptr id off) lo hi mx K =
    ((mx.isSome && hi.isNone) = false ∧ xNat mx alen fun m => xNat hi alen fun h => xNat lo 0 fun l => xPeek H (alen * n) (.ptr id off) fun _ => (l ≤ h ∧ h ≤ m ∧ m ≤ alen) ∧
      K (if h = l then .list [] (m == h) else .own id (off + l * n) (h - l) n)) := (rfl)
@[simp] theorem wAppend_list {n bytes : Nat} {l : List V} {c : Bool} {xs : List V} {k : Nat} : xAppend H n bytes (.list l c) xs k K =
    if k = 0 then K (.list l c) H else (c = true ∧ uni n l = true ∧ xs.length = k * n ∧ capOk (l.length + k) bytes = true) ∧ wVal (flat l ++ xs) fun y =>
      K (.own H.length 0 (l.length + k) n) (H ++ [.live y]) := (rfl)
@[simp] theorem wAppend_own {n bytes id off len m : Nat} {xs : List V} {k : Nat} : xAppend H n bytes (.own id off len m) xs k K =
    (off = 0 ∧ if k = 0 then K (.own id off len m) H else wMut H id fun l => (m = n ∧ len * n ≤ l.length ∧ xs.all storable = true ∧ capOk (len + k) bytes = true) ∧
      wVal (l.take (len * n) ++ xs) fun y => K (.own H.length 0 (len + k) n) (H.set id .dead ++ [.live y])) := (rfl)
@[simp] theorem wGet_zero {v : V} {l : List V} {K : V → Prop} : wGet (v :: l) 0 K = K v := by simp [wGet]
@[simp] theorem wGet_succ {v : V} {l : List V} {n : Nat} {K : V → Prop} : wGet (v :: l) (n + 1) K = wGet l n K := by simp [wGet]
@[simp] theorem wGet_nil {n : Nat} {K : V → Prop} : wGet [] n K = False := by simp [wGet]
@[simp] theorem wGet_map {α : Type} {f : α → V} {l : List α} {n : Nat} {K : V → Prop} : wGet (l.map f) n K = wAt l n fun x => wVal (f x) K := by
  unfold wGet wAt wVal
  rw [List.getElem?_map]
  refine propext ⟨?_, ?_⟩
  · rintro ⟨v, h1, h2⟩
    obtain ⟨a, h3, rfl⟩ := Option.map_eq_some_iff.1 h1
    exact ⟨a, h3, h2⟩
  · rintro ⟨a, h1, h2⟩
    exact ⟨f a, by rw [h1]; rfl, h2⟩
@[simp] theorem wAt_eq {α : Type} [Inhabited α] {l : List α} {n : Nat} {K : α → Prop} : wAt l n K = (n < l.length ∧ K (l.getD n default)) := by
  unfold wAt
  refine propext ⟨?_, ?_⟩
  · rintro ⟨v, h1, h2⟩
    obtain ⟨h3, h4⟩ := List.getElem?_eq_some_iff.1 h1
    refine ⟨h3, ?_⟩
    rw [List.getD_eq_getElem?_getD, h1]
    exact h2
  · rintro ⟨h1, h2⟩
    refine ⟨_, List.getElem?_eq_getElem h1, ?_⟩
    rw [List.getD_eq_getElem?_getD, List.getElem?_eq_getElem h1] at h2
    exact h2
@[simp] theorem wOne_one {v : V} {K : V → Prop} : wOne [v] K = K v := by simp [wOne]
@[simp] theorem wLive_zero {l : List V} {H : List Ob} {K : List V → Prop} : wLive (.live l :: H) 0 K = K l := by simp [wLive]
@[simp] theorem wLive_fixed {l : List V} {H : List Ob} {K : List V → Prop} : wLive (.fixed l :: H) 0 K = K l := by simp [wLive]
@[simp] theorem wLive_succ {o : Ob} {H : List Ob} {n : Nat} {K : List V → Prop} : wLive (o :: H) (n + 1) K = wLive H n K := by simp [wLive]
@[simp] theorem wMut_zero {l : List V} {H : List Ob} {K : List V → Prop} : wMut (.live l :: H) 0 K = K l := by simp [wMut]
@[simp] theorem wMut_succ {o : Ob} {H : List Ob} {n : Nat} {K : List V → Prop} : wMut (o :: H) (n + 1) K = wMut H n K := by simp [wMut]
end ops
end Fz
namespace Fz
open Go
section acts
variable {p : AP} {e : Env} {H : List Ob} {K R : V → List Ob → Prop} {Q : V → Prop}
@[simp ↓] theorem wAct_mov {x : Opd} : wAct p e H K R (.mov x) = wOp (evO e) H K (.mov x) := (rfl)
@[simp ↓] theorem wQ_mov {x : Opd} : wQ p e H Q (.mov x) = wOp (evO e) H (fun v _ => Q v) (.mov x) := propext ⟨fun h => h.2, fun h => ⟨rfl, h⟩⟩
@[simp ↓] theorem wAct_pick {c a b : Opd} : wAct p e H K R (.pick c a b) = wOp (evO e) H K (.pick c a b) := (rfl)
@[simp ↓] theorem wQ_pick {c a b : Opd} : wQ p e H Q (.pick c a b) = wOp (evO e) H (fun v _ => Q v) (.pick c a b) := propext ⟨fun h => h.2, fun h => ⟨rfl, h⟩⟩
@[simp ↓] theorem wAct_alloc {z : List V} : wAct p e H K R (.alloc z) = wOp (evO e) H K (.alloc z) := (rfl)
@[simp ↓] theorem wAct_box {x : Opd} : wAct p e H K R (.box x) = wOp (evO e) H K (.box x) := (rfl)
@[simp ↓] theorem wAct_build {z : List V} {ps : List (Nat × Nat × Opd)} : wAct p e H K R (.build z ps) = wOp (evO e) H K (.build z ps) := (rfl)
@[simp ↓] theorem wQ_build {z : List V} {ps : List (Nat × Nat × Opd)} : wQ p e H Q (.build z ps) = wOp (evO e) H (fun v _ => Q v) (.build z ps) := propext ⟨fun h => h.2, fun h => ⟨rfl, h⟩⟩
@[simp ↓] theorem wAct_buildSlice {n len : Nat} {z : List V} {ps : List (Nat × Nat × Opd)} : wAct p e H K R (.buildSlice n len z ps) = wOp (evO e) H K (.buildSlice n len z ps) := (rfl)
@[simp ↓] theorem wAct_load {agg : Bool} {n : Nat} {x : Opd} : wAct p e H K R (.load agg n x) = wOp (evO e) H K (.load agg n x) := (rfl)
@[simp ↓] theorem wQ_load {agg : Bool} {n : Nat} {x : Opd} : wQ p e H Q (.load agg n x) = wOp (evO e) H (fun v _ => Q v) (.load agg n x) := propext ⟨fun h => h.2, fun h => ⟨rfl, h⟩⟩
@[simp ↓] theorem wAct_store {n : Nat} {a x : Opd} : wAct p e H K R (.store n a x) = wOp (evO e) H K (.store n a x) := (rfl)
@[simp ↓] theorem wAct_nilCheck {x : Opd} : wAct p e H K R (.nilCheck x) = wOp (evO e) H K (.nilCheck x) := (rfl)
@[simp ↓] theorem wQ_nilCheck {x : Opd} : wQ p e H Q (.nilCheck x) = wOp (evO e) H (fun v _ => Q v) (.nilCheck x) := propext ⟨fun h => h.2, fun h => ⟨rfl, h⟩⟩
@[simp ↓] theorem wAct_bin {op : BinOp} {k : EqK} {x y : Opd} : wAct p e H K R (.bin op k x y) = wOp (evO e) H K (.bin op k x y) := (rfl)
@[simp ↓] theorem wQ_bin {op : BinOp} {k : EqK} {x y : Opd} : wQ p e H Q (.bin op k x y) = wOp (evO e) H (fun v _ => Q v) (.bin op k x y) := propext ⟨fun h => h.2, fun h => ⟨rfl, h⟩⟩
@[simp ↓] theorem wAct_un {op : UnOp} {x : Opd} : wAct p e H K R (.un op x) = wOp (evO e) H K (.un op x) := (rfl)
@[simp ↓] theorem wQ_un {op : UnOp} {x : Opd} : wQ p e H Q (.un op x) = wOp (evO e) H (fun v _ => Q v) (.un op x) := propext ⟨fun h => h.2, fun h => ⟨rfl, h⟩⟩
@[simp ↓] theorem wAct_conv {k : CvK} {x : Opd} : wAct p e H K R (.conv k x) = wOp (evO e) H K (.conv k x) := (rfl)
@[simp ↓] theorem wQ_conv_int {k : IntKind} {x : Opd} : wQ p e H Q (.conv (.int k) x) = wOp (evO e) H (fun v _ => Q v) (.conv (.int k) x) := propext ⟨fun h => h.2, fun h => ⟨rfl, h⟩⟩
@[simp ↓] theorem wQ_conv_s2s {x : Opd} : wQ p e H Q (.conv .s2s x) = wOp (evO e) H (fun v _ => Q v) (.conv .s2s x) := propext ⟨fun h => h.2, fun h => ⟨rfl, h⟩⟩
@[simp ↓] theorem wQ_conv_b2s {x : Opd} : wQ p e H Q (.conv .b2s x) = wOp (evO e) H (fun v _ => Q v) (.conv .b2s x) := propext ⟨fun h => h.2, fun h => ⟨rfl, h⟩⟩
@[simp ↓] theorem wAct_makeIface {t : TypeId} {x : Opd} : wAct p e H K R (.makeIface t x) = wOp (evO e) H K (.makeIface t x) := (rfl)
@[simp ↓] theorem wQ_makeIface {t : TypeId} {x : Opd} : wQ p e H Q (.makeIface t x) = wOp (evO e) H (fun v _ => Q v) (.makeIface t x) := propext ⟨fun h => h.2, fun h => ⟨rfl, h⟩⟩
@[simp ↓] theorem wAct_makeFunc {f : Fn} {a b : List Opd} : wAct p e H K R (.makeFunc f a b) = wOp (evO e) H K (.makeFunc f a b) := (rfl)
@[simp ↓] theorem wQ_makeFunc {f : Fn} {a b : List Opd} : wQ p e H Q (.makeFunc f a b) = wOp (evO e) H (fun v _ => Q v) (.makeFunc f a b) := propext ⟨fun h => h.2, fun h => ⟨rfl, h⟩⟩
@[simp ↓] theorem wAct_makeSlice {n bytes : Nat} {z : List V} {l c : Opd} : wAct p e H K R (.makeSlice n bytes z l c) = wOp (evO e) H K (.makeSlice n bytes z l c) := (rfl)
@[simp ↓] theorem wAct_slice {k : SlK} {x : Opd} {lo hi mx : Option Opd} : wAct p e H K R (.slice k x lo hi mx) = wOp (evO e) H K (.slice k x lo hi mx) := (rfl)
@[simp ↓] theorem wQ_slice {k : SlK} {x : Opd} {lo hi mx : Option Opd} : wQ p e H Q (.slice k x lo hi mx) = wOp (evO e) H (fun v _ => Q v) (.slice k x lo hi mx) := propext ⟨fun h => h.2, fun h => ⟨rfl, h⟩⟩
@[simp ↓] theorem wAct_fieldAddr {off : Nat} {x : Opd} : wAct p e H K R (.fieldAddr off x) = wOp (evO e) H K (.fieldAddr off x) := (rfl)
@[simp ↓] theorem wQ_fieldAddr {off : Nat} {x : Opd} : wQ p e H Q (.fieldAddr off x) = wOp (evO e) H (fun v _ => Q v) (.fieldAddr off x) := propext ⟨fun h => h.2, fun h => ⟨rfl, h⟩⟩
@[simp ↓] theorem wAct_field {agg : Bool} {off n : Nat} {x : Opd} : wAct p e H K R (.field agg off n x) = wOp (evO e) H K (.field agg off n x) := (rfl)
@[simp ↓] theorem wQ_field {agg : Bool} {off n : Nat} {x : Opd} : wQ p e H Q (.field agg off n x) = wOp (evO e) H (fun v _ => Q v) (.field agg off n x) := propext ⟨fun h => h.2, fun h => ⟨rfl, h⟩⟩
@[simp ↓] theorem wAct_indexSl {n : Nat} {x i : Opd} : wAct p e H K R (.indexSl n x i) = wOp (evO e) H K (.indexSl n x i) := (rfl)
@[simp ↓] theorem wQ_indexSl {n : Nat} {x i : Opd} : wQ p e H Q (.indexSl n x i) = wOp (evO e) H (fun v _ => Q v) (.indexSl n x i) := propext ⟨fun h => h.2, fun h => ⟨rfl, h⟩⟩
@[simp ↓] theorem wAct_indexPA {al n : Nat} {x i : Opd} : wAct p e H K R (.indexPA al n x i) = wOp (evO e) H K (.indexPA al n x i) := (rfl)
@[simp ↓] theorem wQ_indexPA {al n : Nat} {x i : Opd} : wQ p e H Q (.indexPA al n x i) = wOp (evO e) H (fun v _ => Q v) (.indexPA al n x i) := propext ⟨fun h => h.2, fun h => ⟨rfl, h⟩⟩
@[simp ↓] theorem wAct_indexArr {al n : Nat} {agg : Bool} {x i : Opd} : wAct p e H K R (.indexArr al n agg x i) = wOp (evO e) H K (.indexArr al n agg x i) := (rfl)
@[simp ↓] theorem wQ_indexArr {al n : Nat} {agg : Bool} {x i : Opd} : wQ p e H Q (.indexArr al n agg x i) = wOp (evO e) H (fun v _ => Q v) (.indexArr al n agg x i) := propext ⟨fun h => h.2, fun h => ⟨rfl, h⟩⟩
@[simp ↓] theorem wAct_indexStr {x i : Opd} : wAct p e H K R (.indexStr x i) = wOp (evO e) H K (.indexStr x i) := (rfl)
@[simp ↓] theorem wQ_indexStr {x i : Opd} : wQ p e H Q (.indexStr x i) = wOp (evO e) H (fun v _ => Q v) (.indexStr x i) := propext ⟨fun h => h.2, fun h => ⟨rfl, h⟩⟩
@[simp ↓] theorem wAct_extract {i : Nat} {x : Opd} : wAct p e H K R (.extract i x) = wOp (evO e) H K (.extract i x) := (rfl)
@[simp ↓] theorem wQ_extract {i : Nat} {x : Opd} : wQ p e H Q (.extract i x) = wOp (evO e) H (fun v _ => Q v) (.extract i x) := propext ⟨fun h => h.2, fun h => ⟨rfl, h⟩⟩
@[simp ↓] theorem wAct_lenC {n : Nat} : wAct p e H K R (.lenC n) = wOp (evO e) H K (.lenC n) := (rfl)
@[simp ↓] theorem wQ_lenC {n : Nat} : wQ p e H Q (.lenC n) = wOp (evO e) H (fun v _ => Q v) (.lenC n) := propext ⟨fun h => h.2, fun h => ⟨rfl, h⟩⟩
@[simp ↓] theorem wAct_lenS {x : Opd} : wAct p e H K R (.lenS x) = wOp (evO e) H K (.lenS x) := (rfl)
@[simp ↓] theorem wQ_lenS {x : Opd} : wQ p e H Q (.lenS x) = wOp (evO e) H (fun v _ => Q v) (.lenS x) := propext ⟨fun h => h.2, fun h => ⟨rfl, h⟩⟩
@[simp ↓] theorem wAct_len {x : Opd} : wAct p e H K R (.len x) = wOp (evO e) H K (.len x) := (rfl)
@[simp ↓] theorem wQ_len {x : Opd} : wQ p e H Q (.len x) = wOp (evO e) H (fun v _ => Q v) (.len x) := propext ⟨fun h => h.2, fun h => ⟨rfl, h⟩⟩
@[simp ↓] theorem wAct_cap {x : Opd} : wAct p e H K R (.cap x) = wOp (evO e) H K (.cap x) := (rfl)
@[simp ↓] theorem wQ_cap {x : Opd} : wQ p e H Q (.cap x) = wOp (evO e) H (fun v _ => Q v) (.cap x) := propext ⟨fun h => h.2, fun h => ⟨rfl, h⟩⟩
@[simp ↓] theorem wAct_append {n bytes : Nat} {zs : Option (List V)} {s x : Opd} : wAct p e H K R (.append n bytes zs s x) = wOp (evO e) H K (.append n bytes zs s x) := (rfl)
@[simp ↓] theorem wAct_copy {n : Nat} {d s : Opd} : wAct p e H K R (.copy n d s) = wOp (evO e) H K (.copy n d s) := (rfl)
@[simp ↓] theorem wAct_clear {z : List V} {n : Nat} {x : Opd} : wAct p e H K R (.clear z n x) = wOp (evO e) H K (.clear z n x) := (rfl)
@[simp ↓] theorem wAct_max {l : List Opd} : wAct p e H K R (.max l) = wOp (evO e) H K (.max l) := (rfl)
@[simp ↓] theorem wQ_max {l : List Opd} : wQ p e H Q (.max l) = wOp (evO e) H (fun v _ => Q v) (.max l) := propext ⟨fun h => h.2, fun h => ⟨rfl, h⟩⟩
@[simp ↓] theorem wAct_min {l : List Opd} : wAct p e H K R (.min l) = wOp (evO e) H K (.min l) := (rfl)
@[simp ↓] theorem wQ_min {l : List Opd} : wQ p e H Q (.min l) = wOp (evO e) H (fun v _ => Q v) (.min l) := propext ⟨fun h => h.2, fun h => ⟨rfl, h⟩⟩
end acts
section ops
variable {H : List Ob} {K : V → List Ob → Prop} {ρ : Opd → V}
@[simp ↓] theorem wOp_mov {x : Opd} : wOp ρ H K (.mov x) = wVal (ρ x) fun v => K v H := (rfl)
@[simp ↓] theorem wOp_pick {c a b : Opd} : wOp ρ H K (.pick c a b) = xBool (ρ c) (wVal (ρ a) fun v => K v H) (wVal (ρ b) fun v => K v H) := (rfl)
@[simp ↓] theorem wOp_alloc {z : List V} : wOp ρ H K (.alloc z) = wVal H fun H => K (.ptr H.length 0) (H ++ [.live z]) := (rfl)
@[simp ↓] theorem wOp_box {x : Opd} : wOp ρ H K (.box x) = wVal (ρ x) fun v => isAny v = false ∧ wVal H fun H => K (.ptr H.length 0) (H ++ [.live (cellsOf v)]) := (rfl)
def wBuild (ρ : Opd → V) (cells : List V) (K : List V → Prop) : List (Nat × Nat × Opd) → Prop
  | [] => K cells
  | (off, n, x) :: r => wVal (ρ x) fun v => wVal (cellsOf v) fun c => (c.length = n ∧ off + n ≤ cells.length ∧ isAny v = false) ∧ wVal (splice cells off c) fun cells => wBuild ρ cells K r
@[simp ↓] theorem wBuild_nil {c : List V} {K : List V → Prop} : wBuild ρ c K [] = K c := (rfl)
@[simp ↓] theorem wBuild_cons {off n : Nat} {x : Opd} {r : List (Nat × Nat × Opd)} {cells : List V} {K : List V → Prop} : wBuild ρ cells K ((off, n, x) :: r) =
    wVal (ρ x) fun v => wVal (cellsOf v) fun c => (c.length = n ∧ off + n ≤ cells.length ∧ isAny v = false) ∧ wVal (splice cells off c) fun cells => wBuild ρ cells K r := (rfl)
theorem wFill_eq {K : List V → Prop} : ∀ (ps : List (Nat × Nat × Opd)) (cells : List V), wFill cells K (ps.map fun p => (p.1, p.2.1, ρ p.2.2)) = wBuild ρ cells K ps
  | [], _ => rfl
  | (off, n, x) :: r, cells => by rw [List.map_cons, wFill, wFill_eq]; rfl
@[simp ↓] theorem wOp_build {z : List V} {ps : List (Nat × Nat × Opd)} : wOp ρ H K (.build z ps) = wBuild ρ z (fun l => K (.agg l) H) ps := wFill_eq ps z
@[simp ↓] theorem wOp_buildSlice {n len : Nat} {z : List V} {ps : List (Nat × Nat × Opd)} : wOp ρ H K (.buildSlice n len z ps) =
    wVal (zeros z len) fun z => wBuild ρ z (fun cells => if len = 0 then K (.list [] true) H else wVal H fun H => K (.own H.length 0 len n) (H ++ [.live cells])) ps := wFill_eq ps _
@[simp ↓] theorem wOp_load {n : Nat} {x : Opd} : wOp ρ H K (.load false n x) = xPeek H n (ρ x) fun l => wOne l fun v => K v H := (rfl)
@[simp ↓] theorem wOp_loadA {n : Nat} {x : Opd} : wOp ρ H K (.load true n x) = xPeek H n (ρ x) fun l => K (.agg l) H := (rfl)
@[simp ↓] theorem wOp_store {n : Nat} {a x : Opd} : wOp ρ H K (.store n a x) = wPtr (ρ a) fun id off => wVal (cellsOf (ρ x)) fun c => wVal H fun H => wMut H id fun l =>
    (c.length = n ∧ off + n ≤ l.length ∧ c.all storable = true) ∧ wVal (splice l off c) fun l => K uv (H.set id (.live l)) := by
  simp only [wOp, wPtr] <;> (generalize ρ a = v; cases v <;> rfl)
@[simp ↓] theorem wOp_nilCheck {x : Opd} : wOp ρ H K (.nilCheck x) = wNil (ρ x) fun v => K v H := (rfl)
@[simp ↓] theorem wOp_bin {op : BinOp} {k : EqK} {x y : Opd} : wOp ρ H K (.bin op k x y) = xBin op k (ρ x) (ρ y) fun v => K v H := (rfl)
@[simp ↓] theorem wOp_un {op : UnOp} {x : Opd} : wOp ρ H K (.un op x) = xUn op (ρ x) fun v => K v H := (rfl)
@[simp ↓] theorem wOp_convI {k : IntKind} {x : Opd} : wOp ρ H K (.conv (.int k) x) = xInt (ρ x) fun _ n => wVal (k.wrap n) fun n => K (.int k n) H := (rfl)
@[simp ↓] theorem wOp_convS {x : Opd} : wOp ρ H K (.conv .s2s x) = wStr (ρ x) fun s => K (.str s) H := by
  simp only [wOp, wStr] <;> (generalize ρ x = v; cases v <;> first | rfl | simp [wVal, wGet, wAt, wMut])
@[simp ↓] theorem wOp_convB {x : Opd} : wOp ρ H K (.conv .b2s x) = wSl (ρ x) (fun l c => xElems H 1 (.list l c) fun p _ => allU8 p = true ∧ wVal (bytesV p) fun s => K (.str s) H)
    (fun a b c d => xElems H 1 (.own a b c d) fun p _ => allU8 p = true ∧ wVal (bytesV p) fun s => K (.str s) H) := by
  simp only [wOp, wSl, wVal] <;> (generalize ρ x = v; cases v <;> first | rfl | simp [wVal, wGet, wAt, wMut])
@[simp ↓] theorem wOp_makeIface {t : TypeId} {x : Opd} : wOp ρ H K (.makeIface t x) = wVal (ρ x) fun v => isAny v = false ∧ K (.iface t v) H := (rfl)
@[simp ↓] theorem wOp_makeFunc {f : Fn} {a b : List Opd} : wOp ρ H K (.makeFunc f a b) = wVal (a.map ρ) fun a => wVal (b.map ρ) fun b => K (.fn f a b) H := (rfl)
@[simp ↓] theorem wOp_makeSlice {n bytes : Nat} {z : List V} {l c : Opd} : wOp ρ H K (.makeSlice n bytes z l c) = xInt (ρ l) fun _ l => xInt (ρ c) fun _ c =>
    (0 ≤ l ∧ l ≤ c ∧ c * bytes ≤ 2 ^ 47 ∧ c ≤ 2 ^ 47 ∧ (z.length = n ∧ n ≠ 0)) ∧
      if c = 0 then K (.list [] true) H else wVal H fun H => wVal (zeros z c.toNat) fun z => K (.own H.length 0 l.toNat n) (H ++ [.live z]) := (rfl)
@[simp ↓] theorem wOp_slice {k : SlK} {x : Opd} {lo hi mx : Option Opd} : wOp ρ H K (.slice k x lo hi mx) = xSlice H k (ρ x) (lo.map ρ) (hi.map ρ) (mx.map ρ) fun v => K v H := (rfl)
@[simp ↓] theorem wOp_fieldAddr {off : Nat} {x : Opd} : wOp ρ H K (.fieldAddr off x) = wPR (ρ x) (fun id o => wVal (o + off) fun o => K (.ptr id o) H) (fun l => off ≤ l.length ∧ wVal (l.drop off) fun l => K (.ref l) H) := by
  simp only [wOp, wPR, wVal] <;> (generalize ρ x = v; cases v <;> first | rfl | simp [wVal, wGet, wAt, wMut])
@[simp ↓] theorem wOp_field {off n : Nat} {x : Opd} : wOp ρ H K (.field false off n x) = wAgg (ρ x) fun l => off + n ≤ l.length ∧ wGet l off fun v => K v H := by
  simp only [wOp, wAgg, wGet] <;> (split <;> simp_all)
@[simp ↓] theorem wOp_fieldA {off n : Nat} {x : Opd} : wOp ρ H K (.field true off n x) = wAgg (ρ x) fun l => off + n ≤ l.length ∧ wVal ((l.drop off).take n) fun l => K (.agg l) H := by
  simp only [wOp, wAgg, wVal] <;> (split <;> simp_all)
@[simp ↓] theorem wOp_indexSl {n : Nat} {x i : Opd} : wOp ρ H K (.indexSl n x i) = xInt (ρ i) fun _ j => 0 ≤ j ∧ wSl (ρ x) (fun l _ => wVal j.toNat fun j => wGet l j fun v => wVal (cellsOf v) fun c => c.length = n ∧ K (.ref c) H)
    (fun id off len m => (j < len ∧ m = n) ∧ K (.ptr id (off + j.toNat * n)) H) := by
  simp only [wOp, wSl, wVal, wGet] <;> (generalize ρ x = v; cases v <;> first | rfl | simp [wVal, wGet, wAt, wMut])
@[simp ↓] theorem wOp_indexPA {al n : Nat} {x i : Opd} : wOp ρ H K (.indexPA al n x i) = xInt (ρ i) fun _ j => 0 ≤ j ∧ wPR (ρ x) (fun id off => j < al ∧ K (.ptr id (off + j.toNat * n)) H)
    (fun l => (j < al ∧ j.toNat * n ≤ l.length) ∧ wVal (l.drop (j.toNat * n)) fun l => K (.ref l) H) := by
  simp only [wOp, wPR, wVal] <;> (generalize ρ x = v; cases v <;> first | rfl | simp [wVal, wGet, wAt, wMut])
@[simp ↓] theorem wOp_indexArr {al n : Nat} {x i : Opd} : wOp ρ H K (.indexArr al n false x i) = xInt (ρ i) fun _ j => wAgg (ρ x) fun l => (0 ≤ j ∧ j < al ∧ j.toNat * n + n ≤ l.length) ∧ wGet l (j.toNat * n) fun v => K v H := by
  simp only [wOp, xInt, wAgg, wGet] <;> (generalize ρ i = u; generalize ρ x = v; cases u <;> first | rfl | (cases v <;> simp))
@[simp ↓] theorem wOp_indexArrA {al n : Nat} {x i : Opd} : wOp ρ H K (.indexArr al n true x i) = xInt (ρ i) fun _ j => wAgg (ρ x) fun l => (0 ≤ j ∧ j < al ∧ j.toNat * n + n ≤ l.length) ∧ wVal ((l.drop (j.toNat * n)).take n) fun l => K (.agg l) H := by
  simp only [wOp, xInt, wAgg, wVal] <;> (generalize ρ i = u; generalize ρ x = v; cases u <;> first | rfl | (cases v <;> simp))
@[simp ↓] theorem wOp_indexStr {x i : Opd} : wOp ρ H K (.indexStr x i) = xInt (ρ i) fun _ j => 0 ≤ j ∧ wStr (ρ x) fun s => wAt s.data.toList j.toNat fun b => K (.int .u8 b.toNat) H := by
  simp only [wOp, wStr, wAt] <;> (generalize ρ x = v; cases v <;> first | rfl | simp [wVal, wGet, wAt, wMut])
@[simp ↓] theorem wOp_extract {i : Nat} {x : Opd} : wOp ρ H K (.extract i x) = wTup (ρ x) fun l => wGet l i fun v => K v H := (rfl)
@[simp ↓] theorem wOp_lenC {n : Nat} : wOp ρ H K (.lenC n) = K (.int .i64 n) H := (rfl)
@[simp ↓] theorem wOp_lenS {x : Opd} : wOp ρ H K (.lenS x) = wStr (ρ x) fun s => K (.int .i64 s.size) H := (rfl)
@[simp ↓] theorem wOp_len {x : Opd} : wOp ρ H K (.len x) = wSl (ρ x) (fun l _ => wVal (V.int .i64 l.length) fun v => K v H) (fun _ _ n _ => K (.int .i64 n) H) := (rfl)
@[simp ↓] theorem wOp_cap {x : Opd} : wOp ρ H K (.cap x) = wSl (ρ x) (fun l c => c = true ∧ wVal (V.int .i64 l.length) fun v => K v H) (fun _ _ _ _ => False) := by
  simp only [wOp, wSl, wVal] <;> (generalize ρ x = v; cases v <;> simp)
@[simp ↓] theorem wOp_append {n bytes : Nat} {s x : Opd} : wOp ρ H K (.append n bytes none s x) = wVal H fun H => xElems H n (ρ x) fun xs k => xAppend H n bytes (ρ s) xs k K := (rfl)
@[simp ↓] theorem wOp_appendN {n bytes : Nat} {z : List V} {s x : Opd} : wOp ρ H K (.append n bytes (some z) s x) = xInt (ρ x) fun _ l => (0 ≤ l ∧ l ≤ 2 ^ 47 ∧ l * bytes ≤ 2 ^ 47 ∧ z.length = n) ∧
    wVal H fun H => xAppend H n bytes (ρ s) (zeros z l.toNat) l.toNat K := (rfl)
@[simp ↓] theorem wOp_copy {n : Nat} {d s : Opd} : wOp ρ H K (.copy n d s) = wVal H fun H => xElems H n (ρ s) fun xs k => wSl (ρ d) (fun l _ => l = [] ∧ K (.int .i64 0) H)
    (fun id off len m => wMut H id fun l => (m = n ∧ off + len * n ≤ l.length ∧ (xs.take (Nat.min k len * n)).all storable = true) ∧
      K (.int .i64 (Nat.min k len : Nat)) (H.set id (.live (splice l off (xs.take (Nat.min k len * n)))))) := by
  simp only [wOp, wSl, wVal, wMut] <;> (generalize ρ d = v; cases v <;> first | rfl | simp [wVal, wGet, wAt, wMut])
@[simp ↓] theorem wOp_clear {z : List V} {n : Nat} {x : Opd} : wOp ρ H K (.clear z n x) = wVal H fun H => wSl (ρ x) (fun l _ => l = [] ∧ K uv H)
    (fun id off len m => wMut H id fun l => (m = n ∧ z.length = n ∧ off + len * n ≤ l.length ∧ z.all storable = true) ∧ K uv (H.set id (.live (splice l off (zeros z len))))) := by
  simp only [wOp, wSl, wVal, wMut] <;> (generalize ρ x = v; cases v <;> first | rfl | simp [wVal, wGet, wAt, wMut])
@[simp ↓] theorem wOp_max {l : List Opd} : wOp ρ H K (.max l) = wOpt (maxV (l.map ρ)) fun v => K v H := (rfl)
@[simp ↓] theorem wOp_min {l : List Opd} : wOp ρ H K (.min l) = wOpt (minV (l.map ρ)) fun v => K v H := (rfl)
end ops
section bin
variable {k : IntKind} {ek : EqK} {a b : Int} {K : V → Prop}
@[simp] theorem wBin_add : xBin .add ek (.int k a) (.int k b) K = wVal (k.wrap (a + b)) fun n => K (.int k n) := by simp [xBin, wBin, binV, wVal]
@[simp] theorem wBin_sub : xBin .sub ek (.int k a) (.int k b) K = wVal (k.wrap (a - b)) fun n => K (.int k n) := by simp [xBin, wBin, binV, wVal]
@[simp] theorem wBin_mul : xBin .mul ek (.int k a) (.int k b) K = wVal (k.wrap (a * b)) fun n => K (.int k n) := by simp [xBin, wBin, binV, wVal]
@[simp] theorem wBin_quo : xBin .quo ek (.int k a) (.int k b) K = (b ≠ 0 ∧ wVal (k.wrap (a.tdiv b)) fun n => K (.int k n)) := by
  by_cases h : b = 0 <;> simp [xBin, wBin, binV, wVal, h]
@[simp] theorem wBin_rem : xBin .rem ek (.int k a) (.int k b) K = (b ≠ 0 ∧ wVal (a.tmod b) fun n => K (.int k n)) := by
  by_cases h : b = 0 <;> simp [xBin, wBin, binV, wVal, h]
@[simp] theorem wBin_lss : xBin .lss ek (.int k a) (.int k b) K = K (.bool (decide (a < b))) := by simp [xBin, wBin, binV, cmpInt]
@[simp] theorem wBin_leq : xBin .leq ek (.int k a) (.int k b) K = K (.bool (decide (a ≤ b))) := by simp [xBin, wBin, binV, cmpInt]
@[simp] theorem wBin_gtr : xBin .gtr ek (.int k a) (.int k b) K = K (.bool (decide (b < a))) := by simp [xBin, wBin, binV, cmpInt]
@[simp] theorem wBin_geq : xBin .geq ek (.int k a) (.int k b) K = K (.bool (decide (b ≤ a))) := by simp [xBin, wBin, binV, cmpInt]
@[simp] theorem wBin_eql : xBin .eql ek (.int k a) (.int k b) K = K (.bool (decide (a = b))) := by
  simp only [xBin, wBin, binV, cmpInt, if_true, Option.map_some, Option.some.injEq, exists_eq_left']
  rw [show (a == b) = decide (a = b) from by by_cases h : a = b <;> simp [h]]
@[simp] theorem wBin_neq : xBin .neq ek (.int k a) (.int k b) K = K (.bool (decide (a ≠ b))) := by
  simp only [xBin, wBin, binV, cmpInt, if_true, Option.map_some, Option.some.injEq, exists_eq_left']
  rw [show (a != b) = decide (a ≠ b) from by by_cases h : a = b <;> simp [h]]
@[simp] theorem wUn_not {t : Bool} : xUn .not (.bool t) K = K (.bool (!t)) := by simp [xUn, wUn, unV]
@[simp] theorem wUn_neg : xUn .neg (.int k a) K = wVal (k.wrap (0 - a)) fun n => K (.int k n) := by simp [xUn, wUn, unV, wVal]
end bin
end Fz
namespace Fz
open Go
@[simp] theorem tupV_one {v : V} : tupV [v] = v := (rfl)
@[simp] theorem tupV_nil : tupV [] = .tuple [] := (rfl)
@[simp] theorem tupV_more {u v : V} {l : List V} : tupV (u :: v :: l) = .tuple (u :: v :: l) := (rfl)
def xFrz (k : Nat) (v : V) (H : List Ob) (K : V → List Ob → Prop) [Tok H] [Tok K] : Prop := ∃ v' H', freezeV k v H = some (v', H') ∧ K (nrm v') H'
def xFrzL (k : Nat) (l : List V) (H : List Ob) (K : List V → List Ob → Prop) [Tok H] [Tok K] : Prop := ∃ l' H', mapS (freezeV k) l H = some (l', H') ∧ K (l'.map nrm) H'
def gk (k : Nat) (v : V) : Bool := ground v && shal k v
theorem gk_freeze {k : Nat} {v : V} (h : gk k v = true) (H : List Ob) : freezeV k v H = some (v, H) := by
  unfold gk at h; rw [Bool.and_eq_true] at h; exact freeze_gr _ _ _ h.1 h.2
theorem gks_freeze {k : Nat} {l : List V} (h : l.all (gk k) = true) (H : List Ob) : mapS (freezeV k) l H = some (l, H) := by
  induction l with
  | nil => rfl
  | cons v l ih =>
    rw [List.all_cons, Bool.and_eq_true] at h
    rw [mapS, gk_freeze h.1]
    dsimp only
    rw [ih h.2]
@[simp 2000] theorem frz_gk {k : Nat} {v : V} {H : List Ob} {K : V → List Ob → Prop} (h : gk k v = true) : xFrz k v H K = K (nrm v) H := by
  unfold xFrz
  rw [gk_freeze h]
  refine propext ⟨?_, fun hk => ⟨_, _, rfl, hk⟩⟩
  rintro ⟨v', H', h1, h2⟩
  cases h1; exact h2
@[simp 2000] theorem frzL_gk {k : Nat} {l : List V} {H : List Ob} {K : List V → List Ob → Prop} (h : l.all (gk k) = true) : xFrzL k l H K = wVal (l.map nrm) fun x => K x H := by
  unfold xFrzL
  rw [gks_freeze h]
  refine propext ⟨?_, fun hk => ⟨_, _, rfl, hk⟩⟩
  rintro ⟨v', H', h1, h2⟩
  cases h1; exact h2
@[simp] theorem frzL_nil {k : Nat} {H : List Ob} {K : List V → List Ob → Prop} : xFrzL k [] H K = K [] H := by
  refine propext ⟨?_, fun hk => ⟨_, _, rfl, hk⟩⟩
  rintro ⟨v', H', h1, h2⟩
  cases h1; exact h2
@[simp] theorem frzL_cons {k : Nat} {v : V} {l : List V} {H : List Ob} {K : List V → List Ob → Prop} : xFrzL k (v :: l) H K = xFrz k v H fun v' H1 => xFrzL k l H1 fun l' H2 => K (v' :: l') H2 := by
  refine propext ⟨?_, ?_⟩
  · rintro ⟨l', H', h1, h2⟩
    rw [mapS] at h1
    split at h1
    · cases h1
    · rename_i v1 H1 hv
      split at h1
      · cases h1
      · rename_i l2 H2 hl
        cases h1
        exact ⟨v1, H1, hv, _, _, hl, h2⟩
  · rintro ⟨v1, H1, hv, l2, H2, hl, h2⟩
    refine ⟨v1 :: l2, H2, ?_, h2⟩
    rw [mapS, hv]
    dsimp only
    rw [hl]
@[simp] theorem frz_agg {k : Nat} {l : List V} {H : List Ob} {K : V → List Ob → Prop} : xFrz (k + 1) (.agg l) H K = xFrzL k l H fun l' H' => K (.agg l') H' := by
  refine propext ⟨?_, ?_⟩
  · rintro ⟨v, H', h1, h2⟩
    rw [freezeV] at h1
    obtain ⟨q, hq, h1⟩ := Option.map_eq_some_iff.1 h1
    cases h1
    exact ⟨q.1, q.2, hq, by rw [nrm, nrmL_eq] at h2; exact h2⟩
  · rintro ⟨l', H', h1, h2⟩
    exact ⟨.agg l', H', by rw [freezeV, h1]; rfl, by rw [nrm, nrmL_eq]; exact h2⟩
@[simp] theorem frz_tuple {k : Nat} {l : List V} {H : List Ob} {K : V → List Ob → Prop} : xFrz (k + 1) (.tuple l) H K = xFrzL k l H fun l' H' => K (.tuple l') H' := by
  refine propext ⟨?_, ?_⟩
  · rintro ⟨v, H', h1, h2⟩
    rw [freezeV] at h1
    obtain ⟨q, hq, h1⟩ := Option.map_eq_some_iff.1 h1
    cases h1
    exact ⟨q.1, q.2, hq, by rw [nrm, nrmL_eq] at h2; exact h2⟩
  · rintro ⟨l', H', h1, h2⟩
    exact ⟨.tuple l', H', by rw [freezeV, h1]; rfl, by rw [nrm, nrmL_eq]; exact h2⟩
def wChunk (n len : Nat) (l : List V) (K : List V → Prop) [Tok K] : Prop := (n ≠ 1 ∨ l.all leafy = true) ∧ K (chunk n len l)
def wOb (H : List Ob) (id : Nat) (L F : List V → Prop) [Tok L] [Tok F] : Prop := match H[id]? with
  | some (.live l) => L l
  | some (.fixed l) => F l
  | _ => False
def wSetOb (H : List Ob) (id : Nat) (o : Ob) (K : List Ob → Prop) [Tok K] : Prop := K (H.set id o)
theorem chunks_nrm (n : Nat) : ∀ (k : Nat) (l : List V), (chunks n k l).map nrm = chunks n k (l.map nrm) := by
  intro k
  induction k with
  | zero => intro l; rfl
  | succ k ih => intro l; rw [chunks, chunks, List.map_cons, ih, nrm, nrmL_eq, List.map_take, List.map_drop]
theorem chunk_nrm (n k : Nat) (l : List V) : (chunk n k l).map nrm = chunk n k (l.map nrm) := by
  unfold chunk
  split
  · rw [List.map_take]
  · exact chunks_nrm n k l
theorem leafy_nrm (l : List V) : (l.map nrm).all leafy = l.all leafy := by
  rw [List.all_map]
  congr 1
  funext v
  cases v <;> rfl
@[simp] theorem frz_own {k id off len n : Nat} {H : List Ob} {K : V → List Ob → Prop} : xFrz (k + 1) (.own id off len n) H K =
    wOb H id (fun l => (off + len * n ≤ l.length ∧ n ≠ 0) ∧ wVal ((l.drop off).take (len * n)) fun x => wSetOb H id (.fixed l) fun H' => xFrzL k x H' fun x H' => wChunk n len x fun y => K (.list y false) H')
      (fun l => (off + len * n ≤ l.length ∧ n ≠ 0) ∧ wVal ((l.drop off).take (len * n)) fun x => xFrzL k x H fun x H' => wChunk n len x fun y => K (.list y false) H') := by
  unfold xFrz wOb wVal wSetOb xFrzL wChunk
  rw [freezeV]
  cases H[id]? with
  | none => simp
  | some o =>
    cases o with
    | live l =>
      dsimp only
      refine propext ⟨?_, ?_⟩
      · rintro ⟨v, H', h1, h2⟩
        split at h1
        · rename_i hc
          split at h1
          · rename_i x H1 hx
            split at h1 <;> cases h1
            rename_i hl
            exact ⟨hc, _, _, hx, by rwa [leafy_nrm], by rw [nrm, nrmL_eq, chunk_nrm] at h2; exact h2⟩
          · cases h1
        · cases h1
      · rintro ⟨hc, x, H1, hx, hl, h2⟩
        rw [if_pos hc, hx]
        dsimp only
        rw [leafy_nrm] at hl
        rw [if_pos hl]
        exact ⟨_, _, rfl, by rw [nrm, nrmL_eq, chunk_nrm]; exact h2⟩
    | fixed l =>
      dsimp only
      refine propext ⟨?_, ?_⟩
      · rintro ⟨v, H', h1, h2⟩
        split at h1
        · rename_i hc
          split at h1
          · rename_i x H1 hx
            split at h1 <;> cases h1
            rename_i hl
            exact ⟨hc, _, _, hx, by rwa [leafy_nrm], by rw [nrm, nrmL_eq, chunk_nrm] at h2; exact h2⟩
          · cases h1
        · cases h1
      · rintro ⟨hc, x, H1, hx, hl, h2⟩
        rw [if_pos hc, hx]
        dsimp only
        rw [leafy_nrm] at hl
        rw [if_pos hl]
        exact ⟨_, _, rfl, by rw [nrm, nrmL_eq, chunk_nrm]; exact h2⟩
    | _ => simp
theorem wFix_by {p : AP} {f : FuncId} {u v : V} {H : List Ob} (hi : p.inlY f = false) : wFix p f v (.ret u) H = xFrz 12 u H fun u' _ => u' = v := by
  unfold wFix xFrz
  rw [hi]
  refine propext ⟨?_, ?_⟩
  · rintro (⟨h, _⟩ | ⟨_, u', H', h1, h2⟩)
    · cases h
    · exact ⟨u', H', h1, h2⟩
  · rintro ⟨u', H', h1, h2⟩
    exact .inr ⟨rfl, u', H', h1, h2⟩
@[simp] theorem wFix_panic {p : AP} {f : FuncId} {v u : V} {H : List Ob} : wFix p f v (.panic u) H = False := rfl
@[simp] theorem nr_bool {b : Bool} : nrm (.bool b) = .bool b := by rw [nrm]; all_goals (intros; contradiction)
@[simp] theorem nr_int {k : IntKind} {n : Int} : nrm (.int k n) = .int k n := by rw [nrm]; all_goals (intros; contradiction)
@[simp] theorem nr_str {s : ByteArray} : nrm (.str s) = .str s := by rw [nrm]; all_goals (intros; contradiction)
@[simp] theorem nr_float {k : FloatKind} {n : Nat} : nrm (.float k n) = .float k n := by rw [nrm]; all_goals (intros; contradiction)
@[simp] theorem nr_fnan {k : FloatKind} : nrm (.fnan k) = .fnan k := by rw [nrm]; all_goals (intros; contradiction)
@[simp] theorem nr_nilp : nrm .nilp = .nilp := by rw [nrm]; all_goals (intros; contradiction)
@[simp] theorem nr_nilfn : nrm .nilfn = .nilfn := by rw [nrm]; all_goals (intros; contradiction)
@[simp] theorem nr_ptr {i o : Nat} : nrm (.ptr i o) = .ptr i o := by rw [nrm]; all_goals (intros; contradiction)
@[simp] theorem nr_fn {f : Go.Fn} {a b : List V} : nrm (.fn f a b) = .fn f a b := by rw [nrm]; all_goals (intros; contradiction)
@[simp] theorem nr_list {l : List V} {c : Bool} : nrm (.list l c) = .list (l.map nrm) false := by rw [nrm, nrmL_eq]
@[simp] theorem nr_agg {l : List V} : nrm (.agg l) = .agg (l.map nrm) := by rw [nrm, nrmL_eq]
@[simp] theorem nr_tuple {l : List V} : nrm (.tuple l) = .tuple (l.map nrm) := by rw [nrm, nrmL_eq]
@[simp] theorem nrc_int {k : IntKind} : nrm ∘ V.int k = V.int k := funext fun _ => nr_int
@[simp] theorem nrc_str : nrm ∘ V.str = V.str := funext fun _ => nr_str
@[simp] theorem nrc_bool : nrm ∘ V.bool = V.bool := funext fun _ => nr_bool
@[simp] theorem nm_bool {b : Bool} : nm (.bool b) = true := by unfold nm; rfl
@[simp] theorem nm_int {k : IntKind} {n : Int} : nm (.int k n) = true := by unfold nm; rfl
@[simp] theorem nm_str {s : ByteArray} : nm (.str s) = true := by unfold nm; rfl
@[simp] theorem nm_float {k : FloatKind} {n : Nat} : nm (.float k n) = true := by unfold nm; rfl
@[simp] theorem nm_fnan {k : FloatKind} : nm (.fnan k) = true := by unfold nm; rfl
@[simp] theorem nm_nilp : nm .nilp = true := by unfold nm; rfl
@[simp] theorem nm_nilfn : nm .nilfn = true := by unfold nm; rfl
@[simp] theorem nm_ptr {i o : Nat} : nm (.ptr i o) = true := by unfold nm; rfl
@[simp] theorem nm_fn {f : Go.Fn} {a b : List V} : nm (.fn f a b) = true := by unfold nm; rfl
@[simp] theorem nm_list {l : List V} {c : Bool} : nm (.list l c) = (!c && l.all nm) := by rw [nm, nmL_eq]
@[simp] theorem nm_agg {l : List V} : nm (.agg l) = l.all nm := by rw [nm, nmL_eq]
@[simp] theorem nm_tuple {l : List V} : nm (.tuple l) = l.all nm := by rw [nm, nmL_eq]
theorem all_and {α : Type} (f g : α → Bool) (l : List α) : (l.all f && l.all g) = l.all fun x => f x && g x := by
  induction l with
  | nil => rfl
  | cons a l ih =>
    rw [List.all_cons, List.all_cons, List.all_cons, ← ih]
    cases f a <;> cases g a <;> simp
@[simp] theorem gd_bool {b : Bool} : ground (.bool b) = true := by unfold ground; rfl
@[simp] theorem gd_int {k : IntKind} {n : Int} : ground (.int k n) = true := by unfold ground; rfl
@[simp] theorem gd_str {s : ByteArray} : ground (.str s) = true := by unfold ground; rfl
@[simp] theorem gd_float {k : FloatKind} {n : Nat} : ground (.float k n) = true := by unfold ground; rfl
@[simp] theorem gd_fnan {k : FloatKind} : ground (.fnan k) = true := by unfold ground; rfl
@[simp] theorem gd_nilp : ground .nilp = true := by unfold ground; rfl
@[simp] theorem gd_nilfn : ground .nilfn = true := by unfold ground; rfl
@[simp] theorem gd_list {l : List V} {c : Bool} : ground (.list l c) = l.all ground := by rw [ground, groundL_eq]
@[simp] theorem gd_agg {l : List V} : ground (.agg l) = l.all ground := by rw [ground, groundL_eq]
@[simp] theorem gd_tuple {l : List V} : ground (.tuple l) = l.all ground := by rw [ground, groundL_eq]
@[simp] theorem gd_fn {f : Go.Fn} {a b : List V} : ground (.fn f a b) = (a.all ground && b.all ground) := by rw [ground, groundL_eq, groundL_eq]
@[simp] theorem gdL {l : List V} : groundL l = l.all ground := groundL_eq l
@[simp] theorem cells_agg {l : List V} : cellsOf (.agg l) = l := (rfl)
@[simp] theorem cells_int {k : IntKind} {n : Int} : cellsOf (.int k n) = [.int k n] := (rfl)
@[simp] theorem cells_bool {b : Bool} : cellsOf (.bool b) = [.bool b] := (rfl)
@[simp] theorem cells_str {s : ByteArray} : cellsOf (.str s) = [.str s] := (rfl)
@[simp] theorem cells_list {l : List V} {c : Bool} : cellsOf (.list l c) = [.list l c] := (rfl)
@[simp] theorem cells_own {a b c d : Nat} : cellsOf (.own a b c d) = [.own a b c d] := (rfl)
@[simp] theorem cells_float {k : FloatKind} {n : Nat} : cellsOf (.float k n) = [.float k n] := (rfl)
@[simp] theorem cells_fnan {k : FloatKind} : cellsOf (.fnan k) = [.fnan k] := (rfl)
@[simp] theorem cells_ptr {a b : Nat} : cellsOf (.ptr a b) = [.ptr a b] := (rfl)
@[simp] theorem cells_nilp : cellsOf .nilp = [.nilp] := (rfl)
@[simp] theorem cells_fn {f : Go.Fn} {a b : List V} : cellsOf (.fn f a b) = [.fn f a b] := (rfl)
@[simp] theorem any_agg {l : List V} : isAny (.agg l) = false := by unfold isAny; rfl
@[simp] theorem any_tuple {l : List V} : isAny (.tuple l) = false := by unfold isAny; rfl
@[simp] theorem any_bool {b : Bool} : isAny (.bool b) = false := by unfold isAny; rfl
@[simp] theorem st_bool {b : Bool} : storable (.bool b) = true := by unfold storable; rfl
@[simp] theorem any_int {k : IntKind} {n : Int} : isAny (.int k n) = false := by unfold isAny; rfl
@[simp] theorem st_int {k : IntKind} {n : Int} : storable (.int k n) = true := by unfold storable; rfl
@[simp] theorem any_str {s : ByteArray} : isAny (.str s) = false := by unfold isAny; rfl
@[simp] theorem st_str {s : ByteArray} : storable (.str s) = true := by unfold storable; rfl
@[simp] theorem any_float {k : FloatKind} {n : Nat} : isAny (.float k n) = false := by unfold isAny; rfl
@[simp] theorem st_float {k : FloatKind} {n : Nat} : storable (.float k n) = true := by unfold storable; rfl
@[simp] theorem any_fnan {k : FloatKind} : isAny (.fnan k) = false := by unfold isAny; rfl
@[simp] theorem st_fnan {k : FloatKind} : storable (.fnan k) = true := by unfold storable; rfl
@[simp] theorem any_nilp  : isAny (.nilp) = false := by unfold isAny; rfl
@[simp] theorem st_nilp  : storable (.nilp) = true := by unfold storable; rfl
@[simp] theorem any_nilfn  : isAny (.nilfn) = false := by unfold isAny; rfl
@[simp] theorem st_nilfn  : storable (.nilfn) = true := by unfold storable; rfl
@[simp] theorem any_niliface  : isAny (.niliface) = false := by unfold isAny; rfl
@[simp] theorem st_niliface  : storable (.niliface) = true := by unfold storable; rfl
@[simp] theorem any_ptr {a b : Nat} : isAny (.ptr a b) = false := by unfold isAny; rfl
@[simp] theorem st_ptr {a b : Nat} : storable (.ptr a b) = true := by unfold storable; rfl
@[simp] theorem any_own {a b c d : Nat} : isAny (.own a b c d) = false := by unfold isAny; rfl
@[simp] theorem st_own {a b c d : Nat} : storable (.own a b c d) = true := by unfold storable; rfl
@[simp] theorem any_list {l : List V} {c : Bool} : isAny (.list l c) = false := by unfold isAny; rfl
@[simp] theorem st_list {l : List V} {c : Bool} : storable (.list l c) = true := by unfold storable; rfl
@[simp] theorem any_ref {l : List V} : isAny (.ref l) = false := by unfold isAny; rfl
@[simp] theorem st_ref {l : List V} : storable (.ref l) = true := by unfold storable; rfl
@[simp] theorem any_fn {f : Go.Fn} {a b : List V} : isAny (.fn f a b) = false := by unfold isAny; rfl
@[simp] theorem st_fn {f : Go.Fn} {a b : List V} : storable (.fn f a b) = true := by unfold storable; rfl
@[simp] theorem any_iface {t : TypeId} {v : V} : isAny (.iface t v) = false := by unfold isAny; rfl
@[simp] theorem st_iface {t : TypeId} {v : V} : storable (.iface t v) = true := by unfold storable; rfl
@[simp] theorem splice_eq {l : List V} {off : Nat} {x : List V} : splice l off x = l.take off ++ x ++ l.drop (off + x.length) := (rfl)
@[simp] theorem zeros_zero {z : List V} : zeros z 0 = [] := (rfl)
@[simp] theorem zeros_one {v : V} {n : Nat} : zeros [v] n = List.replicate n v := by
  induction n with
  | zero => rfl
  | succ n ih => rw [zeros, ih]; rfl
theorem uni_map {α : Type} {f : α → V} {l : List α} {n : Nat} (h : ∀ x, (cellsOf (f x)).length = n) : uni n (l.map f) = true := by
  unfold uni
  rw [List.all_map, List.all_eq_true]
  intro x _
  exact beq_iff_eq.2 (h x)
@[simp] theorem uni_nil {n : Nat} : uni n [] = true := (rfl)
@[simp] theorem uni_cons {n : Nat} {v : V} {l : List V} : uni n (v :: l) = ((cellsOf v).length == n && uni n l) := (rfl)
@[simp] theorem uni_append {n : Nat} {l m : List V} : uni n (l ++ m) = (uni n l && uni n m) := by
  unfold uni; rw [List.all_append]
theorem flat_map {α : Type} {f : α → V} {l : List α} : flat (l.map f) = l.flatMap fun x => cellsOf (f x) := by
  unfold flat
  rw [List.flatMap_map]
@[simp] theorem flat_nil : flat [] = [] := (rfl)
@[simp] theorem flat_cons {v : V} {l : List V} : flat (v :: l) = cellsOf v ++ flat l := (rfl)
@[simp] theorem flat_append {l m : List V} : flat (l ++ m) = flat l ++ flat m := by simp [flat]
theorem flat_one {α : Type} {f : α → V} {l : List α} (h : ∀ x, cellsOf (f x) = [f x]) : flat (l.map f) = l.map f := by
  rw [flat_map]
  induction l with
  | nil => rfl
  | cons a l ih => rw [List.flatMap_cons, ih, h]; rfl
@[simp] theorem chunk_one {len : Nat} {l : List V} : chunk 1 len l = l.take len := (rfl)
theorem w64 {n : Int} (h1 : -9223372036854775808 ≤ n) (h2 : n ≤ 9223372036854775807) : IntKind.i64.wrap n = n := IntWalk.i64_in n ⟨h1, h2⟩
theorem w8 {n : Int} (h1 : 0 ≤ n) (h2 : n ≤ 255) : IntKind.u8.wrap n = n := IntWalk.u8_in n ⟨h1, h2⟩
@[simp] theorem wMut_end {H : List Ob} {l : List V} {K : List V → Prop} : wMut (H ++ [.live l]) H.length K = K l := by simp [wMut]
@[simp] theorem wLive_end {H : List Ob} {l : List V} {K : List V → Prop} : wLive (H ++ [.live l]) H.length K = K l := by simp [wLive]
@[simp] theorem wMut_next {H : List Ob} {o : Ob} {l : List V} {K : List V → Prop} : wMut (H ++ [o, .live l]) (H.length + 1) K = K l := by simp [wMut]
@[simp] theorem wLive_next {H : List Ob} {o : Ob} {l : List V} {K : List V → Prop} : wLive (H ++ [o, .live l]) (H.length + 1) K = K l := by simp [wLive]
@[simp] theorem take_map_length {α β : Type} {f : α → β} {l : List α} : (l.map f).take l.length = l.map f := by
  rw [← List.map_take, List.take_length]
@[simp] theorem getD_map_length {α β : Type} {f : α → β} {l : List α} : (l.map f).drop l.length = [] := by
  rw [← List.map_drop, List.drop_length]; rfl
theorem xL_by {p : AP} {b : WC} {Q : QX} {e : Env} {H : List Ob} (hc : okW b = true) (I : Nat → Env → List Ob → Prop) (k : Nat) (h : I k e H)
    (step : ∀ k e H, I k e H → wx p b e H (loopQ I k Q)) : xL p b e H Q := WL_by hc I k h step
def xCallN (p : AP) (f : FuncId) (args : List V) (H : List Ob) (Q : CR → List Ob → Prop) [Tok H] [Tok Q] : Prop := ∃ v, Comes p f args v ∧ Q (.ret v) H
theorem call_frz {p : AP} {f : FuncId} {args : List V} {H : List Ob} {Q : CR → List Ob → Prop} (hi : p.inlY f = false)
    (h : xFrzL 12 args H fun a H' => xCallN p f a H' Q) : xCall p f args H Q := by
  obtain ⟨a, H', h1, v, h2, h3⟩ := h
  have h1 : mapS (freezeV depthF) args H = some (a, H') := h1
  have e : ∀ n, doCall (acall p n) p.inlY f args H = doCall (acall p n) p.inlY f (a.map nrm) H' := by
    intro n
    unfold doCall
    have hn : (a.map nrm).map nrm = a.map nrm := by
      have := h2.2.2.1
      rw [hi, Bool.false_or] at this
      exact nrms_nm this
    rw [hi, h1, grs_freeze h2.1 H', Option.map_some, Option.map_some, hn]
    rfl
  have : WCall p f args H Q = WCall p f (a.map nrm) H' Q := by
    unfold WCall
    simp only [e]
  show WCall p f args H Q
  rw [this, WCall_fn h2]
  exact h3
theorem callN_by {p : AP} {f : FuncId} {args : List V} {v : V} (h : Comes p f args v) {H : List Ob} {Q : CR → List Ob → Prop} : xCallN p f args H Q = Q (.ret v) H := by
  refine propext ⟨?_, fun hq => ⟨v, h, hq⟩⟩
  rintro ⟨u, h1, h2⟩
  rw [← WCall_fn h1 H Q] at h2
  rwa [WCall_fn h] at h2
theorem call_by {p : AP} {f : FuncId} {args : List V} {v : V} (h : Comes p f args v) {H : List Ob} {Q : CR → List Ob → Prop} : xCall p f args H Q = Q (.ret v) H := WCall_fn h H Q
theorem call_nrm {p : AP} {f : FuncId} {args a : List V} {v : V} (hi : p.inlY f = false) (hg : args.all gr = true) (ha : args.map nrm = a) (h : Comes p f a v) {H : List Ob} {Q : CR → List Ob → Prop} : xCall p f args H Q = Q (.ret v) H := by
  subst ha
  have hn : (args.map nrm).map nrm = args.map nrm := by
    have := h.2.2.1
    rw [hi, Bool.false_or] at this
    exact nrms_nm this
  have e : ∀ n, doCall (acall p n) p.inlY f args H = doCall (acall p n) p.inlY f (args.map nrm) H := by
    intro n
    unfold doCall
    rw [hi, grs_freeze hg H, grs_freeze h.1 H, Option.map_some, Option.map_some, hn]
    rfl
  have : WCall p f args H Q = WCall p f (args.map nrm) H Q := by
    unfold WCall
    simp only [e]
  show WCall p f args H Q = _
  rw [this, WCall_fn h]
@[simp] theorem gk_bool {k : Nat} {b : Bool} : gk (k + 1) (.bool b) = true := by unfold gk; rfl
@[simp] theorem gk_int {k : Nat} {i : IntKind} {n : Int} : gk (k + 1) (.int i n) = true := by unfold gk; rfl
@[simp] theorem gk_str {k : Nat} {s : ByteArray} : gk (k + 1) (.str s) = true := by unfold gk; rfl
@[simp] theorem gk_float {k : Nat} {i : FloatKind} {n : Nat} : gk (k + 1) (.float i n) = true := by unfold gk; rfl
@[simp] theorem gk_fnan {k : Nat} {i : FloatKind} : gk (k + 1) (.fnan i) = true := by unfold gk; rfl
@[simp] theorem gk_nilp {k : Nat} : gk (k + 1) .nilp = true := by unfold gk; rfl
@[simp] theorem gk_nilfn {k : Nat} : gk (k + 1) .nilfn = true := by unfold gk; rfl
@[simp] theorem gk_list {k : Nat} {l : List V} {c : Bool} : gk (k + 1) (.list l c) = l.all ground := by
  show (groundL l && true) = _
  rw [groundL_eq, Bool.and_true]
@[simp] theorem gk_fn {k : Nat} {f : Go.Fn} {a b : List V} : gk (k + 1) (.fn f a b) = (a.all ground && b.all ground) := by
  show ((groundL a && groundL b) && true) = _
  rw [groundL_eq, groundL_eq, Bool.and_true]
@[simp] theorem gk_agg {k : Nat} {l : List V} : gk (k + 1) (.agg l) = l.all (gk k) := by
  show (groundL l && l.all (shal k)) = _
  rw [groundL_eq]; exact all_and _ _ l
@[simp] theorem gk_tuple {k : Nat} {l : List V} : gk (k + 1) (.tuple l) = l.all (gk k) := by
  show (groundL l && l.all (shal k)) = _
  rw [groundL_eq]; exact all_and _ _ l
@[simp] theorem gr_gk {v : V} : gr v = gk 12 v := rfl
@[simp] theorem wGet_map_end {α : Type} {f : α → V} {l : List α} {v : V} {K : V → Prop} : wGet (l.map f ++ [v]) l.length K = K v := by simp [wGet]
@[simp] theorem zeros_1 {z : List V} : zeros z 1 = z := by simp [zeros]
@[simp] theorem zeros_2 {z : List V} : zeros z 2 = z ++ z := by simp [zeros]
@[simp] theorem sh_bool {b : Bool} {d : Nat} : shal (d + 1) (.bool b) = true := by unfold shal; rfl
@[simp] theorem sh_int {k : IntKind} {n : Int} {d : Nat} : shal (d + 1) (.int k n) = true := by unfold shal; rfl
@[simp] theorem sh_str {s : ByteArray} {d : Nat} : shal (d + 1) (.str s) = true := by unfold shal; rfl
@[simp] theorem sh_float {k : FloatKind} {n : Nat} {d : Nat} : shal (d + 1) (.float k n) = true := by unfold shal; rfl
@[simp] theorem sh_fnan {k : FloatKind} {d : Nat} : shal (d + 1) (.fnan k) = true := by unfold shal; rfl
@[simp] theorem sh_nilp  {d : Nat} : shal (d + 1) (.nilp) = true := by unfold shal; rfl
@[simp] theorem sh_nilfn  {d : Nat} : shal (d + 1) (.nilfn) = true := by unfold shal; rfl
@[simp] theorem sh_list {l : List V} {c : Bool} {d : Nat} : shal (d + 1) (.list l c) = true := by unfold shal; rfl
@[simp] theorem lf_bool {b : Bool} : leafy (.bool b) = true := by unfold leafy; rfl
@[simp] theorem lf_int {k : IntKind} {n : Int} : leafy (.int k n) = true := by unfold leafy; rfl
@[simp] theorem lf_str {s : ByteArray} : leafy (.str s) = true := by unfold leafy; rfl
@[simp] theorem lf_float {k : FloatKind} {n : Nat} : leafy (.float k n) = true := by unfold leafy; rfl
@[simp] theorem lf_list {l : List V} {c : Bool} : leafy (.list l c) = true := by unfold leafy; rfl
@[simp] theorem wOb_zero_live {l : List V} {H : List Ob} {L F : List V → Prop} : wOb (.live l :: H) 0 L F = L l := by simp [wOb]
@[simp] theorem wOb_zero_fixed {l : List V} {H : List Ob} {L F : List V → Prop} : wOb (.fixed l :: H) 0 L F = F l := by simp [wOb]
@[simp] theorem wOb_succ {o : Ob} {H : List Ob} {n : Nat} {L F : List V → Prop} : wOb (o :: H) (n + 1) L F = wOb H n L F := by simp [wOb]
@[simp] theorem wOb_end {H : List Ob} {l : List V} {L F : List V → Prop} : wOb (H ++ [.live l]) H.length L F = L l := by simp [wOb]
@[simp] theorem wOb_next {H : List Ob} {o : Ob} {l : List V} {L F : List V → Prop} : wOb (H ++ [o, .live l]) (H.length + 1) L F = L l := by simp [wOb]
theorem wOb_at {H : List Ob} {i : Nat} {l : List V} {L F : List V → Prop} (h : H[i]? = some (.live l)) : wOb H i L F = L l := by simp [wOb, h]
@[simp] theorem wSetOb_eq {H : List Ob} {id : Nat} {o : Ob} {K : List Ob → Prop} : wSetOb H id o K = K (H.set id o) := (rfl)
@[simp] theorem wChunk_one {len : Nat} {l : List V} {K : List V → Prop} : wChunk 1 len l K = (l.all leafy = true ∧ wVal (l.take len) K) := by simp [wChunk, chunk, wVal]
end Fz
namespace Fz
open Go
@[simp] theorem get_jn {α : Type} (J r : List α) (n : Nat) : (J ++ r)[J.length + n]? = r[n]? := by rw [List.getElem?_append_right (by omega), Nat.add_sub_cancel_left]
@[simp] theorem wLive_j {J r : List Ob} {x : Ob} {K : List V → Prop} : wLive (J ++ x :: r) J.length K = wLive (x :: r) 0 K := by simp [wLive]
@[simp] theorem wLive_jn {J r : List Ob} {n : Nat} {K : List V → Prop} : wLive (J ++ r) (J.length + n) K = wLive r n K := by simp [wLive]
@[simp] theorem wMut_j {J r : List Ob} {x : Ob} {K : List V → Prop} : wMut (J ++ x :: r) J.length K = wMut (x :: r) 0 K := by simp [wMut]
@[simp] theorem wMut_jn {J r : List Ob} {n : Nat} {K : List V → Prop} : wMut (J ++ r) (J.length + n) K = wMut r n K := by simp [wMut]
@[simp] theorem wOb_j {J r : List Ob} {x : Ob} {L F : List V → Prop} : wOb (J ++ x :: r) J.length L F = wOb (x :: r) 0 L F := by simp [wOb]
@[simp] theorem wOb_jn {J r : List Ob} {n : Nat} {L F : List V → Prop} : wOb (J ++ r) (J.length + n) L F = wOb r n L F := by simp [wOb]
@[simp] theorem set_j {α : Type} (J r : List α) (x y : α) : (J ++ x :: r).set J.length y = J ++ y :: r := by simp
@[simp] theorem set_jn {α : Type} (J r : List α) (n : Nat) (y : α) : (J ++ r).set (J.length + n) y = J ++ r.set n y := by simp
@[simp] theorem set_end {α : Type} (H : List α) (x y : α) : (H ++ [x]).set H.length y = H ++ [y] := by simp
@[simp] theorem uni_int {k : IntKind} (l : List Int) : uni 1 (l.map (V.int k)) = true := uni_map fun _ => rfl
@[simp] theorem flat_int {k : IntKind} (l : List Int) : flat (l.map (V.int k)) = l.map (V.int k) := flat_one fun _ => rfl
@[simp] theorem uni_str (l : List ByteArray) : uni 1 (l.map V.str) = true := uni_map fun _ => rfl
@[simp] theorem flat_str (l : List ByteArray) : flat (l.map V.str) = l.map V.str := flat_one fun _ => rfl
@[simp] theorem sum_const {α : Type} (l : List α) (c : Nat) : (l.map fun _ => c).sum = l.length * c := by
  induction l with
  | nil => simp
  | cons a l ih => simp only [List.map_cons, List.sum_cons, ih, List.length_cons, Nat.succ_mul]; omega
def Acc (n b : Nat) (J : List Ob) (v : V) (l : List V) : Prop :=
  uni n l = true ∧ n ≠ 0 ∧ ((l = [] ∧ v = .list [] true) ∨ ∃ j, v = .own (b + j) 0 l.length n ∧ J[j]? = some (.live (flat l)))
theorem uni_flat {n : Nat} {l : List V} (h : uni n l = true) : (flat l).length = l.length * n := by
  induction l with
  | nil => simp [flat]
  | cons v l ih =>
    unfold uni at h
    rw [List.all_cons, Bool.and_eq_true] at h
    have : flat (v :: l) = cellsOf v ++ flat l := by simp [flat]
    rw [this, List.length_append, ih h.2, beq_iff_eq.1 h.1, List.length_cons, Nat.succ_mul]; omega
theorem app_acc (b : Nat) {H : List Ob} {n bytes k : Nat} {v : V} {l m xs : List V} {K : V → List Ob → Prop} (ha : Acc n b (H.drop b) v l) (hb : b ≤ H.length)
    (hxs : xs = flat m) (hk : k = m.length) (hu : uni n m = true) (hs : (flat m).all storable = true) (hc : capOk (l.length + m.length) bytes = true)
    (hK : ∀ v' J', Acc n b J' v' (l ++ m) → K v' (H.take b ++ J')) : xAppend H n bytes v xs k K := by
  subst hxs hk
  obtain ⟨h1, h2, h3⟩ := ha
  have hum : uni n (l ++ m) = true := by rw [uni_append, h1, hu]; rfl
  by_cases h0 : m.length = 0
  · have hm : m = [] := List.length_eq_zero_iff.1 h0
    subst hm
    have hk := hK v (H.drop b) ⟨by simpa using h1, h2, by simpa using h3⟩
    rw [List.take_append_drop] at hk
    rcases h3 with ⟨rfl, rfl⟩ | ⟨j, rfl, h4⟩
    · rw [wAppend_list, if_pos (by rfl)]; exact hk
    · rw [wAppend_own, if_pos (by rfl)]; exact ⟨rfl, hk⟩
  · rcases h3 with ⟨rfl, rfl⟩ | ⟨j, rfl, h4⟩
    · rw [wAppend_list, if_neg h0]
      refine ⟨⟨rfl, rfl, uni_flat hu, by simpa using hc⟩, ?_⟩
      have := hK (.own H.length 0 (0 + m.length) n) (H.drop b ++ [.live (flat m)]) ⟨by simpa using hu, h2, .inr ⟨(H.drop b).length, ?_, by simp⟩⟩
      · rw [← List.append_assoc, List.take_append_drop] at this
        exact this
      · rw [List.length_drop, show b + (H.length - b) = H.length from by omega, List.nil_append, Nat.zero_add]
    · rw [wAppend_own, if_neg h0]
      refine ⟨rfl, ?_⟩
      rw [List.getElem?_drop] at h4
      refine ⟨flat l, h4, ⟨rfl, by rw [uni_flat h1]; exact Nat.le_refl _, hs, hc⟩, ?_⟩
      have e1 : (flat l).take (l.length * n) = flat l := by rw [← uni_flat h1, List.take_length]
      show K _ _
      rw [e1, ← flat_append]
      have := hK (.own H.length 0 (l.length + m.length) n) ((H.drop b).set j .dead ++ [.live (flat (l ++ m))]) ⟨hum, h2, .inr ⟨(H.drop b).length, ?_, ?_⟩⟩
      · rw [← List.append_assoc] at this
        have e2 : H.take b ++ (H.drop b).set j .dead = H.set (b + j) .dead := by
          conv => rhs; rw [← List.take_append_drop b H]
          rw [List.set_append_right _ _ (by rw [List.length_take]; omega), List.length_take]
          congr 2
          omega
        rw [e2] at this
        exact this
      · rw [List.length_drop, show b + (H.length - b) = H.length from by omega, List.length_append]
      · rw [List.getElem?_append_right (by simp)]; simp
theorem chunk_of {n : Nat} : ∀ {l : List V}, uni n l = true → n ≠ 1 → (∀ v ∈ l, ∃ c, v = .agg c) → chunks n l.length (flat l) = l
  | [], _, _, _ => rfl
  | v :: l, h, hn, ha => by
    unfold uni at h
    rw [List.all_cons, Bool.and_eq_true] at h
    obtain ⟨c, rfl⟩ := ha v (List.mem_cons_self ..)
    have hl : c.length = n := by simpa [cellsOf] using h.1
    have e : flat (.agg c :: l) = c ++ flat l := by simp [flat, cellsOf]
    rw [e, List.length_cons, chunks, List.take_left' hl, List.drop_left' hl, chunk_of h.2 hn fun v hv => ha v (List.mem_cons_of_mem _ hv)]
section bin
variable {k j : IntKind} {ek : EqK} {a b : Int} {K : V → Prop}
theorem bytes_beq (a b : ByteArray) : (a.data.toList == b.data.toList) = decide (a = b) := by
  by_cases h : a = b
  · subst h; simp
  · have : ¬ a.data.toList = b.data.toList := fun e => h (by cases a; cases b; simp at e; simp [e])
    rw [decide_eq_false h, beq_eq_false_iff_ne.2 this]
@[simp] theorem wBin_seql {a b : ByteArray} : xBin .eql ek (.str a) (.str b) K = K (.bool (decide (a = b))) := by simp only [xBin, wBin, binV, bytes_beq, Option.some.injEq, exists_eq_left']
@[simp] theorem wBin_sneq {a b : ByteArray} : xBin .neq ek (.str a) (.str b) K = K (.bool (!decide (a = b))) := by simp only [xBin, wBin, binV, bytes_beq, Option.some.injEq, exists_eq_left']
@[simp] theorem wBin_sadd {a b : ByteArray} : xBin .add ek (.str a) (.str b) K = (a.size + b.size ≤ 9223372036854775807 ∧ wVal (a ++ b) fun s => K (.str s)) := by
  by_cases h : a.size + b.size ≤ 9223372036854775807 <;> simp [xBin, wBin, binV, wVal, h]
@[simp] theorem wBin_shl : xBin .shl ek (.int k a) (.int j b) K = (0 ≤ b ∧ wVal (k.wrap (a * 2 ^ (min b.toNat k.bits))) fun n => K (.int k n)) := by
  by_cases h : b < 0
  · have : ¬ 0 ≤ b := by omega
    simp [xBin, wBin, binV, h, this]
  · have : 0 ≤ b := by omega
    simp [xBin, wBin, binV, wVal, h, this]
@[simp] theorem wBin_shr : xBin .shr ek (.int k a) (.int j b) K = (0 ≤ b ∧ wVal (a.fdiv (2 ^ (min b.toNat k.bits))) fun n => K (.int k n)) := by
  by_cases h : b < 0
  · have : ¬ 0 ≤ b := by omega
    simp [xBin, wBin, binV, h, this]
  · have : 0 ≤ b := by omega
    simp [xBin, wBin, binV, wVal, h, this]
@[simp] theorem wBin_and : xBin .and ek (.int k a) (.int k b) K = wVal (k.wrap (BitVec.ofInt k.bits a &&& BitVec.ofInt k.bits b).toNat) fun n => K (.int k n) := by simp [xBin, wBin, binV, bitsInt, wVal]
@[simp] theorem wBin_or : xBin .or ek (.int k a) (.int k b) K = wVal (k.wrap (BitVec.ofInt k.bits a ||| BitVec.ofInt k.bits b).toNat) fun n => K (.int k n) := by simp [xBin, wBin, binV, bitsInt, wVal]
@[simp] theorem wBin_xor : xBin .xor ek (.int k a) (.int k b) K = wVal (k.wrap (BitVec.ofInt k.bits a ^^^ BitVec.ofInt k.bits b).toNat) fun n => K (.int k n) := by simp [xBin, wBin, binV, bitsInt, wVal]
@[simp] theorem wBin_andNot : xBin .andNot ek (.int k a) (.int k b) K = wVal (k.wrap (BitVec.ofInt k.bits a &&& ~~~BitVec.ofInt k.bits b).toNat) fun n => K (.int k n) := by simp [xBin, wBin, binV, bitsInt, wVal]
@[simp] theorem wUn_xor : xUn .xor (.int k a) K = wVal (k.wrap (BitVec.ofInt k.bits (if k.signed then -1 else k.max) ^^^ BitVec.ofInt k.bits a).toNat) fun n => K (.int k n) := by simp [xUn, wUn, unV, bitsInt, wVal]
@[simp] theorem wBin_beql {a b : Bool} : xBin .eql .bool (.bool a) (.bool b) K = K (.bool (a == b)) := by simp [xBin, wBin, binV, eqV, eqB]
@[simp] theorem wBin_bneq {a b : Bool} : xBin .neq .bool (.bool a) (.bool b) K = K (.bool (!(a == b))) := by simp [xBin, wBin, binV, eqV, eqB]
@[simp] theorem wBin_pnn : xBin .eql .ptr .nilp .nilp K = K (.bool true) := by simp [xBin, wBin, binV, eqV, eqP]
@[simp] theorem wBin_ppn {i o : Nat} : xBin .eql .ptr (.ptr i o) .nilp K = K (.bool false) := by simp [xBin, wBin, binV, eqV, eqP]
@[simp] theorem wBin_npnn : xBin .neq .ptr .nilp .nilp K = K (.bool false) := by simp [xBin, wBin, binV, eqV, eqP]
@[simp] theorem wBin_nppn {i o : Nat} : xBin .neq .ptr (.ptr i o) .nilp K = K (.bool true) := by simp [xBin, wBin, binV, eqV, eqP]
@[simp] theorem wBin_fnn : xBin .eql .func .nilfn .nilfn K = K (.bool true) := by simp [xBin, wBin, binV, eqV, eqF]
@[simp] theorem wBin_ffn {f : Go.Fn} {l m : List V} : xBin .eql .func (.fn f l m) .nilfn K = K (.bool false) := by simp [xBin, wBin, binV, eqV, eqF]
@[simp] theorem wBin_nfnn : xBin .neq .func .nilfn .nilfn K = K (.bool false) := by simp [xBin, wBin, binV, eqV, eqF]
@[simp] theorem wBin_nffn {f : Go.Fn} {l m : List V} : xBin .neq .func (.fn f l m) .nilfn K = K (.bool true) := by simp [xBin, wBin, binV, eqV, eqF]
@[simp] theorem maxV_two : maxV [.int k a, .int k b] = some (.int k (if b > a then b else a)) := by simp [maxV, maxF]
@[simp] theorem minV_two : minV [.int k a, .int k b] = some (.int k (if b < a then b else a)) := by simp [minV, minF]
end bin
end Fz
namespace Fz
open Go
theorem ex2 {α β : Type} {a : α} {b : β} {K : α → β → Prop} : (∃ x y, (a = x ∧ b = y) ∧ K x y) = K a b :=
  propext ⟨by rintro ⟨_, _, ⟨rfl, rfl⟩, h⟩; exact h, fun h => ⟨_, _, ⟨rfl, rfl⟩, h⟩⟩
def xPur (k : PK) (l : List V) (K : V → Prop) [Tok K] : Prop := wPur k l K
def xRd (H : List Ob) (k : RK) (l : List V) (K : V → Prop) [Tok H] [Tok K] : Prop := wRd H k l K
def xMem (H : List Ob) (k : MK) (l : List V) (Q : V → List Ob → Prop) [Tok H] [Tok Q] : Prop := wMem H k l Q
def wMapOf (H : List Ob) (m : V) (K : List V → List V → Prop) [Tok H] [Tok K] : Prop := ∃ ks vs, mapOf H m = some (ks, vs) ∧ K ks vs
def wML (H : List Ob) (id : Nat) (K : List V → List V → Prop) [Tok K] : Prop := ∃ ks vs, H[id]? = some (.mlive ks vs) ∧ K ks vs
def wIter (H : List Ob) (id : Nat) (K : ByteArray → Nat → Prop) [Tok K] : Prop := ∃ s pos, H[id]? = some (.iter s pos) ∧ K s pos
def wFind (kk : KyK) (k : V) (ks : List V) (i : Nat) (F : Nat → Prop) (N : Prop) [Tok F] [Tok N] : Prop := ∃ r, findV kk k ks i = some r ∧ match r with | some j => F j | none => N
section
variable {p : AP} {e : Env} {H : List Ob} {K R : V → List Ob → Prop} {Q : V → Prop} {ρ : Opd → V}
@[simp ↓] theorem wAct_pur {k : PK} {l : List Opd} : wAct p e H K R (.pur k l) = wOp (evO e) H K (.pur k l) := (rfl)
@[simp ↓] theorem wQ_pur {k : PK} {l : List Opd} : wQ p e H Q (.pur k l) = wOp (evO e) H (fun v _ => Q v) (.pur k l) := propext ⟨fun h => h.2, fun h => ⟨rfl, h⟩⟩
@[simp ↓] theorem wAct_rd {k : RK} {l : List Opd} : wAct p e H K R (.rd k l) = wOp (evO e) H K (.rd k l) := (rfl)
@[simp ↓] theorem wQ_rd {k : RK} {l : List Opd} : wQ p e H Q (.rd k l) = wOp (evO e) H (fun v _ => Q v) (.rd k l) := propext ⟨fun h => h.2, fun h => ⟨rfl, h⟩⟩
@[simp ↓] theorem wAct_mem {k : MK} {l : List Opd} : wAct p e H K R (.mem k l) = wOp (evO e) H K (.mem k l) := (rfl)
@[simp ↓] theorem wOp_pur {k : PK} {l : List Opd} : wOp ρ H K (.pur k l) = xPur k (l.map ρ) fun v => K v H := (rfl)
@[simp ↓] theorem wOp_rd {k : RK} {l : List Opd} : wOp ρ H K (.rd k l) = xRd H k (l.map ρ) fun v => K v H := (rfl)
@[simp ↓] theorem wOp_mem {k : MK} {l : List Opd} : wOp ρ H K (.mem k l) = xMem H k (l.map ρ) K := (rfl)
end
section
variable {H : List Ob} {K : V → Prop} {Q : V → List Ob → Prop}
@[simp] theorem xPur_i2f {k : FloatKind} {j : IntKind} {n : Int} : xPur (.i2f k) [.int j n] K = wVal (k.nearest n) fun b => K (.float k b) := by simp [xPur, wPur, purV]
@[simp] theorem xPur_f2i {k : IntKind} {j : FloatKind} {b : Nat} : xPur (.f2i k) [.float j b] K = wOpt ((j.decode b).toInt .zero) fun n => (k.min ≤ n ∧ n ≤ k.max) ∧ K (.int k n) := by
  simp only [xPur, wPur, purV, wOpt]
  cases (j.decode b).toInt .zero with
  | none => simp
  | some n => by_cases h : k.min ≤ n ∧ n ≤ k.max <;> simp [h]
@[simp] theorem xPur_i2s {j : IntKind} {n : Int} : xPur .i2s [.int j n] K = wVal (Utf8.encode n) fun s => K (.str s) := by simp [xPur, wPur, purV]
@[simp] theorem xPur_s2b {t : ByteArray} : xPur .s2b [.str t] K = wVal (t.data.toList.map fun b => V.int .u8 b.toNat) fun l => K (.list l false) := by simp [xPur, wPur, purV]
@[simp] theorem xPur_isNilOwn {b : Bool} {i o l n : Nat} : xPur (.isNil b) [.own i o l n] K = K (.bool (!b)) := by simp [xPur, wPur, purV]
@[simp] theorem xPur_isNilI0 {b : Bool} : xPur (.isNilI b) [.niliface] K = K (.bool b) := by simp [xPur, wPur, purV]
@[simp] theorem xPur_isNilI1 {b : Bool} {t : TypeId} {v : V} : xPur (.isNilI b) [.iface t v] K = K (.bool (!b)) := by simp [xPur, wPur, purV]
@[simp] theorem xPur_isNilCons {b c : Bool} {v : V} {l : List V} : xPur (.isNil b) [.list (v :: l) c] K = K (.bool (!b)) := by simp [xPur, wPur, purV]
@[simp] theorem xPur_isNilNil {b c : Bool} : xPur (.isNil b) [.list [] c] K = K .anyb := by simp [xPur, wPur, purV]
@[simp] theorem xPur_eqA {b : Bool} {offs : List (Nat × LfK)} {l m : List V} : xPur (.eqA b offs) [.agg l, .agg m] K = wOpt (eqLeaves l m offs) fun r => K (.bool (r == b)) := by
  simp only [xPur, wPur, purV, wOpt]
  cases eqLeaves l m offs <;> simp
@[simp] theorem xPur_lst {n len : Nat} {z vs : List V} {pl : List (Nat × Nat)} : xPur (.lst n len z pl) vs K = (pl.length = vs.length ∧ wOpt (fillV (zeros z len) ((pl.zip vs).map fun p => (p.1.1, p.1.2, p.2))) fun cells =>
    if len = 0 then K (.list [] true) else (n ≠ 1 ∨ cells.all leafy = true) ∧ wVal (chunk n len cells) fun l => K (.list l true)) := by
  simp only [xPur, wPur, purV, wOpt, wVal]
  by_cases h1 : pl.length = vs.length
  · simp only [h1, if_true, true_and]
    cases fillV (zeros z len) ((pl.zip vs).map fun p => (p.1.1, p.1.2, p.2)) with
    | none => simp
    | some cells =>
      by_cases h2 : len = 0
      · simp [h2]
      · by_cases h3 : n ≠ 1 ∨ cells.all leafy = true
        · simp only [h2, if_false, h3, if_true, true_and, Option.some.injEq, exists_eq_left']
        · refine propext ⟨?_, ?_⟩
          · rintro ⟨v, hv, _⟩
            dsimp only at hv
            rw [if_neg h2, if_neg h3] at hv; cases hv
          · rintro ⟨c, hc, h⟩
            cases hc
            rw [if_neg h2] at h
            exact absurd h.1 h3
  · simp [h1]
@[simp] theorem xPur_assert {t u : TypeId} {v : V} : xPur (.assert t none) [.iface u v] K = (u = t ∧ K v) := by
  by_cases h : u = t <;> simp [xPur, wPur, purV, h]
@[simp] theorem xPur_assertOk {t u : TypeId} {z v : V} : xPur (.assert t (some z)) [.iface u v] K = if u = t then K (.tuple [v, .bool true]) else K (.tuple [z, .bool false]) := by
  by_cases h : u = t <;> simp [xPur, wPur, purV, h]
@[simp] theorem xPur_assertNil {t : TypeId} {z : V} : xPur (.assert t (some z)) [.niliface] K = K (.tuple [z, .bool false]) := by simp [xPur, wPur, purV]
@[simp] theorem xRd_lookup {kk : KyK} {z m k : V} {ok : Bool} : xRd H (.lookup kk z ok) [m, k] K = wMapOf H m fun ks vs => wFind kk k ks 0 (fun i => wGet vs i fun v => if ok = true then K (.tuple [v, .bool true]) else K v) (if ok = true then K (.tuple [z, .bool false]) else K z) := by
  simp only [xRd, wRd, rdV, wMapOf, wFind, wGet]
  refine propext ⟨?_, ?_⟩
  · rintro ⟨v, h1, h2⟩
    split at h1 <;> try (cases h1; done)
    rename_i ks vs hm
    refine ⟨ks, vs, hm, ?_⟩
    split at h1 <;> try (cases h1; done)
    · rename_i i hf
      split at h1 <;> cases h1
      rename_i v hv
      refine ⟨some i, hf, v, hv, ?_⟩
      cases ok <;> exact h2
    · rename_i hf
      cases h1
      refine ⟨none, hf, ?_⟩
      cases ok <;> exact h2
  · rintro ⟨ks, vs, hm, r, hf, h⟩
    cases r with
    | none => exact ⟨if ok then .tuple [z, .bool false] else z, by simp only [hm, hf], by cases ok <;> exact h⟩
    | some i =>
      obtain ⟨v, hv, h⟩ := h
      exact ⟨if ok then .tuple [v, .bool true] else v, by simp only [hm, hf, hv], by cases ok <;> exact h⟩
@[simp] theorem wMapOf_nil {K : List V → List V → Prop} : wMapOf H .nilmap K = K [] [] := by
  show (∃ ks vs, some (([] : List V), ([] : List V)) = some (ks, vs) ∧ K ks vs) = _
  simp only [Option.some.injEq, Prod.mk.injEq, ex2]
@[simp] theorem wMapOf_map {ks vs : List V} {K : List V → List V → Prop} : wMapOf H (.map ks vs) K = K ks vs := by simp [ex2, wMapOf, mapOf]
@[simp] theorem wMapOf_ref {id : Nat} {K : List V → List V → Prop} : wMapOf H (.mref id) K = wML H id K := by
  simp only [wMapOf, mapOf, wML]
  refine propext ⟨?_, ?_⟩
  · rintro ⟨ks, vs, h1, h2⟩
    split at h1 <;> cases h1
    rename_i h
    exact ⟨ks, vs, h, h2⟩
  · rintro ⟨ks, vs, h1, h2⟩
    exact ⟨ks, vs, by rw [h1], h2⟩
@[simp] theorem wML_zero {ks vs : List V} {H : List Ob} {K : List V → List V → Prop} : wML (.mlive ks vs :: H) 0 K = K ks vs := by simp [ex2, wML]
@[simp] theorem wML_succ {o : Ob} {H : List Ob} {n : Nat} {K : List V → List V → Prop} : wML (o :: H) (n + 1) K = wML H n K := by simp [ex2, wML]
@[simp] theorem wML_end {ks vs : List V} {H : List Ob} {K : List V → List V → Prop} : wML (H ++ [.mlive ks vs]) H.length K = K ks vs := by simp [ex2, wML]
@[simp] theorem wML_j {J r : List Ob} {x : Ob} {K : List V → List V → Prop} : wML (J ++ x :: r) J.length K = wML (x :: r) 0 K := by simp [ex2, wML]
@[simp] theorem wML_jn {J r : List Ob} {n : Nat} {K : List V → List V → Prop} : wML (J ++ r) (J.length + n) K = wML r n K := by simp [ex2, wML]
@[simp] theorem wIter_zero {s : ByteArray} {pos : Nat} {H : List Ob} {K : ByteArray → Nat → Prop} : wIter (.iter s pos :: H) 0 K = K s pos := by simp [ex2, wIter]
@[simp] theorem wIter_succ {o : Ob} {H : List Ob} {n : Nat} {K : ByteArray → Nat → Prop} : wIter (o :: H) (n + 1) K = wIter H n K := by simp [ex2, wIter]
@[simp] theorem wIter_end {s : ByteArray} {pos : Nat} {H : List Ob} {K : ByteArray → Nat → Prop} : wIter (H ++ [.iter s pos]) H.length K = K s pos := by simp [ex2, wIter]
@[simp] theorem wFind_nil {kk : KyK} {k : V} {i : Nat} {F : Nat → Prop} {N : Prop} : wFind kk k [] i F N = N := by simp [wFind, findV]
@[simp] theorem wFind_int {q : IntKind} {a b : Int} {es : List V} {i : Nat} {F : Nat → Prop} {N : Prop} : wFind .int (.int q a) (.int q b :: es) i F N = if a = b then F i else wFind .int (.int q a) es (i + 1) F N := by
  by_cases h : a = b
  · simp [wFind, findV, keyEq, h]
  · have : (a == b) = false := beq_eq_false_iff_ne.2 h
    simp only [wFind, findV, keyEq, if_true, this, if_neg h]
@[simp] theorem wFind_str {a b : ByteArray} {es : List V} {i : Nat} {F : Nat → Prop} {N : Prop} : wFind .str (.str a) (.str b :: es) i F N = if a = b then F i else wFind .str (.str a) es (i + 1) F N := by
  by_cases h : a = b
  · subst h; simp [wFind, findV, keyEq]
  · have : (a.data.toList == b.data.toList) = false := by rw [bytes_beq, decide_eq_false h]
    simp only [wFind, findV, keyEq, this, if_neg h]
@[simp] theorem xMem_makeMap : xMem H .makeMap [] Q = wVal H fun H => Q (.mref H.length) (H ++ [.mlive [] []]) := by simp [ex2, xMem, wMem, memV, wVal]
@[simp] theorem xMem_makeMap1 {k : IntKind} {n : Int} : xMem H .makeMap [.int k n] Q = wVal H fun H => Q (.mref H.length) (H ++ [.mlive [] []]) := by simp [ex2, xMem, wMem, memV, wVal]
@[simp] theorem xMem_mark {id off len n : Nat} : xMem H .mark [.own id off len n] Q = wMut H id fun l => wVal l fun l => Q (.own id off len n) (H.set id (.fixed l)) := by
  simp only [xMem, wMem, memV, wMut, wVal]
  refine propext ⟨?_, ?_⟩
  · rintro ⟨v', H', h1, h2⟩
    rcases h1 with h1 | ⟨h1, _⟩
    · split at h1 <;> cases h1
      rename_i l hl
      exact ⟨l, hl, h2⟩
    · split at h1 <;> cases h1
  · rintro ⟨l, h1, h2⟩
    exact ⟨_, _, .inl (by rw [h1]), h2⟩
@[simp] theorem xMem_mapPut {kk : KyK} {id : Nat} {k v : V} : xMem H (.mapPut kk) [.mref id, k, v] Q = wML H id fun ks vs => wFind kk k ks 0 (fun _ => False) (wVal (ks ++ [k]) fun ks => wVal (vs ++ [v]) fun vs => Q uv (H.set id (.mlive ks vs))) := by
  simp only [xMem, wMem, memV, wML, wFind, wVal]
  refine propext ⟨?_, ?_⟩
  · rintro ⟨v', H', h1, h2⟩
    rcases h1 with h1 | ⟨h1, rfl⟩
    · repeat' split at h1
      all_goals cases h1
    · split at h1 <;> try (cases h1; done)
      rename_i ks vs ho
      split at h1 <;> cases h1
      rename_i hf
      exact ⟨ks, vs, ho, none, hf, h2⟩
  · rintro ⟨ks, vs, ho, r, hf, h⟩
    cases r with
    | some j => cases h
    | none => exact ⟨uv, _, .inr ⟨by rw [ho]; simp only [hf], rfl⟩, h⟩
@[simp] theorem xMem_range {s : ByteArray} : xMem H .range [.str s] Q = wVal H fun H => Q (.ptr H.length 0) (H ++ [.iter s 0]) := by simp [ex2, xMem, wMem, memV, wVal]
@[simp] theorem xMem_next {id : Nat} : xMem H .next [.ptr id 0] Q = wIter H id fun s pos => if pos < s.size then
    wVal (Utf8.decode s pos) fun d => Q (.tuple [.bool true, .int .i64 pos, .int .i32 d.1]) (H.set id (.iter s (pos + d.2))) else Q (.tuple [.bool false]) H := by
  simp only [xMem, wMem, memV, wIter, wVal]
  refine propext ⟨?_, ?_⟩
  · rintro ⟨v', H', h1, h2⟩
    split at h1
    · rename_i s pos ho
      refine ⟨s, pos, ho, ?_⟩
      by_cases hp : pos < s.size
      · rw [if_pos hp] at h1 ⊢
        rcases h1 with h1 | ⟨h1, _⟩ <;> cases h1
        exact h2
      · rw [if_neg hp] at h1 ⊢
        rcases h1 with h1 | ⟨h1, _⟩ <;> cases h1
        exact h2
    · rcases h1 with h1 | ⟨h1, _⟩ <;> cases h1
  · rintro ⟨s, pos, ho, h⟩
    by_cases hp : pos < s.size
    · rw [if_pos hp] at h
      exact ⟨_, _, .inl (by rw [ho]; simp only [if_pos hp]), h⟩
    · rw [if_neg hp] at h
      exact ⟨_, _, .inl (by rw [ho]; simp only [if_neg hp]), h⟩
end
section
variable {k : FloatKind} {a b : Nat} {ek : EqK} {K : V → Prop}
def wFl (k : FloatKind) (o : Option Nat) (K : V → Prop) [Tok K] : Prop := K (floatV k o)
@[simp] theorem wFl_some {n : Nat} : wFl k (some n) K = K (.float k n) := (rfl)
@[simp] theorem wFl_none : wFl k none K = K (.fnan k) := (rfl)
@[simp] theorem wBin_fadd : xBin .add ek (.float k a) (.float k b) K = wFl k (k.format.add a b) K := by simp [xBin, wBin, binV, wFl]
@[simp] theorem wBin_fsub : xBin .sub ek (.float k a) (.float k b) K = wFl k (k.format.sub a b) K := by simp [xBin, wBin, binV, wFl]
@[simp] theorem wBin_fmul : xBin .mul ek (.float k a) (.float k b) K = wFl k (k.format.mul a b) K := by simp [xBin, wBin, binV, wFl]
@[simp] theorem wBin_fquo : xBin .quo ek (.float k a) (.float k b) K = wFl k (k.format.div a b) K := by simp [xBin, wBin, binV, wFl]
@[simp] theorem wBin_feql : xBin .eql ek (.float k a) (.float k b) K = K (.bool (k.format.order a b == some .eq)) := by simp [xBin, wBin, binV, cmpF]
@[simp] theorem wBin_fneq : xBin .neq ek (.float k a) (.float k b) K = K (.bool (k.format.order a b != some .eq)) := by simp [xBin, wBin, binV, cmpF]
@[simp] theorem wBin_flss : xBin .lss ek (.float k a) (.float k b) K = K (.bool (k.format.order a b == some .lt)) := by simp [xBin, wBin, binV, cmpF]
@[simp] theorem wBin_fgtr : xBin .gtr ek (.float k a) (.float k b) K = K (.bool (k.format.order a b == some .gt)) := by simp [xBin, wBin, binV, cmpF]
@[simp] theorem wBin_fleq : xBin .leq ek (.float k a) (.float k b) K = K (.bool (k.format.order a b == some .lt || k.format.order a b == some .eq)) := by simp [xBin, wBin, binV, cmpF]
@[simp] theorem wBin_fgeq : xBin .geq ek (.float k a) (.float k b) K = K (.bool (k.format.order a b == some .gt || k.format.order a b == some .eq)) := by simp [xBin, wBin, binV, cmpF]
@[simp] theorem wBin_nneq : xBin .neq ek (.fnan k) (.fnan k) K = K (.bool true) := by simp [xBin, wBin, binV, cmpF]; rfl
@[simp] theorem wBin_neql : xBin .eql ek (.fnan k) (.fnan k) K = K (.bool false) := by simp [xBin, wBin, binV, cmpF]
@[simp] theorem wUn_fneg : xUn .neg (.float k a) K = wVal (Op.negFloat k a) fun b => K (.float k b) := by simp [xUn, wUn, unV, wVal]
end
end Fz
namespace Fz
open Go
inductive Prim where
  | fbits
  | ffrom
  | sqrt
  | integral (way : Ieee.Toward)
def primV : Prim → List V → Option V
  | .fbits, [.float .f64 b] => some (.int .u64 b)
  | .ffrom, [.int .u64 n] => some (.float .f64 n.toNat)
  | .sqrt, [.float .f64 b] => some (floatV .f64 (Ieee.double.sqrt b))
  | .integral way, [.float .f64 b] => match Ieee.double.read b with
    | .nan _ _ => none
    | d => some (.float .f64 (Ieee.double.write (d.integral way)))
  | _, _ => none
def primName : Prim → String
  | .integral way => match way with
    | .down => "math.archFloor"
    | .up => "math.archCeil"
    | .zero => "math.archTrunc"
    | .even => "math.RoundToEven"
  | _ => ""
def primSem : Prim → Array Value → Sem Value
  | .fbits => Extern.MathFloatBits.float64bits
  | .ffrom => Extern.MathFloatBits.float64frombits
  | .sqrt => Extern.MathSqrt.sqrt
  | .integral way => Extern.MathFloor.toIntegral (primName (.integral way)) way
theorem primSem_ok {P : Program} {pr : Prim} {args : List V} {v : V} (h : primV pr args = some v) {K : Kn} {β : Bi} {w : World} {cs : Array Value} (ha : LR K β args cs.toList) :
    ∃ c w', (primSem pr cs).run P w = .ok c w' ∧ VR K β v c ∧ Drew w w' := by
  obtain ⟨cs⟩ := cs
  unfold primV at h
  split at h <;> try (cases h; done)
  · obtain ⟨c, r, e, h1, h2⟩ := ha.head
    obtain rfl : r = [] := List.eq_nil_of_length_eq_zero h2.1.symm
    have e : cs = [c] := e
    subst e; cases h; cases h1
    exact ⟨_, w, rfl, .int _ _, .refl w⟩
  · obtain ⟨c, r, e, h1, h2⟩ := ha.head
    obtain rfl : r = [] := List.eq_nil_of_length_eq_zero h2.1.symm
    have e : cs = [c] := e
    subst e; cases h; cases h1
    exact ⟨_, w, rfl, .float _ _, .refl w⟩
  · rename_i b
    obtain ⟨c, r, e, h1, h2⟩ := ha.head
    obtain rfl : r = [] := List.eq_nil_of_length_eq_zero h2.1.symm
    have e : cs = [c] := e
    subst e; cases h; cases h1
    have e0 : primSem .sqrt #[.float .f64 b] = (match Ieee.double.sqrt b with | some r => pure (.float .f64 r) | none => do pure (.float .f64 (← choose (.nanBits .f64 b b))) : Sem Value) := rfl
    rw [e0]
    cases hs : Ieee.double.sqrt b with
    | some x =>
      refine ⟨.float .f64 x, w, ?_, .float _ _, .refl w⟩
      rfl
    | none =>
      refine ⟨.float .f64 ((Question.nanBits .f64 b b).cut (w.tape w.drawn (.nanBits .f64 b b))), { w with drawn := w.drawn + 1 }, ?_, ?_, ⟨rfl, rfl, rfl, rfl⟩⟩
      · simp [Question.forced]
      · exact .fnan _ _ ⟨w.tape w.drawn (.nanBits .f64 b b), by simp [Question.cut]⟩
  · rename_i way b
    obtain ⟨c, r, e, h1, h2⟩ := ha.head
    obtain rfl : r = [] := List.eq_nil_of_length_eq_zero h2.1.symm
    have e : cs = [c] := e
    subst e; cases h1
    have e0 : primSem (.integral way) #[.float .f64 b] = (match Ieee.double.read b with
      | .nan s t => if Ieee.double.quiet t = t then pure (.float .f64 b) else do
        let kept ← choose (.extern "math.Floor,Ceil,Trunc,RoundToEven.signallingNaN kept" 2)
        pure (.float .f64 (if kept == 1 then b else Ieee.double.write (.nan s (Ieee.double.quiet t))))
      | d => pure (.float .f64 (Ieee.double.write (d.integral way))) : Sem Value) := rfl
    split at h
    · cases h
    · rename_i hn
      cases h
      refine ⟨.float .f64 (Ieee.double.write ((Ieee.double.read b).integral way)), w, ?_, .float _ _, .refl w⟩
      rw [e0]
      cases hd : Ieee.double.read b with
      | nan s t => exact absurd hd (hn s t)
      | _ => rfl
theorem prim_ok {P : Program} {pr : Prim} {f : FuncId} {fn : Func} (hf : P.funcs[f]? = some fn) (hname : (fn.name == "runtime.NumGoroutine") = false) (hb : fn.body = none) (hn : Extern.findNext fn = none)
    (he : ∀ a, (Extern.find fn).map (fun e => e a) = some (primSem pr a)) (args : List V) (v : V) (h : primV pr args = some v) (K : Kn) (β : Bi) (H : List Ob) (w : World) (cargs : Array Value) (hI : Inv K β H w) (ha : LR K β args cargs.toList) (hY : f ≠ YF := by decide) :
    DoesOk P f cargs w (CallPost K β H w (.ret v) H) := by
  obtain ⟨c, w', h1, h2, h3⟩ := primSem_ok (P := P) (w := w) h ha
  cases hx : Extern.find fn with
  | none => have := he #[]; rw [hx] at this; cases this
  | some e =>
    have e1 : e cargs = primSem pr cargs := by have := he cargs; rw [hx] at this; exact Option.some.inj this
    refine .inl ⟨c, w', ?_, K, β, h2, hI.drawn h3.1, .drawn h3.1 h3.2.1 h3.2.2.1 h3.2.2.2⟩
    rw [callG_fn hY, run_callFunc_extern hf hname (by rw [hb]; rfl) hn hx, e1, h1]
    rfl
def liftP (g : List V → Option V) : List V → List Ob → Option (V × List Ob) := fun args H => (g args).map fun v => (v, H)
theorem Comes_prim {p : AP} {f : FuncId} {g : List V → Option V} {args : List V} {v : V} (hp : p.prim f = some (liftP g)) (hg : g args = some v) (hi : p.inlY f = false)
    (ha : args.all gr = true) (hn : args.all nm = true) (hv : gr v = true) (hnm : nrm v = v) : Comes p f args v := by
  have hY : f ≠ YF := by
    rintro rfl
    simp [AP.inlY] at hi
  have hv' := hv
  unfold gr at hv'
  rw [Bool.and_eq_true] at hv'
  refine ⟨ha, hv, by rw [hn, Bool.or_true], 1, v, [], ?_, .inr ⟨hi, v, [], freeze_gr _ _ _ hv'.1 hv'.2, hnm⟩⟩
  simp only [acall, callW, if_neg hY, hp, liftP, hg, Option.map_some]
def rowP : List V → List Ob → Option (V × List Ob)
  | [.int .i64 n], H => if 0 ≤ n ∧ n ≤ 281474976710656 then some (.own H.length 0 n.toNat 1, H ++ [.live (List.replicate n.toNat .any)]) else none
  | _, _ => none
end Fz
namespace Fz
open Go
theorem Inv.below {K : Kn} {β : Bi} {H : List Ob} {w w' : World} (h : Inv K β H w) (hb : ∀ k, k < w.heap.size → w'.heap[k]? = w.heap[k]?) : Inv K β H w' := by
  refine ⟨fun b o x => ?_, fun b z x => ?_, h.dom, fun id o ho => ?_, h.inj⟩
  · have := h.fixed b o x; rw [hb b (heap_lt this)]; exact this
  · obtain ⟨cs, e, fr, h1, h2⟩ := h.size b z x
    exact ⟨cs, e, fr, by rw [hb b (heap_lt h1)]; exact h1, h2⟩
  · refine (h.obj id o ho).mono K.le_refl (fun _ _ h => h) fun b hl hβ hf => ⟨hf, ?_⟩
    obtain ⟨b', q1, q2, _⟩ := (h.obj id o ho).lt hl
    rw [hβ] at q1; cases q1
    exact hb b q2
theorem Ev.below {K : Kn} {β : Bi} {H : List Ob} {w w' : World} (hb : RowKit.Below w.heap.size w w') : Ev K β H w K β H w' :=
  ⟨K.le_refl, fun _ _ h => h, Nat.le_refl _, fun k hk _ => hb.block k hk, hb.size, hb.os, hb.tape, hb.output, fun _ h => .inl h, fun _ _ h => .inl h, fun _ _ => rfl⟩
theorem walked_ok {P : Program} {f : FuncId} {fn : Func} {c : Code} (hf : P.funcs[f]? = some fn) (hname : (fn.name == "runtime.NumGoroutine") = false) (hb : fn.body = some c) (hY : f ≠ YF)
    {K : Kn} {β : Bi} {H : List Ob} {w : World} {cargs : Array Value} {v : V} {x : Value} (hI : Inv K β H w) (hw : Calls P f cargs w fun e w' => e = .returned x ∧ RowKit.Below w.heap.size w w') (hv : VR K β v x) :
    DoesOk P f cargs w (CallPost K β H w (.ret v) H) := by
  refine .inr (.inl ⟨f, cargs, ?_, ?_⟩)
  · rw [callG_fn hY]
    exact Go.Proofs.enters_of hf hname hb cargs w
  · refine hw.mono ?_
    rintro e w' ⟨rfl, h2⟩
    exact ⟨K, β, hv, hI.below fun k hk => h2.block k hk, .below h2⟩
def upB (c : UInt8) : UInt8 := if 97 ≤ c.toNat ∧ c.toNat ≤ 122 then c - 32 else c
def upS (s : ByteArray) : ByteArray := ⟨(s.data.toList.map upB).toArray⟩
def foldP : List V → Option V
  | [.str s] => if s.size ≤ 35184372088832 then some (.str (upS s)) else none
  | _ => none
def idxB (s : ByteArray) (c : UInt8) : Int := Lib.indexByte s.data.toList c
def idxP : List V → Option V
  | [.str s, .int .u8 c] => some (.int .i64 (idxB s c.toNat.toUInt8))
  | _ => none
theorem idx_ok {P : Program} {f : FuncId} {fn : Func} (hf : P.funcs[f]? = some fn) (hname : (fn.name == "runtime.NumGoroutine") = false) (hb : fn.body = none) (hn : Extern.findNext fn = none)
    (he : ∀ a, (Extern.find fn).map (fun e => e a) = some (Extern.BytealgIndexByte.indexByte a)) (hY : f ≠ YF) (args : List V) (v : V) (h : idxP args = some v) (K : Kn) (β : Bi) (H : List Ob) (w : World) (cargs : Array Value) (hI : Inv K β H w) (ha : LR K β args cargs.toList) :
    DoesOk P f cargs w (CallPost K β H w (.ret v) H) := by
  unfold idxP at h
  split at h <;> cases h
  rename_i s c
  obtain ⟨cs⟩ := cargs
  obtain ⟨c1, r1, e1, g1, g2⟩ := ha.head
  obtain ⟨c2, r2, e2, g3, g4⟩ := g2.head
  obtain rfl : r2 = [] := List.eq_nil_of_length_eq_zero g4.1.symm
  have e1 : cs = c1 :: r1 := e1
  subst e2 e1
  cases g1; cases g3
  cases hx : Extern.find fn with
  | none => have := he #[]; rw [hx] at this; cases this
  | some e =>
    have e1 : e ([.string s, .int .u8 c] : List Value).toArray = Extern.BytealgIndexByte.indexByte #[.string s, .int .u8 c] := by have := he #[.string s, .int .u8 c]; rw [hx] at this; exact Option.some.inj this
    refine .inl ⟨_, w, ?_, K, β, .int .i64 _, hI, .refl K β H w⟩
    rw [callG_fn hY]
    show (callFunc f ([.string s, .int .u8 c] : List Value).toArray).run P w = _
    rw [run_callFunc_extern hf hname (by rw [hb]; rfl) hn hx, e1, Lib.run_indexByteString]
    rfl
end Fz
namespace Fz
open Go
def isSp (c : UInt8) : Bool := c == 9 || c == 10 || c == 11 || c == 12 || c == 13 || c == 32
def cntF : List UInt8 → Bool → Nat
  | [], _ => 0
  | c :: r, was => (if was && !isSp c then 1 else 0) + cntF r (isSp c)
def wordsF : List UInt8 → List UInt8 → List (List UInt8)
  | [], [] => []
  | [], a => [a]
  | c :: r, a => if isSp c then (if a.isEmpty then wordsF r [] else a :: wordsF r []) else wordsF r (a ++ [c])
def fieldsF (s : ByteArray) : List ByteArray := (wordsF s.data.toList []).map fun w => ⟨w.toArray⟩
end Fz
namespace Fz
open Go
def backK (ids : List Nat) (n : Nat) (j : Nat) : Nat := if j < ids.length then ids[j]?.getD 0 else n + (j - ids.length)
def backH (ids : List Nat) (r : CR) (Hl H : List Ob) : List Ob :=
  if (refs (crV r) ++ (Hl.take ids.length).flatMap refsOb).any (fun j => ids.length ≤ j) = true then setAll H ids ((Hl.take ids.length).map (renOb (backK ids H.length))) ++ (Hl.drop ids.length).map (renOb (backK ids H.length))
  else setAll H ids ((Hl.take ids.length).map (renOb (backK ids H.length)))
theorem doCall_inl {call : CallT} {inl : FuncId → Bool} {f : FuncId} {args : List V} {H : List Ob} (hi : inl f = true) {ids : List Nat} (hr : reach H 1000 (refsL args) [] = some ids) {r : CR} {Hl : List Ob}
    (hc : call f (renL (fun i => ids.idxOf i) args) (ids.map fun i => renOb (fun i => ids.idxOf i) (H[i]?.getD .dead)) = some (r, Hl)) (hl : ids.length ≤ Hl.length) :
    doCall call inl f args H = some (renR (backK ids H.length) r, backH ids r Hl H) := by
  unfold doCall
  rw [if_pos hi]
  dsimp only
  rw [hr]
  dsimp only
  rw [hc]
  dsimp only
  rw [if_pos hi]
  dsimp only
  rw [if_pos hl]
  unfold backH
  split <;> rfl
theorem WCall_inl {p : AP} {f : FuncId} {args : List V} {H : List Ob} {Q : CR → List Ob → Prop} (hi : p.inlY f = true) {ids : List Nat} (hr : reach H 1000 (refsL args) [] = some ids)
    (h : WFun p f (renL (fun i => ids.idxOf i) args) (ids.map fun i => renOb (fun i => ids.idxOf i) (H[i]?.getD .dead)) fun r Hl => ids.length ≤ Hl.length ∧ Q (renR (backK ids H.length) r) (backH ids r Hl H)) : WCall p f args H Q := by
  obtain ⟨n, r, Hl, h1, h2, h3⟩ := h
  exact ⟨n, _, _, doCall_inl hi hr h1 h2, h3⟩
def Does (p : AP) (f : FuncId) (l : List V) (gs : List V) (v : V) (l' : List V) : Prop :=
  p.inlY f = true ∧ groundL l = true ∧ groundL gs = true ∧ ground v = true ∧ groundL l' = true ∧ ∃ n Hx, acall p n f (.ptr 0 0 :: gs) [.live l] = some (.ret v, .live l' :: Hx)
theorem Does.doCall {p : AP} {f : FuncId} {l gs : List V} {v : V} {l' : List V} (h : Does p f l gs v l') : ∃ n, ∀ (H : List Ob) (i : Nat), H[i]? = some (.live l) → doCall (acall p n) p.inlY f (.ptr i 0 :: gs) H = some (.ret v, H.set i (.live l')) := by
  obtain ⟨h1, h2, h3, h4, h5, n, Hx, h6⟩ := h
  refine ⟨n, fun H i hi => ?_⟩
  have hr : reach H 1000 (refsL (.ptr i 0 :: gs)) [] = some [i] := by
    have e1 : refsL (.ptr i 0 :: gs) = [i] := by rw [refsL, groundL_refs gs h3]; rfl
    rw [e1]
    show reach H (998 + 1 + 1) [i] [] = _
    rw [reach]
    rw [if_neg (by simp), hi]
    dsimp only
    rw [show refsOb (.live l) = [] from groundL_refs l h2]
    rfl
  have hidx : ([i] : List Nat).idxOf i = 0 := by simp
  have := doCall_inl (call := acall p n) (inl := p.inlY) (f := f) (args := .ptr i 0 :: gs) (H := H) h1 hr (r := .ret v) (Hl := .live l' :: Hx) (by
    rw [renL, groundL_ren _ gs h3, ren, hidx]
    simp only [List.map_cons, List.map_nil, hi, Option.getD_some, renOb, groundL_ren _ l h2]
    exact h6) (by simp)
  rw [this, renR, ground_ren _ v h4]
  have hb : backH [i] (.ret v) (.live l' :: Hx) H = H.set i (.live l') := by
    unfold backH
    rw [if_neg]
    · simp [setAll, renOb, groundL_ren _ l' h5]
    · simp [crV, ground_refs v h4, refsOb, groundL_refs l' h5]
  rw [hb]
theorem WCall_does {p : AP} {f : FuncId} {l gs : List V} {v : V} {l' : List V} (h : Does p f l gs v l') {H : List Ob} {i : Nat} (hi : H[i]? = some (.live l)) (Q : CR → List Ob → Prop) : WCall p f (.ptr i 0 :: gs) H Q = Q (.ret v) (H.set i (.live l')) := by
  obtain ⟨n, hn⟩ := h.doCall
  refine propext ⟨?_, fun hq => ⟨n, _, _, hn H i hi, hq⟩⟩
  rintro ⟨m, r, H', h1, h2⟩
  have e1 := doCall_mono (acall_le p (Nat.le_max_left m n)) p.inlY _ _ _ _ h1
  have e2 := doCall_mono (acall_le p (Nat.le_max_right m n)) p.inlY _ _ _ _ (hn H i hi)
  rw [e1] at e2
  cases e2
  exact h2
def WDef (p : AP) (d : V) (pv : Option V) (H : List Ob) (K : Bool → List Ob → Prop) : Prop := ∃ n b H', callR p (exec p n) d pv H = some (b, H') ∧ K b H'
def finD (rs : List (Nat × Option (Bool × Nat))) (K : List Ob → Prop) : QX := fun x e H => match x with
  | .normal => wResults e H rs fun _ => K H
  | .ret => wResults e H rs fun _ => K H
  | _ => False
theorem WDef_rcv {p : AP} {g : FuncId} (w : WF) {first cap : List V} {pv : Option V} {H : List Ob} {K : Bool → List Ob → Prop} {t : Nat} (hr : w.rcv = some t) (hp : p.prim g = none) (hf : p.fn g = some w.toA) (hc : okW w.code = true) (hR : hasR (toA w.code) = false)
    (h : wx p w.code (upd (env0 (first ++ cap)) t (pv.getD .niliface)) H (finD w.results (K pv.isSome))) (hY : g ≠ YF := by decide) (hd : w.dfr = none := by rfl) : WDef p (.fn (.func g) first cap) pv H K := by
  obtain ⟨n, x, e, H', h1, h2⟩ := wx_ok _ _ _ _ hc h
  have hres : ∃ l, resultsV e H' w.results = some l ∧ K pv.isSome H' ∧ (x = .normal ∨ x = .ret) := by
    cases x with
    | normal => obtain ⟨l, h3, h4⟩ := wResults_ok h2; exact ⟨l, h3, h4, .inl rfl⟩
    | ret => obtain ⟨l, h3, h4⟩ := wResults_ok h2; exact ⟨l, h3, h4, .inr rfl⟩
    | _ => cases h2
  obtain ⟨l, h3, h4, hx⟩ := hres
  refine ⟨n, pv.isSome, H', ?_, h4⟩
  unfold callR
  dsimp only
  rw [if_neg hY, hp, hf]
  simp only [WF.toA, hd, hr, Option.map_none, hR, h1]
  rcases hx with rfl | rfl <;> simp only [finishF, resultOf_eq h3, Option.map_some]
def wPre (p : AP) (rs : List (Nat × Option (Bool × Nat))) (Q : CR → List Ob → Prop) (N : Env → List Ob → Prop) : List WC → Env → List Ob → Prop
  | [], e, H => N e H
  | c :: r, e, H => wx p c e H (thenQ (fun e H => wPre p rs Q N r e H) (finQ rs Q))
def dfrQ (p : AP) (rs : List (Nat × Option (Bool × Nat))) (d : V) (Q : CR → List Ob → Prop) : QX := fun x e H => match x with
  | .normal => WDef p d none H fun _ H' => wResults e H' rs fun l => Q (.ret (tupV l)) H'
  | .ret => WDef p d none H fun _ H' => wResults e H' rs fun l => Q (.ret (tupV l)) H'
  | .panic v => WDef p d (some v) H fun b H' => if b = true then wResults e H' rs fun l => Q (.ret (tupV l)) H' else Q (.panic v) H'
  | _ => False
theorem finQ_ok {p : AP} {rs : List (Nat × Option (Bool × Nat))} {Q : CR → List Ob → Prop} {x : X} {e : Env} {H : List Ob} (h : finQ rs Q x e H) {af : AFun} (hr : af.results = rs) : ∃ r H', finishF af (some (x, e, H)) = some (r, H') ∧ Q r H' := by
  cases x with
  | normal => obtain ⟨l, h3, h4⟩ := wResults_ok h; exact ⟨_, _, by simp only [finishF, hr, resultOf_eq h3, Option.map_some], h4⟩
  | ret => obtain ⟨l, h3, h4⟩ := wResults_ok h; exact ⟨_, _, by simp only [finishF, hr, resultOf_eq h3, Option.map_some], h4⟩
  | panic v => exact ⟨_, _, rfl, h⟩
  | exit i => cases h
  | mayRet => cases h
def Ac (n b : Nat) (J : List Ob) (v : V) (l : List V) : Prop :=
  uni n l = true ∧ n ≠ 0 ∧ ((l = [] ∧ v = .list [] true) ∨ ∃ j cells, v = .own (b + j) 0 l.length n ∧ J[j]? = some (.live cells) ∧ l.length * n ≤ cells.length ∧ cells.take (l.length * n) = flat l)
theorem ac_nil {n b : Nat} {J : List Ob} (hn : n ≠ 0) : Ac n b J (.list [] true) [] := ⟨rfl, hn, .inl ⟨rfl, rfl⟩⟩
theorem ac_acc {n b : Nat} {J : List Ob} {v : V} {l : List V} (h : Acc n b J v l) : Ac n b J v l := by
  obtain ⟨h1, h2, h3⟩ := h
  refine ⟨h1, h2, ?_⟩
  rcases h3 with h3 | ⟨j, h3, h4⟩
  · exact .inl h3
  · exact .inr ⟨j, flat l, h3, h4, by rw [uni_flat h1]; exact Nat.le_refl _, by rw [← uni_flat h1, List.take_length]⟩
theorem app_ac (b : Nat) {H : List Ob} {n bytes k : Nat} {v : V} {l m xs : List V} {K : V → List Ob → Prop} (ha : Ac n b (H.drop b) v l) (hb : b ≤ H.length)
    (hxs : xs = flat m) (hk : k = m.length) (hu : uni n m = true) (hs : (flat m).all storable = true) (hc : capOk (l.length + m.length) bytes = true)
    (hK : ∀ v' J', Ac n b J' v' (l ++ m) → K v' (H.take b ++ J')) : xAppend H n bytes v xs k K := by
  obtain ⟨h1, h2, h3⟩ := ha
  rcases h3 with h3 | ⟨j, cells, rfl, h4, h5, h6⟩
  · exact app_acc b ⟨h1, h2, .inl h3⟩ hb hxs hk hu hs hc fun v' J' h => hK v' J' (ac_acc h)
  · subst hxs hk
    have hum : uni n (l ++ m) = true := by rw [uni_append, h1, hu]; rfl
    by_cases h0 : m.length = 0
    · have hm : m = [] := List.length_eq_zero_iff.1 h0
      subst hm
      have hk := hK (.own (b + j) 0 l.length n) (H.drop b) ⟨by simpa using h1, h2, .inr ⟨j, cells, by simp, h4, by simpa using h5, by simpa using h6⟩⟩
      rw [List.take_append_drop] at hk
      rw [wAppend_own, if_pos (by rfl)]
      exact ⟨rfl, hk⟩
    · rw [wAppend_own, if_neg h0]
      refine ⟨rfl, ?_⟩
      rw [List.getElem?_drop] at h4
      refine ⟨cells, h4, ⟨rfl, h5, hs, hc⟩, ?_⟩
      show K _ _
      rw [h6, ← flat_append]
      have := hK (.own H.length 0 (l.length + m.length) n) ((H.drop b).set j .dead ++ [.live (flat (l ++ m))]) ⟨hum, h2, .inr ⟨(H.drop b).length, flat (l ++ m), ?_, ?_, by rw [uni_flat hum]; exact Nat.le_refl _, by rw [← uni_flat hum, List.take_length]⟩⟩
      · rw [← List.append_assoc] at this
        have e2 : H.take b ++ (H.drop b).set j .dead = H.set (b + j) .dead := by
          conv => rhs; rw [← List.take_append_drop b H]
          rw [List.set_append_right _ _ (by rw [List.length_take]; omega), List.length_take]
          congr 2
          omega
        rw [e2] at this
        exact this
      · rw [List.length_drop, show b + (H.length - b) = H.length from by omega, List.length_append]
      · rw [List.getElem?_append_right (by simp)]; simp
end Fz
