/- Code, functions, calls: what they need, and what comes of them. -/
import Derived.Test.YtpojglkaohhbkaaFzAA
namespace Fz
open Go

/-- Code, its regions whose order is open told apart. -/
inductive WC where
  | skip
  | reg (ops : List AO)
  | calm (ops : List AO)
  | same (ops : List AO)
  | draw (ops : List AO)
  | seq (a b : WC)
  | cond (c : Opd) (thn els : WC)
  | block (id : Nat) (body : WC)
  | loop (body : WC)
  | exit (id : Nat)
  | ret
  | fix (t : Option Nat) (body : WC)
def toA : WC → ACode
  | .skip => .skip
  | .reg ops => .region ops false
  | .calm ops => .region ops true
  | .same ops => .region ops true
  | .draw ops => .region ops true
  | .seq a b => .seq (toA a) (toA b)
  | .cond c a b => .cond c (toA a) (toA b)
  | .block i b => .block i (toA b)
  | .loop b => .loop (toA b)
  | .exit i => .exit i
  | .ret => .ret
  | .fix t b => .fix t (toA b)
/-- Are they as they are told to be? -/
def okW : WC → Bool
  | .calm ops => Fz.calm ops
  | .same ops => okDraw ops
  | .seq a b => okW a && okW b
  | .cond _ a b => okW a && okW b
  | .block _ b => okW b
  | .loop b => okW b
  | .fix _ b => okW b
  | _ => true

abbrev QX := X → Env → List Ob → Prop

def WX (p : AP) (c : ACode) (e : Env) (H : List Ob) (Q : QX) : Prop := ∃ n x e' H', exec p n c e H = some (x, e', H') ∧ Q x e' H'

def thenQ (N : Env → List Ob → Prop) (Q : QX) : QX := fun x e H => match x with
  | .normal => N e H
  | x => Q x e H
def blockQ (id : Nat) (Q : QX) : QX := fun x e H => match x with
  | .exit i => if i = id then Q .normal e H else Q (.exit i) e H
  | x => Q x e H

def WL (p : AP) (b : WC) (e : Env) (H : List Ob) (Q : QX) : Prop := WX p (.loop (toA b)) e H Q

def wFixV (v : V) (H : List Ob) (K : V → List Ob → Prop) : Prop := ∃ v' H', freezeV depthF v H = some (v', H') ∧ K v' H'
def wFixH (H : List Ob) (K : List Ob → Prop) : Prop := ∃ H', freezeObs 0 H H = some H' ∧ K H'

def wx (p : AP) : WC → Env → List Ob → QX → Prop
  | .skip, e, H, Q => Q .normal e H
  | .reg ops, e, H, Q => wOps p Q ops e H
  | .calm ops, e, H, Q => wCalm p Q ops e H
  | .same ops, e, H, Q => wSame p Q ops e H
  | .draw ops, e, H, Q => WDraw p ops e H Q
  | .seq a b, e, H, Q => wx p a e H (thenQ (fun e H => wx p b e H Q) Q)
  | .cond c a b, e, H, Q => wBool (evO e c) (wx p a e H Q) (wx p b e H Q)
  | .block id b, e, H, Q => wx p b e H (blockQ id Q)
  | .loop b, e, H, Q => WL p b e H Q
  | .exit id, e, H, Q => Q (.exit id) e H
  | .ret, e, H, Q => Q .ret e H
  | .fix (some t) b, e, H, Q => wFixV (e t) H fun v H' => wx p b (upd e t v) H' Q
  | .fix none b, e, H, Q => wFixH H fun H' => wx p b e H' Q

theorem WX_draw {p : AP} {ops : List AO} {e : Env} {H : List Ob} {Q : QX} (h : WDraw p ops e H Q) : WX p (.region ops true) e H Q := by
  obtain ⟨n, x, e', H', h1, h2⟩ := h
  exact ⟨n + 1, x, e', H', by unfold exec; exact h1, h2⟩

theorem wx_ok {p : AP} (c : WC) : ∀ (e : Env) (H : List Ob) (Q : QX), okW c = true → wx p c e H Q → WX p (toA c) e H Q := by
  induction c with
  | skip => intro e H Q _ h; exact ⟨1, _, _, _, rfl, h⟩
  | reg ops =>
    intro e H Q hc h
    obtain ⟨n, x, e', H', h1, h2⟩ := wOps_ok ops e H h
    exact ⟨n + 1, x, e', H', by unfold toA exec; exact h1, h2⟩
  | calm ops => intro e H Q hc h; exact WX_draw (WDraw_calm hc h)
  | same ops => intro e H Q hc h; exact WX_draw (WDraw_same hc h)
  | draw ops => intro e H Q hc h; exact WX_draw h
  | seq a b iha ihb =>
    intro e H Q hc h
    rw [okW, Bool.and_eq_true] at hc
    unfold wx at h
    obtain ⟨n, x, e', H', h1, h2⟩ := iha e H _ hc.1 h
    unfold toA
    cases x with
    | normal =>
      obtain ⟨m, x, e'', H'', h3, h4⟩ := ihb e' H' Q hc.2 h2
      refine ⟨max n m + 1, x, e'', H'', ?_, h4⟩
      rw [exec, exec_le p (Nat.le_max_left n m) _ _ _ _ h1]
      exact exec_le p (Nat.le_max_right n m) _ _ _ _ h3
    | _ => exact ⟨n + 1, _, _, _, by rw [exec, h1], h2⟩
  | cond c a b iha ihb =>
    intro e H Q hc h
    rw [okW, Bool.and_eq_true] at hc
    unfold wx wBool at h
    unfold toA
    cases hv : evO e c with
    | bool t =>
      rw [hv] at h
      cases t with
      | true =>
        obtain ⟨n, x, e', H', h1, h2⟩ := iha e H Q hc.1 h
        exact ⟨n + 1, x, e', H', by rw [exec, hv]; exact h1, h2⟩
      | false =>
        obtain ⟨n, x, e', H', h1, h2⟩ := ihb e H Q hc.2 h
        exact ⟨n + 1, x, e', H', by rw [exec, hv]; exact h1, h2⟩
    | _ => rw [hv] at h; cases h
  | block id b ih =>
    intro e H Q hc h
    unfold wx at h
    unfold toA
    obtain ⟨n, x, e', H', h1, h2⟩ := ih e H _ hc h
    unfold blockQ at h2
    split at h2
    · rename_i i
      split at h2
      · rename_i hi; exact ⟨n + 1, _, _, _, by rw [exec, h1]; simp only [if_pos hi], h2⟩
      · rename_i hi; exact ⟨n + 1, _, _, _, by rw [exec, h1]; simp only [if_neg hi], h2⟩
    · rename_i hx
      refine ⟨n + 1, x, e', H', ?_, h2⟩
      rw [exec, h1]
      cases x with
      | exit i => exact absurd rfl (hx i)
      | _ => rfl
  | loop b ih => intro e H Q hc h; exact h
  | fix t b ih =>
    intro e H Q hc h
    unfold toA
    cases t with
    | some t =>
      unfold wx at h
      obtain ⟨v, H1, h1, h2⟩ := h
      obtain ⟨n, x, e', H', h3, h4⟩ := ih _ _ Q hc h2
      exact ⟨n + 1, x, e', H', by rw [exec, h1]; exact h3, h4⟩
    | none =>
      unfold wx at h
      obtain ⟨H1, h1, h2⟩ := h
      obtain ⟨n, x, e', H', h3, h4⟩ := ih _ _ Q hc h2
      exact ⟨n + 1, x, e', H', by rw [exec, h1]; exact h3, h4⟩
  | exit id => intro e H Q _ h; exact ⟨1, _, _, _, rfl, h⟩
  | ret => intro e H Q _ h; exact ⟨1, _, _, _, rfl, h⟩

/-- A loop: what holds ahead of each round, and falls. -/
def loopQ (I : Nat → Env → List Ob → Prop) (k : Nat) (Q : QX) : QX := fun x e H => match x with
  | .normal => ∃ k', k' < k ∧ I k' e H
  | x => Q x e H
theorem WL_by {p : AP} {b : WC} {Q : QX} {e : Env} {H : List Ob} (hc : okW b = true) (I : Nat → Env → List Ob → Prop) (k : Nat) (h : I k e H)
    (step : ∀ k e H, I k e H → wx p b e H (loopQ I k Q)) : WL p b e H Q := by
  unfold WL
  induction k using Nat.strongRecOn generalizing e H with
  | _ k ih =>
    obtain ⟨n, x, e', H', h1, h2⟩ := wx_ok b e H _ hc (step k e H h)
    cases x with
    | normal =>
      obtain ⟨k', hk, hI⟩ := h2
      obtain ⟨m, x, e'', H'', h3, h4⟩ := ih k' hk hI
      refine ⟨max n m + 1, x, e'', H'', ?_, h4⟩
      rw [exec, exec_le p (Nat.le_max_left n m) _ _ _ _ h1]
      exact exec_le p (Nat.le_max_right n m) _ _ _ _ h3
    | _ => exact ⟨n + 1, _, _, _, by rw [exec, h1], h2⟩

/-! ### Functions -/

def wResult (e : Env) (H : List Ob) (K : V → Prop) : Nat × Option (Bool × Nat) → Prop
  | (t, none) => K (e t)
  | (t, some (agg, n)) => wPeek H n (e t) fun l => if agg = true then K (.agg l) else ∃ v, l = [v] ∧ K v
def wResults (e : Env) (H : List Ob) : List (Nat × Option (Bool × Nat)) → (List V → Prop) → Prop
  | [], K => K []
  | r :: rs, K => wResult e H (fun v => wResults e H rs fun l => K (v :: l)) r
def tupV : List V → V
  | [v] => v
  | l => .tuple l
def finQ (rs : List (Nat × Option (Bool × Nat))) (Q : CR → List Ob → Prop) : QX := fun x e H => match x with
  | .normal => wResults e H rs fun l => Q (.ret (tupV l)) H
  | .ret => wResults e H rs fun l => Q (.ret (tupV l)) H
  | .panic v => Q (.panic v) H
  | .exit _ => False

theorem wResult_ok {e : Env} {H : List Ob} {K : V → Prop} {r : Nat × Option (Bool × Nat)} (h : wResult e H K r) : ∃ v, resultV e H r = some v ∧ K v := by
  obtain ⟨t, o⟩ := r
  cases o with
  | none => exact ⟨_, rfl, h⟩
  | some q =>
    obtain ⟨agg, n⟩ := q
    obtain ⟨l, h1, h2⟩ := wPeek_ok (show wPeek H n (e t) (fun l => if agg = true then K (.agg l) else ∃ v, l = [v] ∧ K v) from h)
    cases agg with
    | true => exact ⟨_, by simp only [resultV, h1]; rfl, h2⟩
    | false =>
      rw [if_neg Bool.false_ne_true] at h2
      obtain ⟨v, rfl, h2⟩ := h2
      exact ⟨v, by simp only [resultV, h1]; rfl, h2⟩
theorem wResults_ok {e : Env} {H : List Ob} : ∀ {rs : List (Nat × Option (Bool × Nat))} {K : List V → Prop}, wResults e H rs K → ∃ l, resultsV e H rs = some l ∧ K l
  | [], K, h => ⟨[], rfl, h⟩
  | r :: rs, K, h => by
    obtain ⟨v, h1, h2⟩ := wResult_ok h
    obtain ⟨l, h3, h4⟩ := wResults_ok h2
    exact ⟨v :: l, by rw [resultsV, h1, h3], h4⟩
theorem resultOf_eq {e : Env} {H : List Ob} {rs : List (Nat × Option (Bool × Nat))} {l : List V} (h : resultsV e H rs = some l) : resultOf e H rs = some (tupV l) := by
  unfold resultOf
  rw [h]
  match l with
  | [] => rfl
  | [v] => rfl
  | _ :: _ :: _ => rfl

def WFun (p : AP) (f : FuncId) (args : List V) (H : List Ob) (Q : CR → List Ob → Prop) : Prop := ∃ n r H', acall p n f args H = some (r, H') ∧ Q r H'

/-- A function, by its code. -/
structure WF where
  nt : Nat
  results : List (Nat × Option (Bool × Nat))
  code : WC
def WF.toA (w : WF) : AFun := { nt := w.nt, results := w.results, code := Fz.toA w.code }

theorem WFun_of {p : AP} {f : FuncId} (w : WF) {args : List V} {H : List Ob} {Q : CR → List Ob → Prop} (hp : p.prim f = none) (hf : p.fn f = some w.toA)
    (hc : okW w.code = true) (h : wx p w.code (env0 args) H (finQ w.results Q)) : WFun p f args H Q := by
  obtain ⟨n, x, e, H', h1, h2⟩ := wx_ok _ _ _ _ hc h
  cases x with
  | normal =>
    obtain ⟨l, h3, h4⟩ := wResults_ok h2
    exact ⟨n, _, H', by simp only [acall, callW, hp, hf, WF.toA, h1, finishF, resultOf_eq h3, Option.map_some], h4⟩
  | ret =>
    obtain ⟨l, h3, h4⟩ := wResults_ok h2
    exact ⟨n, _, H', by simp only [acall, callW, hp, hf, WF.toA, h1, finishF, resultOf_eq h3, Option.map_some], h4⟩
  | panic v => exact ⟨n, _, H', by simp only [acall, callW, hp, hf, WF.toA, h1, finishF], h2⟩
  | exit _ => cases h2

/-! ### Calls by values that name no object -/

def shal : Nat → V → Bool
  | 0, _ => false
  | k + 1, v => match v with
    | .agg l => l.all (shal k)
    | .tuple l => l.all (shal k)
    | _ => true
/-- Names no object, and isn't deep. -/
def gr (v : V) : Bool := ground v && shal depthF v

theorem freeze_gr : ∀ (k : Nat) (v : V) (H : List Ob), ground v = true → shal k v = true → freezeV k v H = some (v, H) := by
  intro k
  induction k with
  | zero => intro v H _ h; cases h
  | succ k ih =>
    have hl : ∀ (l : List V) (H : List Ob), l.all ground = true → l.all (shal k) = true → mapS (freezeV k) l H = some (l, H) := by
      intro l
      induction l with
      | nil => intros; rfl
      | cons v l ihl =>
        intro H h1 h2
        rw [List.all_cons, Bool.and_eq_true] at h1 h2
        rw [mapS, ih v H h1.1 h2.1]
        dsimp only
        rw [ihl H h1.2 h2.2]
    intro v H h1 h2
    cases v with
    | agg l => simp only [freezeV, hl l H (by rw [← groundL_eq]; simpa only [ground] using h1) (by simpa only [shal] using h2), Option.map_some]
    | tuple l => simp only [freezeV, hl l H (by rw [← groundL_eq]; simpa only [ground] using h1) (by simpa only [shal] using h2), Option.map_some]
    | own _ _ _ _ => cases h1
    | mref _ => cases h1
    | _ => rfl

theorem lend_gr (H : List Ob) : ∀ (k : Nat) (v : V), ground v = true → shal k v = true → lendV H k v = some v := by
  intro k
  induction k with
  | zero => intro v _ h; cases h
  | succ k ih =>
    have hl : ∀ (l : List V), l.all ground = true → l.all (shal k) = true → mapOpt (lendV H k) l = some l := by
      intro l
      induction l with
      | nil => intros; rfl
      | cons v l ihl =>
        intro h1 h2
        rw [List.all_cons, Bool.and_eq_true] at h1 h2
        rw [mapOpt, ih v h1.1 h2.1, ihl h1.2 h2.2]
    intro v h1 h2
    cases v with
    | agg l => simp only [lendV, hl l (by rw [← groundL_eq]; simpa only [ground] using h1) (by simpa only [shal] using h2), Option.map_some]
    | tuple l => simp only [lendV, hl l (by rw [← groundL_eq]; simpa only [ground] using h1) (by simpa only [shal] using h2), Option.map_some]
    | own _ _ _ _ => cases h1
    | _ => rfl

theorem grs_freeze {l : List V} (h : l.all gr = true) (H : List Ob) : mapS (freezeV depthF) l H = some (l, H) := by
  induction l with
  | nil => rfl
  | cons v l ih =>
    rw [List.all_cons, Bool.and_eq_true] at h
    unfold gr at h
    rw [Bool.and_eq_true] at h
    rw [mapS, freeze_gr _ _ _ h.1.1 h.1.2]
    dsimp only
    rw [ih h.2]
theorem grs_lend {l : List V} (h : l.all gr = true) (H : List Ob) : mapOpt (lendV H depthF) l = some l := by
  induction l with
  | nil => rfl
  | cons v l ih =>
    rw [List.all_cons, Bool.and_eq_true] at h
    unfold gr at h
    rw [Bool.and_eq_true] at h
    rw [mapOpt, lend_gr _ _ _ h.1.1 h.1.2, ih h.2]
theorem grs_ground {l : List V} (h : l.all gr = true) : groundL l = true := by
  rw [groundL_eq, List.all_eq_true] at *
  intro v hv
  have := h v hv
  unfold gr at this
  exact (Bool.and_eq_true _ _ ▸ this).1

mutual
theorem ground_ren (g : Nat → Nat) : ∀ (v : V), ground v = true → ren g v = v := by
  intro v h
  cases v with
  | ptr _ _ => cases h
  | own _ _ _ _ => cases h
  | mref _ => cases h
  | any => cases h
  | ref l => rw [ren, groundL_ren g l h]
  | list l c => rw [ren, groundL_ren g l h]
  | agg l => rw [ren, groundL_ren g l h]
  | tuple l => rw [ren, groundL_ren g l h]
  | fn f a b =>
    rw [ground, Bool.and_eq_true] at h
    rw [ren, groundL_ren g a h.1, groundL_ren g b h.2]
  | iface t v => rw [ren, ground_ren g v h]
  | map a b =>
    rw [ground, Bool.and_eq_true] at h
    rw [ren, groundL_ren g a h.1, groundL_ren g b h.2]
  | _ => rfl
theorem groundL_ren (g : Nat → Nat) : ∀ (l : List V), groundL l = true → renL g l = l := by
  intro l h
  cases l with
  | nil => rfl
  | cons v l =>
    rw [groundL, Bool.and_eq_true] at h
    rw [renL, ground_ren g v h.1, groundL_ren g l h.2]
end

mutual
/-- Is no slice's room known? -/
def nm : V → Bool
  | .list l c => !c && nmL l
  | .agg l => nmL l
  | .tuple l => nmL l
  | .iface _ v => nm v
  | _ => true
def nmL : List V → Bool
  | [] => true
  | v :: l => nm v && nmL l
end
mutual
theorem nrm_nm : ∀ (v : V), nm v = true → nrm v = v := by
  intro v h
  cases v with
  | list l c =>
    simp only [nm, Bool.and_eq_true, Bool.not_eq_true'] at h
    rw [nrm, nrmL_nm l h.2, h.1]
  | agg l => rw [nrm, nrmL_nm l (by simpa only [nm] using h)]
  | tuple l => rw [nrm, nrmL_nm l (by simpa only [nm] using h)]
  | iface t v => rw [nrm, nrm_nm v (by simpa only [nm] using h)]
  | _ => rfl
theorem nrmL_nm : ∀ (l : List V), nmL l = true → nrmL l = l := by
  intro l h
  cases l with
  | nil => rfl
  | cons v l =>
    rw [nmL, Bool.and_eq_true] at h
    rw [nrmL, nrm_nm v h.1, nrmL_nm l h.2]
end
theorem nmL_eq (l : List V) : nmL l = l.all nm := by
  induction l with
  | nil => rfl
  | cons v l ih => rw [nmL, ih, List.all_cons]
theorem nrms_nm {l : List V} (h : l.all nm = true) : l.map nrm = l := by
  rw [← nrmL_eq]; exact nrmL_nm l (by rw [nmL_eq]; exact h)

/-- What a function makes of values that name no object: a value that names none. -/
def Comes (p : AP) (f : FuncId) (args : List V) (v : V) : Prop :=
  args.all gr = true ∧ gr v = true ∧ (p.inl f || args.all nm) = true ∧ ∃ n u H', acall p n f args [] = some (.ret u, H') ∧
    (p.inl f = true ∧ u = v ∨ p.inl f = false ∧ ∃ u' H'', freezeV depthF u H' = some (u', H'') ∧ nrm u' = v)

theorem Comes.doCall {p : AP} {f : FuncId} {args : List V} {v : V} (h : Comes p f args v) : ∃ n, ∀ H, doCall (acall p n) p.inl f args H = some (.ret v, H) := by
  obtain ⟨h1, h2, h0, n, u, H', h3, h4⟩ := h
  refine ⟨n, fun H => ?_⟩
  have hg : ground v = true := by unfold gr at h2; exact (Bool.and_eq_true _ _ ▸ h2).1
  have ha : (if p.inl f = true then some (args, H) else (mapS (freezeV depthF) args H).map fun x => (x.1.map nrm, x.2)) = some (args, H) := by
    split
    · rfl
    · rename_i hi
      rw [Bool.or_eq_true] at h0
      rw [grs_freeze h1 H, Option.map_some, nrms_nm (h0.resolve_left hi)]
  have hs : ∃ H'', (if p.inl f = true then some (CR.ret u, H') else settleR 0 (.ret u) H') = some (.ret v, H'') := by
    rcases h4 with ⟨h4, rfl⟩ | ⟨h4, u', H'', h5, h6⟩
    · exact ⟨H', if_pos h4⟩
    · refine ⟨H'', ?_⟩
      rw [if_neg (by rw [h4]; exact Bool.false_ne_true)]
      unfold settleR
      rw [List.take_zero, freezeObs]
      dsimp only
      rw [h5, Option.map_some, h6]
  obtain ⟨H'', hs⟩ := hs
  unfold Fz.doCall
  rw [ha]
  dsimp only
  rw [groundL_refs _ (grs_ground h1), show reach H 1000 [] [] = some [] from rfl]
  dsimp only
  rw [groundL_ren _ _ (grs_ground h1), List.map_nil, h3]
  dsimp only
  rw [List.length_nil, hs]
  dsimp only
  rw [if_pos (Nat.zero_le _), List.take_zero, List.map_nil, setAll.eq_def]
  dsimp only
  rw [crV, ground_refs _ hg, List.flatMap_nil, List.append_nil, List.any_nil, if_neg Bool.false_ne_true, renR, ground_ren _ _ hg]

theorem WCall_fn {p : AP} {f : FuncId} {args : List V} {v : V} (h : Comes p f args v) (H : List Ob) (Q : CR → List Ob → Prop) : WCall p f args H Q = Q (.ret v) H := by
  obtain ⟨n, hn⟩ := h.doCall
  refine propext ⟨?_, fun hq => ⟨n, _, _, hn H, hq⟩⟩
  rintro ⟨m, r, H', h1, h2⟩
  have e1 := doCall_mono (acall_le p (Nat.le_max_left m n)) p.inl _ _ _ _ h1
  have e2 := doCall_mono (acall_le p (Nat.le_max_right m n)) p.inl _ _ _ _ (hn H)
  rw [e1] at e2
  cases e2
  exact h2

theorem WQuiet_fn {p : AP} {f : FuncId} {args : List V} {v : V} (h : Comes p f args v) (H : List Ob) (K : V → Prop) : WQuiet p f args H K = K v := by
  obtain ⟨n, hn⟩ := h.doCall
  have hg : ground v = true := by have := h.2.1; unfold gr at this; exact (Bool.and_eq_true _ _ ▸ this).1
  refine propext ⟨?_, fun hq => ⟨n, args, v, grs_lend h.1 H, grs_ground h.1, hn [], by rw [hg, grs_ground h.1, Bool.or_true]; rfl, hq⟩⟩
  rintro ⟨m, l, u, h1, h2, h3, h4, h5⟩
  rw [grs_lend h.1 H] at h1
  cases h1
  have e1 := doCall_mono (acall_le p (Nat.le_max_left m n)) p.inl _ _ _ _ h3
  have e2 := doCall_mono (acall_le p (Nat.le_max_right m n)) p.inl _ _ _ _ (hn [])
  rw [e1] at e2
  cases e2
  exact h5

/-- Made to stay. -/
def wFix (p : AP) (f : FuncId) (v : V) (r : CR) (H : List Ob) : Prop := match r with
  | .ret u => p.inl f = true ∧ u = v ∨ p.inl f = false ∧ ∃ u' H'', freezeV depthF u H = some (u', H'') ∧ nrm u' = v
  | .panic _ => False

theorem Comes_of {p : AP} {f : FuncId} (w : WF) {args : List V} {v : V} (hp : p.prim f = none) (hf : p.fn f = some w.toA)
    (hc : okW w.code = true) (ha : args.all gr = true) (hn : (p.inl f || args.all nm) = true) (hv : gr v = true) (h : wx p w.code (env0 args) [] (finQ w.results (wFix p f v))) : Comes p f args v := by
  obtain ⟨n, r, H', h1, h2⟩ := WFun_of w hp hf hc h
  cases r with
  | panic _ => cases h2
  | ret u => exact ⟨ha, hv, hn, n, u, H', h1, h2⟩
end Fz
