/- Laws by which 'simp' carries code out. -/
import Derived.Test.YtpojglkaohhbkaaFzAB
namespace Fz
open Go

/-- What follows, left alone by 'simp' until it is its turn: an argument that an instance depends on. -/
class Tok {α : Sort _} (a : α) : Type where
instance {α : Sort _} (a : α) : Tok a := ⟨⟩
def xFixV (v : V) (H : List Ob) (K : V → List Ob → Prop) [Tok K] : Prop := wFixV v H K
def xFixH (H : List Ob) (K : List Ob → Prop) [Tok K] : Prop := wFixH H K
def xInt (v : V) (K : IntKind → Int → Prop) [Tok K] : Prop := wInt v K
def xBool (v : V) (P N : Prop) [Tok P] [Tok N] : Prop := wBool v P N
def xNat (o : Option V) (d : Nat) (K : Nat → Prop) [Tok K] [Tok d] : Prop := wNat o d K
def xPeek (H : List Ob) (n : Nat) (v : V) (K : List V → Prop) [Tok K] [Tok H] : Prop := wPeek H n v K
def xElems (H : List Ob) (n : Nat) (v : V) (K : List V → Nat → Prop) [Tok K] [Tok H] : Prop := wElems H n v K
def xSlice (H : List Ob) (k : SlK) (x : V) (lo hi mx : Option V) (K : V → Prop) [Tok K] [Tok H] : Prop := wSlice H k x lo hi mx K
def xAppend (H : List Ob) (n bytes : Nat) (s : V) (xs : List V) (k : Nat) (Q : V → List Ob → Prop) [Tok Q] [Tok H] : Prop := wAppend H n bytes s xs k Q
def xBin (op : BinOp) (ek : EqK) (x y : V) (K : V → Prop) [Tok K] : Prop := wBin op ek x y K
def xUn (op : UnOp) (x : V) (K : V → Prop) [Tok K] : Prop := wUn op x K
def xL (p : AP) (b : WC) (e : Env) (H : List Ob) (Q : QX) [Tok b] [Tok e] [Tok H] [Tok Q] : Prop := WL p b e H Q
def xDraw (p : AP) (ops : List AO) (e : Env) (H : List Ob) (Q : QX) [Tok ops] [Tok e] [Tok H] [Tok Q] : Prop := WDraw p ops e H Q
def xCall (p : AP) (f : FuncId) (args : List V) (H : List Ob) (Q : CR → List Ob → Prop) [Tok H] [Tok Q] : Prop := WCall p f args H Q
def xQuiet (p : AP) (f : FuncId) (args : List V) (H : List Ob) (K : V → Prop) [Tok H] [Tok K] : Prop := WQuiet p f args H K
/-- A value, made plain ahead of what follows. -/
def wVal {α : Type} (x : α) (K : α → Prop) [Tok K] : Prop := K x
def wGuardV (v : V) (w : Bool) (P N : Prop) [Tok P] [Tok N] : Prop := match v with
  | .bool b => if b = w then P else N
  | .tuple l => l = [] ∧ N
  | _ => False
def wGet (l : List V) (i : Nat) (K : V → Prop) [Tok K] : Prop := ∃ v, l[i]? = some v ∧ K v
def wAt {α : Type} (l : List α) (i : Nat) (K : α → Prop) [Tok K] : Prop := ∃ v, l[i]? = some v ∧ K v
def wLive (H : List Ob) (id : Nat) (K : List V → Prop) [Tok K] : Prop := ∃ l, (H[id]? = some (.live l) ∨ H[id]? = some (.fixed l)) ∧ K l
def wMut (H : List Ob) (id : Nat) (K : List V → Prop) [Tok K] : Prop := ∃ l, H[id]? = some (.live l) ∧ K l
def wOne (l : List V) (K : V → Prop) [Tok K] : Prop := ∃ v, l = [v] ∧ K v

/-! ### Code -/
section code
variable {p : AP} {e : Env} {H : List Ob} {Q : QX}
@[simp ↓] theorem wx_skip : wx p .skip e H Q = Q .normal e H := (rfl)
@[simp ↓] theorem wx_reg {ops : List AO} : wx p (.reg ops) e H Q = wOps p Q ops e H := (rfl)
@[simp ↓] theorem wx_calm {ops : List AO} : wx p (.calm ops) e H Q = wCalm p Q ops e H := (rfl)
@[simp ↓] theorem wx_same {ops : List AO} : wx p (.same ops) e H Q = wSame p Q ops e H := (rfl)
@[simp ↓] theorem wx_draw {ops : List AO} : wx p (.draw ops) e H Q = xDraw p ops e H Q := (rfl)
@[simp ↓] theorem wx_seq {a b : WC} : wx p (.seq a b) e H Q = wx p a e H (thenQ (fun e H => wx p b e H Q) Q) := (rfl)
@[simp ↓] theorem wx_cond {c : Opd} {a b : WC} : wx p (.cond c a b) e H Q = xBool (evO e c) (wx p a e H Q) (wx p b e H Q) := (rfl)
@[simp ↓] theorem wx_block {i : Nat} {b : WC} : wx p (.block i b) e H Q = wx p b e H (blockQ i Q) := (rfl)
@[simp ↓] theorem wx_loop {b : WC} : wx p (.loop b) e H Q = xL p b e H Q := (rfl)
@[simp ↓] theorem wx_exit {i : Nat} : wx p (.exit i) e H Q = Q (.exit i) e H := (rfl)
@[simp ↓] theorem wx_fixT {t : Nat} {b : WC} : wx p (.fix (some t) b) e H Q = xFixV (e t) H fun v H' => wVal v fun v => wx p b (upd e t v) H' Q := (rfl)
@[simp ↓] theorem wx_fixH {b : WC} : wx p (.fix none b) e H Q = xFixH H fun H' => wx p b e H' Q := (rfl)
@[simp ↓] theorem wx_ret : wx p .ret e H Q = Q .ret e H := (rfl)

@[simp ↓] theorem thenQ_normal {N : Env → List Ob → Prop} : thenQ N Q .normal e H = N e H := (rfl)
@[simp ↓] theorem thenQ_exit {N : Env → List Ob → Prop} {i : Nat} : thenQ N Q (.exit i) e H = Q (.exit i) e H := (rfl)
@[simp ↓] theorem thenQ_ret {N : Env → List Ob → Prop} : thenQ N Q .ret e H = Q .ret e H := (rfl)
@[simp ↓] theorem thenQ_panic {N : Env → List Ob → Prop} {v : V} : thenQ N Q (.panic v) e H = Q (.panic v) e H := (rfl)
@[simp ↓] theorem blockQ_normal {i : Nat} : blockQ i Q .normal e H = Q .normal e H := (rfl)
@[simp ↓] theorem blockQ_exit {i j : Nat} : blockQ i Q (.exit j) e H = if j = i then Q .normal e H else Q (.exit j) e H := (rfl)
@[simp ↓] theorem blockQ_ret {i : Nat} : blockQ i Q .ret e H = Q .ret e H := (rfl)
@[simp ↓] theorem blockQ_panic {i : Nat} {v : V} : blockQ i Q (.panic v) e H = Q (.panic v) e H := (rfl)
section
variable {I : Nat → Env → List Ob → Prop} {k : Nat}
/-- Another round. -/
def again (I : Nat → Env → List Ob → Prop) (k : Nat) (e : Env) (H : List Ob) [Tok I] [Tok k] [Tok e] [Tok H] : Prop := ∃ k', k' < k ∧ I k' e H
@[simp ↓] theorem loopQ_normal : loopQ I k Q .normal e H = again I k e H := (rfl)
@[simp ↓] theorem loopQ_exit {j : Nat} : loopQ I k Q (.exit j) e H = Q (.exit j) e H := (rfl)
@[simp ↓] theorem loopQ_ret : loopQ I k Q .ret e H = Q .ret e H := (rfl)
@[simp ↓] theorem loopQ_panic {v : V} : loopQ I k Q (.panic v) e H = Q (.panic v) e H := (rfl)
end
section
variable {rs : List (Nat × Option (Bool × Nat))} {Q : CR → List Ob → Prop}
@[simp ↓] theorem finQ_normal : finQ rs Q .normal e H = wResults e H rs fun l => Q (.ret (tupV l)) H := (rfl)
@[simp ↓] theorem finQ_ret : finQ rs Q .ret e H = wResults e H rs fun l => Q (.ret (tupV l)) H := (rfl)
@[simp ↓] theorem finQ_panic {v : V} : finQ rs Q (.panic v) e H = Q (.panic v) H := (rfl)
@[simp ↓] theorem finQ_exit {i : Nat} : finQ rs Q (.exit i) e H = False := (rfl)
end
@[simp ↓] theorem wResults_nil {K : List V → Prop} : wResults e H [] K = K [] := (rfl)
@[simp ↓] theorem wResults_cons {K : List V → Prop} {r : Nat × Option (Bool × Nat)} {rs : List (Nat × Option (Bool × Nat))} : wResults e H (r :: rs) K = wResult e H (fun v => wResults e H rs fun l => K (v :: l)) r := (rfl)
@[simp ↓] theorem wResult_none {K : V → Prop} {t : Nat} : wResult e H K (t, none) = wVal (e t) K := (rfl)
@[simp ↓] theorem wResult_agg {K : V → Prop} {t n : Nat} : wResult e H K (t, some (true, n)) = xPeek H n (e t) fun l => wVal l fun l => K (.agg l) := (rfl)
@[simp ↓] theorem wResult_cell {K : V → Prop} {t n : Nat} : wResult e H K (t, some (false, n)) = xPeek H n (e t) fun l => wOne l K := (rfl)

@[simp ↓] theorem wOps_nil : wOps p Q [] e H = Q .normal e H := (rfl)
@[simp ↓] theorem wOps_none {op : AOp} {af : List Nat} {ef : Bool} {r : List AO} :
    wOps p Q (⟨none, op, none, af, ef⟩ :: r) e H = wAct p e H (fun _ H' => wOps p Q r e H') (fun v H' => Q (.panic v) e H') op := (rfl)
@[simp ↓] theorem wOps_some {d : Nat} {op : AOp} {af : List Nat} {ef : Bool} {r : List AO} :
    wOps p Q (⟨some d, op, none, af, ef⟩ :: r) e H = wAct p e H (fun v H' => wVal v fun v => wOps p Q r (upd e d v) H') (fun v H' => Q (.panic v) e H') op := (rfl)
@[simp ↓] theorem wOps_guard {d : Option Nat} {op : AOp} {t : Nat} {w : Bool} {af : List Nat} {ef : Bool} {r : List AO} :
    wOps p Q (⟨d, op, some (t, w), af, ef⟩ :: r) e H = wGuardV (e t) w (wAct p e H (fun v H' => wVal v fun v => wOps p Q r (putE e d v) H') (fun v H' => Q (.panic v) e H') op) (wOps p Q r (putE e d uv) H) := (rfl)
@[simp ↓] theorem wCalm_nil : wCalm p Q [] e H = Q .normal e H := (rfl)
@[simp ↓] theorem wCalm_eff {d : Option Nat} {op : AOp} {af : List Nat} {r : List AO} :
    wCalm p Q (⟨d, op, none, af, true⟩ :: r) e H = wAct p e H (fun v H' => wVal v fun v => wCalm p Q r (putE e d v) H') (fun _ _ => False) op := (rfl)
@[simp ↓] theorem wCalm_effG {d : Option Nat} {op : AOp} {t : Nat} {w : Bool} {af : List Nat} {r : List AO} :
    wCalm p Q (⟨d, op, some (t, w), af, true⟩ :: r) e H = wGuardV (e t) w (wAct p e H (fun v H' => wVal v fun v => wCalm p Q r (putE e d v) H') (fun _ _ => False) op) (wCalm p Q r (putE e d uv) H) := (rfl)
@[simp ↓] theorem wCalm_q {d : Option Nat} {op : AOp} {af : List Nat} {r : List AO} :
    wCalm p Q (⟨d, op, none, af, false⟩ :: r) e H = wQ p e H (fun v => wVal v fun v => wCalm p Q r (putE e d v) H) op := (rfl)
@[simp ↓] theorem wCalm_qG {d : Option Nat} {op : AOp} {t : Nat} {w : Bool} {af : List Nat} {r : List AO} :
    wCalm p Q (⟨d, op, some (t, w), af, false⟩ :: r) e H = wGuardV (e t) w (wQ p e H (fun v => wVal v fun v => wCalm p Q r (putE e d v) H) op) (wCalm p Q r (putE e d uv) H) := (rfl)
@[simp ↓] theorem wSame_nil : wSame p Q [] e H = Q .normal e H := (rfl)
@[simp ↓] theorem wSame_eff {d : Option Nat} {op : AOp} {af : List Nat} {r : List AO} :
    wSame p Q (⟨d, op, none, af, true⟩ :: r) e H = wAct p e H (fun v H' => H' = H ∧ wVal v fun v => wSame p Q r (putE e d v) H) (fun _ _ => False) op := (rfl)
@[simp ↓] theorem wSame_effG {d : Option Nat} {op : AOp} {t : Nat} {w : Bool} {af : List Nat} {r : List AO} :
    wSame p Q (⟨d, op, some (t, w), af, true⟩ :: r) e H = wGuardV (e t) w (wAct p e H (fun v H' => H' = H ∧ wVal v fun v => wSame p Q r (putE e d v) H) (fun _ _ => False) op) (wSame p Q r (putE e d uv) H) := (rfl)
@[simp ↓] theorem wSame_q {d : Option Nat} {op : AOp} {af : List Nat} {r : List AO} :
    wSame p Q (⟨d, op, none, af, false⟩ :: r) e H = wQ p e H (fun v => wVal v fun v => wSame p Q r (putE e d v) H) op := (rfl)
@[simp ↓] theorem wSame_qG {d : Option Nat} {op : AOp} {t : Nat} {w : Bool} {af : List Nat} {r : List AO} :
    wSame p Q (⟨d, op, some (t, w), af, false⟩ :: r) e H = wGuardV (e t) w (wQ p e H (fun v => wVal v fun v => wSame p Q r (putE e d v) H) op) (wSame p Q r (putE e d uv) H) := (rfl)
@[simp ↓] theorem putE_some {d : Nat} {v : V} : putE e (some d) v = upd e d v := (rfl)
@[simp ↓] theorem putE_none {v : V} : putE e none v = e := (rfl)
@[simp ↓] theorem upd_at {d i : Nat} {v : V} : upd e d v i = if i = d then v else e i := (rfl)
@[simp ↓] theorem evO_t {n : Nat} : evO e (.t n) = e n := (rfl)
@[simp ↓] theorem evO_c {v : V} : evO e (.c v) = v := (rfl)
@[simp] theorem env0_zero {v : V} {l : List V} : env0 (v :: l) 0 = v := (rfl)
@[simp] theorem env0_succ {v : V} {l : List V} {n : Nat} : env0 (v :: l) (n + 1) = env0 l n := (rfl)
@[simp] theorem env0_nil {n : Nat} : env0 [] n = uv := (rfl)
end code

/-! ### Operations -/
section ops
variable {p : AP} {e : Env} {H : List Ob} {K R : V → List Ob → Prop} {ρ : Opd → V}
@[simp ↓] theorem wAct_call {f : FuncId} {l : List Opd} : wAct p e H K R (.call f l) = xCall p f (l.map (evO e)) H (wRet K R) := (rfl)
def wFnV (v : V) (K : FuncId → List V → List V → Prop) [Tok K] : Prop := match v with
  | .fn (.func g) a b => K g a b
  | _ => False
@[simp] theorem wFnV_fn {g : FuncId} {a b : List V} {K : FuncId → List V → List V → Prop} : wFnV (.fn (.func g) a b) K = K g a b := (rfl)
@[simp ↓] theorem wAct_callv {f : Opd} {l : List Opd} : wAct p e H K R (.callv f l) = wFnV (evO e f) fun g a b => xCall p g (a ++ l.map (evO e) ++ b) H (wRet K R) := (rfl)
@[simp ↓] theorem wQ_call {f : FuncId} {l : List Opd} {K : V → Prop} : wQ p e H K (.call f l) = xQuiet p f (l.map (evO e)) H K := (rfl)
@[simp ↓] theorem wQ_callv {f : Opd} {l : List Opd} {K : V → Prop} : wQ p e H K (.callv f l) = wFnV (evO e f) fun g a b => xQuiet p g (a ++ l.map (evO e) ++ b) H K := (rfl)
@[simp ↓] theorem wRet_ret {Q : V → List Ob → Prop} {v : V} : wRet Q R (.ret v) H = Q v H := (rfl)
@[simp ↓] theorem wRet_panic {Q : V → List Ob → Prop} {v : V} : wRet Q R (.panic v) H = R v H := (rfl)
def wIface (v : V) (K : V → Prop) [Tok K] : Prop := match v with
  | .iface t v => K (.iface t v)
  | _ => False
@[simp] theorem wIface_iface {t : TypeId} {v : V} {K : V → Prop} : wIface (.iface t v) K = K (.iface t v) := (rfl)
@[simp ↓] theorem wAct_panic {x : Opd} : wAct p e H K R (.panic x) = wIface (evO e x) fun v => R v H := by
  simp only [wAct, wIface]; split <;> simp_all

/-- Each other operation. -/
def plain : AOp → Bool
  | .call _ _ | .callv _ _ | .panic _ => false
  | _ => true
theorem wAct_plain {op : AOp} (h : plain op = true) : wAct p e H K R op = wOp (evO e) H K op := by
  cases op <;> first | rfl | cases h
theorem wQ_plain {op : AOp} {K : V → Prop} (h : plain op = true) : wQ p e H K op = (pureOp op = true ∧ wOp (evO e) H (fun v _ => K v) op) := by
  cases op <;> first | rfl | cases h

def wStr (v : V) (K : ByteArray → Prop) [Tok K] : Prop := match v with
  | .str s => K s
  | _ => False
def wPtr (v : V) (K : Nat → Nat → Prop) [Tok K] : Prop := match v with
  | .ptr i o => K i o
  | _ => False
/-- By what a value is: a pointer, cells that stay. -/
def wPR (v : V) (P : Nat → Nat → Prop) (R : List V → Prop) [Tok P] [Tok R] : Prop := match v with
  | .ptr i o => P i o
  | .ref l => R l
  | _ => False
/-- A slice: of elements that stay, of an object's. -/
def wSl (v : V) (L : List V → Bool → Prop) (O : Nat → Nat → Nat → Nat → Prop) [Tok L] [Tok O] : Prop := match v with
  | .list l c => L l c
  | .own a b c d => O a b c d
  | _ => False
def wAgg (v : V) (K : List V → Prop) [Tok K] : Prop := match v with
  | .agg l => K l
  | _ => False
def wTup (v : V) (K : List V → Prop) [Tok K] : Prop := match v with
  | .tuple l => K l
  | _ => False
def wNil (v : V) (K : V → Prop) [Tok K] : Prop := match v with
  | .ptr i o => K (.ptr i o)
  | .ref l => K (.ref l)
  | .fn (.func f) a b => K (.fn (.func f) a b)
  | _ => False
def wOpt {α : Type} (o : Option α) (K : α → Prop) [Tok K] : Prop := ∃ v, o = some v ∧ K v
variable {A : Prop}
@[simp] theorem wVal_eq {α : Type} {x : α} {K : α → Prop} : wVal x K = K x := (rfl)
@[simp] theorem wStr_str {s : ByteArray} {K : ByteArray → Prop} : wStr (.str s) K = K s := (rfl)
@[simp] theorem wPtr_ptr {i o : Nat} {K : Nat → Nat → Prop} : wPtr (.ptr i o) K = K i o := (rfl)
@[simp] theorem wPR_ptr {i o : Nat} {P : Nat → Nat → Prop} {R : List V → Prop} : wPR (.ptr i o) P R = P i o := (rfl)
@[simp] theorem wPR_ref {l : List V} {P : Nat → Nat → Prop} {R : List V → Prop} : wPR (.ref l) P R = R l := (rfl)
@[simp] theorem wSl_list {l : List V} {c : Bool} {L : List V → Bool → Prop} {O : Nat → Nat → Nat → Nat → Prop} : wSl (.list l c) L O = L l c := (rfl)
@[simp] theorem wSl_own {a b c d : Nat} {L : List V → Bool → Prop} {O : Nat → Nat → Nat → Nat → Prop} : wSl (.own a b c d) L O = O a b c d := (rfl)
@[simp] theorem wAgg_agg {l : List V} {K : List V → Prop} : wAgg (.agg l) K = K l := (rfl)
@[simp] theorem wTup_tuple {l : List V} {K : List V → Prop} : wTup (.tuple l) K = K l := (rfl)
@[simp] theorem wNil_ptr {i o : Nat} {K : V → Prop} : wNil (.ptr i o) K = K (.ptr i o) := (rfl)
@[simp] theorem wNil_ref {l : List V} {K : V → Prop} : wNil (.ref l) K = K (.ref l) := (rfl)
@[simp] theorem wNil_fn {f : FuncId} {a b : List V} {K : V → Prop} : wNil (.fn (.func f) a b) K = K (.fn (.func f) a b) := (rfl)
@[simp] theorem wOpt_some {α : Type} {x : α} {K : α → Prop} : wOpt (some x) K = K x := by simp [wOpt]
@[simp] theorem wOpt_none {α : Type} {K : α → Prop} : wOpt none K = False := by simp [wOpt]
@[simp] theorem wInt_int {k : IntKind} {n : Int} {K : IntKind → Int → Prop} : xInt (.int k n) K = K k n := (rfl)
@[simp] theorem wBool_bool {b : Bool} {P N : Prop} : xBool (.bool b) P N = if b = true then P else N := (rfl)
@[simp] theorem wGuardV_true {b : Bool} {P N : Prop} : wGuardV (.bool b) true P N = if b = true then P else N := (rfl)
@[simp] theorem wGuardV_false {b : Bool} {P N : Prop} : wGuardV (.bool b) false P N = if b = true then N else P := by
  cases b <;> simp [wGuardV]
@[simp] theorem wGuardV_uv {w : Bool} {P N : Prop} : wGuardV uv w P N = N := by simp [wGuardV, uv]
@[simp] theorem wNat_none {d : Nat} {K : Nat → Prop} : xNat none d K = wVal d K := (rfl)
@[simp] theorem wNat_some {k : IntKind} {i : Int} {d : Nat} {K : Nat → Prop} : xNat (some (.int k i)) d K = (0 ≤ i ∧ wVal i.toNat K) := (rfl)
@[simp] theorem wPeek_ref {n : Nat} {l : List V} {K : List V → Prop} : xPeek H n (.ref l) K = (n ≤ l.length ∧ wVal (l.take n) K) := (rfl)
@[simp] theorem wPeek_ptr {n i o : Nat} {K : List V → Prop} : xPeek H n (.ptr i o) K = wLive H i fun l => o + n ≤ l.length ∧ wVal ((l.drop o).take n) K := (rfl)
@[simp] theorem wElems_list {n : Nat} {l : List V} {c : Bool} {K : List V → Nat → Prop} : xElems H n (.list l c) K = (uni n l = true ∧ wVal (flat l) fun x => wVal l.length fun k => K x k) := (rfl)
@[simp] theorem wElems_own {n i o len m : Nat} {K : List V → Nat → Prop} : xElems H n (.own i o len m) K = (m = n ∧ xPeek H (len * n) (.ptr i o) fun x => K x len) := (rfl)
@[simp] theorem wElems_str {n : Nat} {s : ByteArray} {K : List V → Nat → Prop} : xElems H n (.str s) K = (n = 1 ∧ K (s.data.toList.map fun b => V.int .u8 b.toNat) s.size) := (rfl)
@[simp] theorem wSlice_list {n : Nat} {l : List V} {c : Bool} {lo hi mx : Option V} {K : V → Prop} : xSlice H (.sl n) (.list l c) lo hi mx K =
    ((mx.isSome && hi.isNone) = false ∧ uni n l = true ∧ xNat mx l.length fun m => xNat hi l.length fun h => xNat lo 0 fun o =>
      (o ≤ h ∧ h ≤ m ∧ m ≤ l.length) ∧ wVal (V.list ((l.drop o).take (h - o)) (if mx.isSome then m == h else c && h == l.length)) K) := (rfl)
@[simp] theorem wSlice_str {s : ByteArray} {lo hi mx : Option V} {K : V → Prop} : xSlice H .str (.str s) lo hi mx K =
    ((mx.isSome && hi.isNone) = false ∧ mx.isSome = false ∧ xNat hi s.size fun h => xNat lo 0 fun l => (l ≤ h ∧ h ≤ s.size) ∧ wVal (V.str (s.extract l h)) K) := (rfl)
@[simp] theorem wSlice_own {n id off len n' : Nat} {lo hi mx : Option V} {K : V → Prop} : xSlice H (.sl n) (.own id off len n') lo hi mx K =
    ((mx.isSome && hi.isNone) = false ∧ xNat mx len fun m => xNat hi len fun h => xNat lo 0 fun l => (n = n' ∧ l ≤ h ∧ h ≤ m ∧ m ≤ len) ∧
      K (if h = l ∧ (l ≠ 0 ∨ mx.isSome = true) then .list [] (mx.isSome && m == h) else .own id (off + l * n) (h - l) n)) := (rfl)
@[simp] theorem wSlice_arr {alen n id off : Nat} {lo hi mx : Option V} {K : V → Prop} : xSlice H (.arr alen n) (.ptr id off) lo hi mx K =
    ((mx.isSome && hi.isNone) = false ∧ xNat mx alen fun m => xNat hi alen fun h => xNat lo 0 fun l => xPeek H (alen * n) (.ptr id off) fun _ => (l ≤ h ∧ h ≤ m ∧ m ≤ alen) ∧
      K (if h = l then .list [] (m == h) else .own id (off + l * n) (h - l) n)) := (rfl)
@[simp] theorem wAppend_list {n bytes : Nat} {l : List V} {c : Bool} {xs : List V} {k : Nat} : xAppend H n bytes (.list l c) xs k K =
    if k = 0 then K (.list l c) H else (c = true ∧ uni n l = true ∧ xs.length = k * n ∧ capOk (l.length + k) bytes = true) ∧ wVal (flat l ++ xs) fun y =>
      K (.own H.length 0 (l.length + k) n) (H ++ [.live y]) := (rfl)
@[simp] theorem wAppend_own {n bytes id off len m : Nat} {xs : List V} {k : Nat} : xAppend H n bytes (.own id off len m) xs k K =
    (off = 0 ∧ if k = 0 then K (.own id off len m) H else wMut H id fun l => (m = n ∧ len * n ≤ l.length ∧ xs.all storable = true ∧ capOk (len + k) bytes = true) ∧
      wVal (l.take (len * n) ++ xs) fun y => K (.own H.length 0 (len + k) n) (H.set id .dead ++ [.live y])) := (rfl)

/-! ### Cells -/
@[simp] theorem wGet_zero {v : V} {l : List V} {K : V → Prop} : wGet (v :: l) 0 K = K v := by simp [wGet]
@[simp] theorem wGet_succ {v : V} {l : List V} {n : Nat} {K : V → Prop} : wGet (v :: l) (n + 1) K = wGet l n K := by simp [wGet]
@[simp] theorem wGet_nil {n : Nat} {K : V → Prop} : wGet [] n K = False := by simp [wGet]
@[simp] theorem wGet_map {α : Type} {f : α → V} {l : List α} {n : Nat} {K : V → Prop} : wGet (l.map f) n K = wAt l n fun x => wVal (f x) K := by
  unfold wGet wAt wVal
  rw [List.getElem?_map]
  refine propext ⟨?_, ?_⟩
  · rintro ⟨v, h1, h2⟩
    obtain ⟨a, h3, rfl⟩ := Option.map_eq_some_iff.1 h1
    exact ⟨a, h3, h2⟩
  · rintro ⟨a, h1, h2⟩
    exact ⟨f a, by rw [h1]; rfl, h2⟩
@[simp] theorem wAt_eq {α : Type} [Inhabited α] {l : List α} {n : Nat} {K : α → Prop} : wAt l n K = (n < l.length ∧ K (l.getD n default)) := by
  unfold wAt
  refine propext ⟨?_, ?_⟩
  · rintro ⟨v, h1, h2⟩
    obtain ⟨h3, h4⟩ := List.getElem?_eq_some_iff.1 h1
    refine ⟨h3, ?_⟩
    rw [List.getD_eq_getElem?_getD, h1]
    exact h2
  · rintro ⟨h1, h2⟩
    refine ⟨_, List.getElem?_eq_getElem h1, ?_⟩
    rw [List.getD_eq_getElem?_getD, List.getElem?_eq_getElem h1] at h2
    exact h2
@[simp] theorem wOne_one {v : V} {K : V → Prop} : wOne [v] K = K v := by simp [wOne]
@[simp] theorem wLive_zero {l : List V} {H : List Ob} {K : List V → Prop} : wLive (.live l :: H) 0 K = K l := by simp [wLive]
@[simp] theorem wLive_fixed {l : List V} {H : List Ob} {K : List V → Prop} : wLive (.fixed l :: H) 0 K = K l := by simp [wLive]
@[simp] theorem wLive_succ {o : Ob} {H : List Ob} {n : Nat} {K : List V → Prop} : wLive (o :: H) (n + 1) K = wLive H n K := by simp [wLive]
@[simp] theorem wMut_zero {l : List V} {H : List Ob} {K : List V → Prop} : wMut (.live l :: H) 0 K = K l := by simp [wMut]
@[simp] theorem wMut_succ {o : Ob} {H : List Ob} {n : Nat} {K : List V → Prop} : wMut (o :: H) (n + 1) K = wMut H n K := by simp [wMut]
end ops
end Fz
