/- The abstract interpreter: regions whose order is open, code, calls; and how it is made of the translated program. Definitions alone. -/
import Derived.Test.YtpojglkaohhbkaaFzA
namespace Fz
open Go

/-! ### Regions whose order is open -/

def usesOpd : Opd → List Nat
  | .t n => [n]
  | .c _ => []
def usesO : Option Opd → List Nat
  | some x => usesOpd x
  | none => []
def usesOp : AOp → List Nat
  | .mov x | .box x | .load _ _ x | .nilCheck x | .un _ x | .conv _ x | .makeIface _ x | .fieldAddr _ x | .field _ _ _ x | .extract _ x | .len x | .lenS x | .cap x | .clear _ _ x | .panic x => usesOpd x
  | .pick c a b => usesOpd c ++ usesOpd a ++ usesOpd b
  | .alloc _ | .lenC _ => []
  | .build _ ps | .buildSlice _ _ _ ps => ps.flatMap fun p => usesOpd p.2.2
  | .store _ a x | .bin _ _ a x | .makeSlice _ _ _ a x | .indexSl _ a x | .indexPA _ _ a x | .indexArr _ _ _ a x | .indexStr a x | .append _ _ _ a x | .copy _ a x => usesOpd a ++ usesOpd x
  | .makeFunc _ a b => a.flatMap usesOpd ++ b.flatMap usesOpd
  | .slice _ x l h m => usesOpd x ++ usesO l ++ usesO h ++ usesO m
  | .max l | .min l | .pur _ l | .rd _ l | .mem _ l => l.flatMap usesOpd
  | .call _ l => l.flatMap usesOpd
  | .callv f l => usesOpd f ++ l.flatMap usesOpd
def uses (o : AO) : List Nat := usesOp o.op ++ (match o.guard with | some (t, _) => [t] | none => [])

/-- Whatever stands ahead of each operation, the farther ones too. -/
def ancsGo : List (List Nat) → List AO → List (List Nat)
  | acc, [] => acc
  | acc, o :: r => ancsGo (acc ++ [o.after.flatMap fun i => i :: acc.getD i []]) r
def ancs (ops : List AO) : List (List Nat) := ancsGo [] ops

def dstIs (o : AO) (t : Nat) : Bool := match o.dst with | some d => d == t | none => false
def touches (a b : AO) : Bool :=
  (match a.dst with | some d => (uses b).contains d || b.dst == some d | none => false) ||
  (match b.dst with | some d => (uses a).contains d | none => false)

/-- May the order be open: what is written and used, and what acts upon the heap, is in turn. -/
def okDraw (ops : List AO) : Bool :=
  let an := ancs ops
  (ops.zipIdx.all fun p => p.1.after.all fun i => decide (i < p.2)) &&
  (ops.zipIdx.all fun p => ops.zipIdx.all fun q => !(decide (p.2 < q.2) && (touches p.1 q.1 || (p.1.eff && q.1.eff))) || (an.getD q.2 []).contains p.2)

mutual
def ground : V → Bool
  | .ptr _ _ => false
  | .own _ _ _ _ => false
  | .mref _ => false
  | .any => false
  | .ref l => groundL l
  | .list l _ => groundL l
  | .agg l => groundL l
  | .tuple l => groundL l
  | .fn _ a b => groundL a && groundL b
  | .iface _ v => ground v
  | .map a b => groundL a && groundL b
  | _ => true
def groundL : List V → Bool
  | [] => true
  | v :: l => ground v && groundL l
end

mutual
/-- A value that leads to no memory. -/
def listFree : V → Bool
  | .bool _ | .int _ _ | .float _ _ | .fnan _ | .str _ | .nilp | .nilfn | .niliface | .nilmap => true
  | .list [] _ => true
  | .agg l => listFreeL l
  | .tuple l => listFreeL l
  | _ => false
def listFreeL : List V → Bool
  | [] => true
  | v :: l => listFree v && listFreeL l
end

/-- A value as it reads now, its slices of objects as lists: lent for a call that keeps nothing of it. -/
def lendV (H : List Ob) : Nat → V → Option V
  | 0, _ => none
  | k + 1, v => match v with
    | .own id off len n => if n = 0 then none else match peek H (len * n) (.ptr id off) with
      | some l => match mapOpt (lendV H k) l with
        | some x => if n ≠ 1 ∨ x.all leafy = true then some (.list (chunk n len x) false) else none
        | none => none
      | none => none
    | .agg l => (mapOpt (lendV H k) l).map V.agg
    | .tuple l => (mapOpt (lendV H k) l).map V.tuple
    | v => some v

/-- Leaves the heap alone. -/
def pureOp : AOp → Bool
  | .alloc _ | .box _ | .buildSlice _ _ _ _ | .makeSlice _ _ _ _ _ | .store _ _ _ | .append _ _ _ _ _ | .copy _ _ _ | .clear _ _ _ | .panic _ | .call _ _ | .callv _ _ | .mem _ _ => false
  | _ => true

/-- An operation that leaves the heap alone, in some heap. -/
def quietOp (call : CallT) (inl : FuncId → Bool) (e : Env) (H : List Ob) (o : AO) : Option V :=
  let go (_ : Unit) := match evOp (evO e) H o.op with
    | some (.val v _) => if pureOp o.op then some v else none
    | some (.call f args) => match mapOpt (lendV H depthF) args with
      | some l => if groundL l then (match doCall call inl f l [] with
        | some (.ret v, []) => if ground v && (listFree v || groundL args) then some v else none
        | _ => none) else none
      | none => none
    | _ => none
  match o.guard with
  | none => go ()
  | some (t, want) => match e t with
    | .bool b => if b = want then go () else some uv
    | .tuple [] => some uv
    | _ => none

/-- One that acts: its value, and the heap. -/
def effOp (call : CallT) (inl : FuncId → Bool) (e : Env) (H : List Ob) (o : AO) : Option (V × List Ob) :=
  let go (_ : Unit) := match evOp (evO e) H o.op with
    | some (.val v H') => some (v, H')
    | some (.skip H') => some (uv, H')
    | some (.call f args) => match doCall call inl f args H with
      | some (.ret v, H') => some (v, H')
      | _ => none
    | _ => none
  match o.guard with
  | none => go ()
  | some (t, want) => match e t with
    | .bool b => if b = want then go () else some (uv, H)
    | .tuple [] => some (uv, H)
    | _ => none

/-- In turn: of each operation the temporaries ahead of it, how many acted ahead of it, and its value; and each heap there was. -/
def trace (call : CallT) (inl : FuncId → Bool) : List AO → Env → List (List Ob) → Option (List (Env × Nat × V) × List (List Ob) × Env)
  | [], e, hs => some ([], hs, e)
  | o :: r, e, hs =>
    match hs.getLast? with
    | none => none
    | some H =>
      if o.eff then match effOp call inl e H o with
        | none => none
        | some (v, H') => (trace call inl r (putE e o.dst v) (hs ++ [H'])).map fun x => ((e, hs.length - 1, v) :: x.1, x.2)
      else match quietOp call inl e H o with
        | none => none
        | some v => (trace call inl r (putE e o.dst v) hs).map fun x => ((e, hs.length - 1, v) :: x.1, x.2)

/-- Does an operation that leaves the heap alone read the same in each heap in which it may come? -/
def steady (call : CallT) (inl : FuncId → Bool) (e : Env) (v : V) (o : AO) : List (List Ob) → Bool
  | [] => true
  | H :: r => (match quietOp call inl e H o with | some u => veq u v | none => false) && steady call inl e v o r

/-- Of the first k operations, those of p that act: how many. -/
def ceK (ops : List AO) (p : Nat → Bool) : Nat → Nat
  | 0 => 0
  | k + 1 => ceK ops p k + (if p k && (ops.getD k default).eff then 1 else 0)
/-- How many acts stand ahead of an operation in any order; how many may. -/
def loOf (ops : List AO) (an : List (List Nat)) (j : Nat) : Nat := ceK ops (fun i => (an.getD j []).contains i) ops.length
def hiOf (ops : List AO) (an : List (List Nat)) (j : Nat) : Nat := ceK ops (fun i => !((an.getD i []).contains j)) ops.length

def steadyAll (call : CallT) (inl : FuncId → Bool) (ops : List AO) (an : List (List Nat)) (hs : List (List Ob)) : List (AO × Nat) → List (Env × Nat × V) → Bool
  | [], [] => true
  | (o, j) :: r, (e, _, v) :: t =>
    (o.eff || steady call inl e v o ((hs.drop (loOf ops an j)).take (hiOf ops an j + 1 - loOf ops an j))) && steadyAll call inl ops an hs r t
  | _, _ => false

def runDraw (call : CallT) (inl : FuncId → Bool) (ops : List AO) (e : Env) (H : List Ob) : Option (X × Env × List Ob) :=
  match trace call inl ops e [H] with
  | none => none
  | some (t, hs, e') =>
    if okDraw ops && steadyAll call inl ops (ancs ops) hs ops.zipIdx t then
      match hs.getLast? with
      | some H' => some (.normal, e', H')
      | none => none
    else none

/-! ### Code and calls -/

structure AP where
  fn : FuncId → Option AFun
  prim : FuncId → Option (List V → Option V)
  inl : FuncId → Bool

def env0 (args : List V) : Env := fun i => args.getD i uv

def resultV (e : Env) (H : List Ob) : Nat × Option (Bool × Nat) → Option V
  | (t, none) => some (e t)
  | (t, some (agg, n)) => match peek H n (e t) with
    | some l => if agg then some (.agg l) else match l with
      | [v] => some v
      | _ => none
    | none => none
def resultsV (e : Env) (H : List Ob) : List (Nat × Option (Bool × Nat)) → Option (List V)
  | [] => some []
  | r :: rs => match resultV e H r, resultsV e H rs with
    | some v, some l => some (v :: l)
    | _, _ => none
def resultOf (e : Env) (H : List Ob) (rs : List (Nat × Option (Bool × Nat))) : Option V :=
  match resultsV e H rs with
  | some [v] => some v
  | some l => some (.tuple l)
  | none => none

def finishF (af : AFun) : Option (X × Env × List Ob) → Option (CR × List Ob)
  | some (.normal, e, H) => (resultOf e H af.results).map fun v => (.ret v, H)
  | some (.ret, e, H) => (resultOf e H af.results).map fun v => (.ret v, H)
  | some (.panic v, _, H) => some (.panic v, H)
  | _ => none

abbrev ExecT := ACode → Env → List Ob → Option (X × Env × List Ob)

def callW (p : AP) (ex : ExecT) : CallT := fun f args H =>
  match p.prim f with
  | some g => (g args).map fun v => (.ret v, H)
  | none => match p.fn f with
    | none => none
    | some af => finishF af (ex af.code (env0 args) H)

def exec (p : AP) : Nat → ExecT
  | 0, _, _, _ => none
  | n + 1, c, e, H => match c with
    | .skip => some (.normal, e, H)
    | .region ops d => if d then runDraw (callW p (exec p n)) p.inl ops e H else runOps (callW p (exec p n)) p.inl ops e H
    | .seq a b => match exec p n a e H with
      | some (.normal, e1, H1) => exec p n b e1 H1
      | r => r
    | .cond c a b => match evO e c with
      | .bool true => exec p n a e H
      | .bool false => exec p n b e H
      | _ => none
    | .block id b => match exec p n b e H with
      | some (.exit i, e1, H1) => if i = id then some (.normal, e1, H1) else some (.exit i, e1, H1)
      | r => r
    | .loop b => match exec p n b e H with
      | some (.normal, e1, H1) => exec p n (.loop b) e1 H1
      | r => r
    | .exit id => some (.exit id, e, H)
    | .ret => some (.ret, e, H)
    | .fix (some t) b => match freezeV depthF (e t) H with
      | some (v, H') => exec p n b (upd e t v) H'
      | none => none
    | .fix none b => match freezeObs 0 H H with
      | some H' => exec p n b e H'
      | none => none

def acall (p : AP) (n : Nat) : CallT := callW p (exec p n)

/-! ### Out of the translated program -/

def ofVal : Nat → Value → Option V
  | 0, _ => none
  | d + 1, v => match v with
    | .bool b => some (.bool b)
    | .int k n => some (.int k n)
    | .float k b => some (.float k b)
    | .string s => some (.str s)
    | .pointer none => some .nilp
    | .slice none 0 0 => some (.list [] true)
    | .map none => some .nilmap
    | .nilFunc => some .nilfn
    | .nilIface => some .niliface
    | .agg cs => (mapOpt (ofVal d) cs.toList).map V.agg
    | .tuple cs => (mapOpt (ofVal d) cs.toList).map V.tuple
    | _ => none

def cOpd : Operand → Option Opd
  | .tmp t => some (.t t)
  | .const v => (ofVal 4 v).map Opd.c
  | .func f => some (.c (.fn (.func f) [] []))
  | .global _ => none

def tInfo (P : Program) (t : TypeId) : Option TypeInfo := P.info? t
def tAgg (P : Program) (t : TypeId) : Option Bool := match P.underlying t with
  | some (.struct _) => some true
  | some (.array _ _) => some true
  | some _ => some false
  | none => none
def tSize (P : Program) (t : TypeId) : Option Nat := (P.info? t).map (·.size)
def tZero (P : Program) (t : TypeId) : Option (List V) := ((P.info? t).bind (·.zero)).bind fun z => (ofVal 4 z).map cellsOf

def cEq (P : Program) (t : TypeId) : EqK := match P.underlying t with
  | some .bool => .bool
  | some (.pointer _) => .ptr
  | some (.func _ _ _) => .func
  | _ => .no

def cParts (P : Program) (place : Nat → Option (Nat × Nat)) : List (Nat × Operand) → Option (List (Nat × Nat × Opd))
  | [] => some []
  | (i, x) :: r => match place i, cOpd x, cParts P place r with
    | some (off, n), some y, some l => some ((off, n, y) :: l)
    | _, _, _ => none

def cConv (P : Program) (src dst : TypeId) : Option CvK := match P.underlying src, P.underlying dst with
  | some (.int _), some (.int k) => some (.int k)
  | some .string, some .string => some .s2s
  | some (.int _), some (.float k) => some (.float k)
  | some (.float _), some (.int k) => some (.f2i k)
  | some (.int _), some .string => some .i2s
  | some (.slice e), some .string => match P.underlying e with
    | some (.int .u8) => some .b2s
    | _ => none
  | _, _ => none

def cOOpd : Option Operand → Option (Option Opd)
  | none => some none
  | some x => (cOpd x).map some

def cKey (P : Program) (t : TypeId) : Option KyK := match P.underlying t with
  | some (.int _) => some .int
  | some .string => some .str
  | _ => none
/-- A type's zero value, of one cell. -/
def tOne (P : Program) (t : TypeId) : Option V := ((P.info? t).bind (·.zero)).bind (ofVal 4)
def cMapPut (P : Program) (t : TypeId) (m k x : Operand) : Option AOp := match P.underlying t, cOpd m, cOpd k, cOpd x with
  | some (.map kt _), some m, some k, some x => (cKey P kt).map fun kk => .mem (.mapPut kk) [m, k, x]
  | _, _, _, _ => none

def cOp (P : Program) (o : Oper) : Option AOp := match o.op with
  | .move x => (cOpd x).map AOp.mov
  | .assign x => (cOpd x).map AOp.mov
  | .pick c a b => match cOpd c, cOpd a, cOpd b with
    | some c, some a, some b => some (.pick c a b)
    | _, _, _ => none
  | .alloc t => (tZero P t).map AOp.alloc
  | .box _ x => (cOpd x).map AOp.box
  | .build t ps => match P.underlying t, tZero P t with
    | some (.struct fs), some z => (mapOpt (fun f => (tSize P f.type).map fun s => (f.offset, s)) fs.toList).bind fun pl => (cParts P (fun i => pl[i]?) ps.toList).map (AOp.build z)
    | some (.array _ e), some z => (tSize P e).bind fun s => (cParts P (fun i => some (i * s, s)) ps.toList).map (AOp.build z)
    | _, _ => none
  | .buildSlice t len ps => match P.underlying t with
    | some (.slice e) => match tSize P e, tZero P e with
      | some s, some z => if len * s ≤ 2 ^ 24 ∧ z.length = s ∧ s ≠ 0 then (cParts P (fun i => some (i * s, s)) ps.toList).map (AOp.buildSlice s len z) else none
      | _, _ => none
    | _ => none
  | .load t x => match tAgg P t, tSize P t, cOpd x with
    | some a, some n, some x => if a || n == 1 then some (.load a n x) else none
    | _, _, _ => none
  | .store t a x => match tSize P t, cOpd a, cOpd x with
    | some n, some a, some x => some (.store n a x)
    | _, _, _ => none
  | .nilCheck x => (cOpd x).map AOp.nilCheck
  | .binOp op t x y _ => match cOpd x, cOpd y with
    | some x, some y => some (.bin op (cEq P t) x y)
    | _, _ => none
  | .unOp op _ x => (cOpd x).map (AOp.un op)
  | .convert s d x => match cConv P s d, cOpd x with
    | some (.float k), some x => some (.pur (.i2f k) [x])
    | some (.f2i k), some x => some (.pur (.f2i k) [x])
    | some .i2s, some x => some (.pur .i2s [x])
    | some k, some x => some (.conv k x)
    | _, _ => none
  | .makeInterface t x => match P.underlying t with
    | some (.interface _) => none
    | none => none
    | _ => (cOpd x).map (AOp.makeIface t)
  | .makeFunc f first captured => match mapOpt cOpd first.toList, mapOpt cOpd captured.toList with
    | some a, some b => some (.makeFunc f a b)
    | _, _ => none
  | .makeSlice t l c => match P.underlying t with
    | some (.slice e) => match P.info? e, tZero P e, cOpd l, cOpd c with
      | some i, some z, some l, some c => some (.makeSlice i.size i.bytes z l c)
      | _, _, _, _ => none
    | _ => none
  | .slice t x lo hi mx => match cOpd x, cOOpd lo, cOOpd hi, cOOpd mx with
    | some x, some lo, some hi, some mx => match P.underlying t with
      | some .string => some (.slice .str x lo hi mx)
      | some (.slice e) => (tSize P e).bind fun n => if n = 0 then none else some (.slice (.sl n) x lo hi mx)
      | some (.array len e) => (tSize P e).bind fun n => if n = 0 then none else some (.slice (.arr len n) x lo hi mx)
      | some (.pointer arr) => match P.underlying arr with
        | some (.array len e) => (tSize P e).bind fun n => if n = 0 then none else some (.slice (.arr len n) x lo hi mx)
        | _ => none
      | _ => none
    | _, _, _, _ => none
  | .fieldAddr t x i => match P.underlying t, cOpd x with
    | some (.struct fs), some x => match fs[i]? with
      | some f => (tSize P f.type).bind fun s => if s = 0 then none else some (.fieldAddr f.offset x)
      | none => none
    | _, _ => none
  | .field t x i => match P.underlying t, cOpd x with
    | some (.struct fs), some x => match fs[i]? with
      | some f => match tAgg P f.type, tSize P f.type with
        | some a, some s => if a || s == 1 then some (.field a f.offset s x) else none
        | _, _ => none
      | none => none
    | _, _ => none
  | .indexAddr t x i => match P.underlying t, cOpd x, cOpd i with
    | some (.slice e), some x, some i => (tSize P e).bind fun n => if n = 0 then none else some (.indexSl n x i)
    | some (.array len e), some x, some i => (tSize P e).bind fun n => if n = 0 then none else some (.indexPA len n x i)
    | _, _, _ => none
  | .index t x i => match P.underlying t, cOpd x, cOpd i with
    | some .string, some x, some i => some (.indexStr x i)
    | some (.array len e), some x, some i => match tAgg P e, tSize P e with
      | some a, some n => if (a || n == 1) && n != 0 then some (.indexArr len n a x i) else none
      | _, _ => none
    | _, _, _ => none
  | .extract x i => (cOpd x).map (AOp.extract i)
  | .call { callee := .builtin .len, args, argTypes } => match args.toList, argTypes.toList with
    | [x], [t] => match P.underlying t, cOpd x with
      | some (.array n _), some _ => some (.lenC n)
      | some .string, some x => some (.lenS x)
      | some (.slice _), some x => some (.len x)
      | _, _ => none
    | _, _ => none
  | .call { callee := .builtin .cap, args, argTypes } => match args.toList, argTypes.toList with
    | [x], [t] => match P.underlying t, cOpd x with
      | some (.slice _), some x => some (.cap x)
      | _, _ => none
    | _, _ => none
  | .call { callee := .builtin .append, args, argTypes } => match args.toList, argTypes.toList with
    | [s, x], [t, u] => match P.underlying t, cOpd s, cOpd x with
      | some (.slice e), some s, some x => match P.info? e, P.underlying u with
        | some i, some (.int _) => (tZero P e).bind fun z => if i.size = 0 ∨ z.length ≠ i.size then none else some (.append i.size i.bytes (some z) s x)
        | some i, some _ => (tZero P e).bind fun z => if i.size = 0 ∨ z.length ≠ i.size then none else some (.append i.size i.bytes none s x)
        | _, _ => none
      | _, _, _ => none
    | _, _ => none
  | .call { callee := .builtin .copy, args, argTypes } => match args.toList, argTypes.toList with
    | [d, s], [t, _] => match P.underlying t, cOpd d, cOpd s with
      | some (.slice e), some d, some s => (tSize P e).bind fun n => if n = 0 then none else some (.copy n d s)
      | _, _, _ => none
    | _, _ => none
  | .call { callee := .builtin .clear, args, argTypes } => match args.toList, argTypes.toList with
    | [x], [t] => match P.underlying t, cOpd x with
      | some (.slice e), some x => match tSize P e, tZero P e with
        | some n, some z => if n = 0 ∨ z.length ≠ n then none else some (.clear z n x)
        | _, _ => none
      | _, _ => none
    | _, _ => none
  | .call { callee := .builtin .max, args, .. } => (mapOpt cOpd args.toList).map AOp.max
  | .call { callee := .builtin .min, args, .. } => (mapOpt cOpd args.toList).map AOp.min
  | .call { callee := .builtin .panic, args, .. } => match args.toList with
    | [x] => (cOpd x).map AOp.panic
    | _ => none
  | .call { callee := .value (.func f), args, .. } => (mapOpt cOpd args.toList).map (AOp.call f)
  | .call { callee := .value f, args, .. } => match cOpd f, mapOpt cOpd args.toList with
    | some f, some l => some (.callv f l)
    | _, _ => none
  | .panic x => (cOpd x).map AOp.panic
  | .makeMap t none => match P.underlying t with
    | some (.map _ _) => some (.mem .makeMap [])
    | _ => none
  | .makeMap t (some r) => match P.underlying t, cOpd r with
    | some (.map _ _), some r => some (.mem .makeMap [r])
    | _, _ => none
  | .insert t m k x => cMapPut P t m k x
  | .mapUpdate t m k x => cMapPut P t m k x
  | .lookup t m k ok => match P.underlying t, cOpd m, cOpd k with
    | some (.map kt et), some m, some k => match cKey P kt, tOne P et with
      | some kk, some z => some (.rd (.lookup kk z ok) [m, k])
      | _, _ => none
    | _, _, _ => none
  | .range t x => match P.underlying t, cOpd x with
    | some .string, some x => some (.mem .range [x])
    | _, _ => none
  | .next it true => (cOpd it).map fun x => .mem .next [x]
  | .typeAssert x _ t ok => match P.underlying t with
    | some (.interface _) => none
    | none => none
    | _ => match ok, cOpd x, tOne P t with
      | true, some x, some z => some (.pur (.assert t (some z)) [x])
      | false, some x, _ => some (.pur (.assert t none) [x])
      | _, _, _ => none
  | _ => none

/-- Does an operation act upon the heap (if its order is open)? Of a call the types of what is handed tell. -/
def actsT (P : Program) (t : TypeId) : Bool := match P.underlying t with
  | some (.pointer _) => true
  | some (.func _ _ _) => true
  | _ => false
def actsOp (P : Program) : Op → Bool
  | .alloc _ | .box _ _ | .buildSlice _ _ _ | .store _ _ _ | .makeSlice _ _ _ | .makeMap _ _ | .insert _ _ _ _ | .mapUpdate _ _ _ _ | .range _ _ | .next _ _ => true
  | .call { callee := .builtin .append, .. } => true
  | .call { callee := .builtin .copy, .. } => true
  | .call { callee := .builtin .clear, .. } => true
  | .call { callee := .builtin _, .. } => false
  | .call { callee := .value (.func _), argTypes, .. } => argTypes.any (actsT P)
  | .call _ => true
  | _ => false

def cGuard (ops : Array Oper) : Option (Nat × Bool) → Option (Option (Nat × Bool))
  | none => some none
  | some (j, w) => match (ops[j]?).bind (·.dst) with
    | some d => some (some (d, w))
    | none => none

def cOper (P : Program) (ops : Array Oper) (o : Oper) : Option AO := match cOp P o, cGuard ops o.guard with
  | some op, some g => some { dst := o.dst, op, guard := g, after := (o.after.toList.filter (Region.binds .any)).map (·.on), eff := actsOp P o.op }
  | _, _ => none

def cCode (P : Program) : Code → Option ACode
  | .skip => some .skip
  | .label _ => some .skip
  | .region _ ops d => if d && !P.follows .mixedOrders then none else (mapOpt (cOper P ops) ops.toList).map fun l => .region (if d then l else l.map AO.bare) d
  | .seq a b => match cCode P a, cCode P b with
    | some x, some y => some (.seq x y)
    | _, _ => none
  | .cond c a b => match cOpd c, cCode P a, cCode P b with
    | some c, some x, some y => some (.cond c x y)
    | _, _, _ => none
  | .block id b => (cCode P b).map (ACode.block id)
  | .loop b => (cCode P b).map ACode.loop
  | .scope b => cCode P b
  | .exit id => some (.exit id)
  | .ret => some .ret
  | _ => none

def cRes (P : Program) : ResultVar → Option (Nat × Option (Bool × Nat))
  | .tmp t => some (t, none)
  | .cell a t => match tAgg P t, tSize P t with
    | some g, some n => if g || n == 1 then some (a, some (g, n)) else none
    | _, _ => none

/-- Every temporary that is written is one of the function's. -/
def dstsOk (nt : Nat) : ACode → Bool
  | .region ops _ => ops.all fun o => match o.dst with | some d => decide (d < nt) | none => true
  | .seq a b => dstsOk nt a && dstsOk nt b
  | .cond _ a b => dstsOk nt a && dstsOk nt b
  | .block _ b => dstsOk nt b
  | .loop b => dstsOk nt b
  | _ => true

def cFun (P : Program) (f : FuncId) : Option AFun := match P.funcs[f]? with
  | none => none
  | some fn => match fn.body with
    | none => none
    | some c => match cCode P c, mapOpt (cRes P) fn.results.toList with
      | some code, some rs => if fn.name == "runtime.NumGoroutine" || !dstsOk fn.ntmps code || decide (fn.ntmps < fn.params.size + fn.nfree) then none else some { nt := fn.ntmps, results := rs, code }
      | _, _ => none

/-- Code without its notes. -/
def erase : ACode → ACode
  | .seq a b => .seq (erase a) (erase b)
  | .cond c a b => .cond c (erase a) (erase b)
  | .block i b => .block i (erase b)
  | .loop b => .loop (erase b)
  | .fix _ b => erase b
  | c => c
def AFun.erase (a : AFun) : AFun := { a with code := Fz.erase a.code }
end Fz
