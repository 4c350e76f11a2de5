import GoSem.Step
import Derived.LoopN
import Derived.Defers
import Derived.WalkKit
import Derived.Laws.CopyRow
import Derived.Laws.BytesString
import Derived.Laws.Slices
set_option linter.all false
set_option linter.unusedVariables false
set_option linter.unusedSimpArgs false
set_option linter.unnecessarySimpa false
namespace Fz
open Go
inductive V where
  | bool (b : Bool)
  | int (k : IntKind) (n : Int)
  | float (k : FloatKind) (bits : Nat)
  | fnan (k : FloatKind)
  | str (s : ByteArray)
  | nilp
  | ptr (id off : Nat)
  | ref (l : List V)
  | list (l : List V) (clip : Bool)
  | own (id off len n : Nat)
  | agg (l : List V)
  | tuple (l : List V)
  | fn (f : Fn) (first captured : List V)
  | nilfn
  | iface (t : TypeId) (v : V)
  | niliface
  | nilmap
  | mref (id : Nat)
  | map (ks vs : List V)
  | any
  | yld (id : Nat)
  | anyb
deriving Inhabited
inductive Jmp where
  | exit (id : Nat)
  | ret
deriving Inhabited
inductive LSt where
  | ready
  | busy
  | done (j : Jmp)
deriving Inhabited
inductive Ob where
  | live (l : List V)
  | fixed (l : List V)
  | dead
  | mlive (ks vs : List V)
  | iter (s : ByteArray) (pos : Nat)
  | loop (k : Nat) (ts : List Nat) (l : List V) (st : LSt)
deriving Inhabited
def uv : V := .tuple []
def cellsOf : V → List V
  | .agg l => l
  | v => [v]
def isAny : V → Bool
  | .any => true
  | _ => false
def storable : V → Bool
  | .agg _ => false
  | .tuple _ => false
  | .any => false
  | _ => true
mutual
def veq : V → V → Bool
  | .bool a, .bool b => a == b
  | .int j a, .int k b => j == k && a == b
  | .float j a, .float k b => j == k && a == b
  | .fnan j, .fnan k => j == k
  | .str a, .str b => a.data == b.data
  | .nilp, .nilp => true
  | .ptr i a, .ptr j b => i == j && a == b
  | .ref a, .ref b => veqL a b
  | .list a c, .list b d => c == d && veqL a b
  | .own a b c d, .own e f g h => a == e && b == f && c == g && d == h
  | .agg a, .agg b => veqL a b
  | .tuple a, .tuple b => veqL a b
  | .fn f a b, .fn g c d => f == g && veqL a c && veqL b d
  | .nilfn, .nilfn => true
  | .iface t a, .iface u b => t == u && veq a b
  | .niliface, .niliface => true
  | .nilmap, .nilmap => true
  | .mref a, .mref b => a == b
  | .map a b, .map c d => veqL a c && veqL b d
  | .any, .any => true
  | .yld a, .yld b => a == b
  | .anyb, .anyb => true
  | _, _ => false
def veqL : List V → List V → Bool
  | [], [] => true
  | a :: x, b :: y => veq a b && veqL x y
  | _, _ => false
end
mutual
def refs : V → List Nat
  | .ptr i _ => [i]
  | .own i _ _ _ => [i]
  | .mref i => [i]
  | .yld i => [i]
  | .ref l => refsL l
  | .list l _ => refsL l
  | .agg l => refsL l
  | .tuple l => refsL l
  | .fn _ a b => refsL a ++ refsL b
  | .iface _ v => refs v
  | .map a b => refsL a ++ refsL b
  | _ => []
def refsL : List V → List Nat
  | [] => []
  | v :: l => refs v ++ refsL l
end
mutual
def ren (g : Nat → Nat) : V → V
  | .ptr i o => .ptr (g i) o
  | .own i a b c => .own (g i) a b c
  | .mref i => .mref (g i)
  | .yld i => .yld (g i)
  | .ref l => .ref (renL g l)
  | .list l c => .list (renL g l) c
  | .agg l => .agg (renL g l)
  | .tuple l => .tuple (renL g l)
  | .fn f a b => .fn f (renL g a) (renL g b)
  | .iface t v => .iface t (ren g v)
  | .map a b => .map (renL g a) (renL g b)
  | v => v
def renL (g : Nat → Nat) : List V → List V
  | [] => []
  | v :: l => ren g v :: renL g l
end
mutual
def nrm : V → V
  | .list l _ => .list (nrmL l) false
  | .agg l => .agg (nrmL l)
  | .tuple l => .tuple (nrmL l)
  | .iface t v => .iface t (nrm v)
  | v => v
def nrmL : List V → List V
  | [] => []
  | v :: l => nrm v :: nrmL l
end
def refsOb : Ob → List Nat
  | .live l => refsL l
  | .fixed l => refsL l
  | .mlive a b => refsL a ++ refsL b
  | .loop _ _ l _ => refsL l
  | _ => []
def renOb (g : Nat → Nat) : Ob → Ob
  | .live l => .live (renL g l)
  | .fixed l => .fixed (renL g l)
  | .mlive a b => .mlive (renL g a) (renL g b)
  | .loop k t l s => .loop k t (renL g l) s
  | o => o
def chunks (n : Nat) : Nat → List V → List V
  | 0, _ => []
  | k + 1, l => .agg (l.take n) :: chunks n k (l.drop n)
def chunk (n len : Nat) (l : List V) : List V := if n = 1 then l.take len else chunks n len l
def flat (l : List V) : List V := l.flatMap cellsOf
def uni (n : Nat) (l : List V) : Bool := l.all fun v => (cellsOf v).length == n
def mapOpt {α β : Type} (f : α → Option β) : List α → Option (List β)
  | [] => some []
  | v :: l => match f v, mapOpt f l with
    | some a, some b => some (a :: b)
    | _, _ => none
def mapS {σ : Type} (f : V → σ → Option (V × σ)) : List V → σ → Option (List V × σ)
  | [], s => some ([], s)
  | v :: l, s => match f v s with
    | none => none
    | some (v', s1) => match mapS f l s1 with
      | none => none
      | some (l', s2) => some (v' :: l', s2)
def leafy : V → Bool
  | .agg _ => false
  | _ => true
def freezeV : Nat → V → List Ob → Option (V × List Ob)
  | 0, _, _ => none
  | k + 1, v, H => match v with
    | .own id off len n => match H[id]? with
      | some (.live l) => if off + len * n ≤ l.length ∧ n ≠ 0 then match mapS (freezeV k) ((l.drop off).take (len * n)) (H.set id (.fixed l)) with
          | some (x, H') => if n ≠ 1 ∨ x.all leafy = true then some (.list (chunk n len x) false, H') else none
          | none => none
        else none
      | some (.fixed l) => if off + len * n ≤ l.length ∧ n ≠ 0 then match mapS (freezeV k) ((l.drop off).take (len * n)) H with
          | some (x, H') => if n ≠ 1 ∨ x.all leafy = true then some (.list (chunk n len x) false, H') else none
          | none => none
        else none
      | _ => none
    | .mref id => match H[id]? with
      | some (.mlive ks vs) => some (.map ks vs, H.set id .dead)
      | _ => none
    | .agg l => (mapS (freezeV k) l H).map fun x => (.agg x.1, x.2)
    | .tuple l => (mapS (freezeV k) l H).map fun x => (.tuple x.1, x.2)
    | v => some (v, H)
inductive Opd where
  | t (n : Nat)
  | c (v : V)
deriving Inhabited
inductive SlK where
  | str
  | sl (n : Nat)
  | arr (len n : Nat)
deriving Inhabited
inductive EqK where
  | no
  | bool
  | ptr
  | func
deriving Inhabited
inductive CvK where
  | int (k : IntKind)
  | float (k : FloatKind)
  | f2i (k : IntKind)
  | s2b
  | b2s
  | s2s
  | i2s
deriving Inhabited
inductive KyK where
  | int
  | str
deriving Inhabited
inductive LfK where
  | bool
  | int
  | str
deriving Inhabited
inductive PK where
  | i2f (k : FloatKind)
  | f2i (k : IntKind)
  | i2s
  | s2b
  | isNil (b : Bool)
  | isNilI (b : Bool)
  | lst (n len : Nat) (zero : List V) (pl : List (Nat × Nat))
  | eqA (b : Bool) (offs : List (Nat × LfK))
  | assert (t : TypeId) (zero : Option V)
deriving Inhabited
inductive RK where
  | lookup (kk : KyK) (zero : V) (ok : Bool)
deriving Inhabited
inductive MK where
  | makeMap
  | mapPut (kk : KyK)
  | range
  | next
  | mark
deriving Inhabited
inductive AOp where
  | pur (k : PK) (l : List Opd)
  | rd (k : RK) (l : List Opd)
  | mem (k : MK) (l : List Opd)
  | mov (x : Opd)
  | pick (c a b : Opd)
  | alloc (zero : List V)
  | box (x : Opd)
  | build (zero : List V) (parts : List (Nat × Nat × Opd))
  | buildSlice (n len : Nat) (zero : List V) (parts : List (Nat × Nat × Opd))
  | load (agg : Bool) (n : Nat) (x : Opd)
  | store (n : Nat) (a x : Opd)
  | nilCheck (x : Opd)
  | bin (op : BinOp) (k : EqK) (x y : Opd)
  | un (op : UnOp) (x : Opd)
  | conv (k : CvK) (x : Opd)
  | makeIface (t : TypeId) (x : Opd)
  | makeFunc (f : Fn) (first captured : List Opd)
  | makeSlice (n bytes : Nat) (zero : List V) (len cap : Opd)
  | slice (k : SlK) (x : Opd) (lo hi mx : Option Opd)
  | fieldAddr (off : Nat) (x : Opd)
  | field (agg : Bool) (off n : Nat) (x : Opd)
  | indexSl (n : Nat) (x i : Opd)
  | indexPA (len n : Nat) (x i : Opd)
  | indexArr (len n : Nat) (agg : Bool) (x i : Opd)
  | indexStr (x i : Opd)
  | extract (i : Nat) (x : Opd)
  | lenC (n : Nat)
  | lenS (x : Opd)
  | len (x : Opd)
  | cap (x : Opd)
  | append (n bytes : Nat) (zeros : Option (List V)) (s x : Opd)
  | copy (n : Nat) (d s : Opd)
  | clear (zero : List V) (n : Nat) (x : Opd)
  | max (l : List Opd)
  | min (l : List Opd)
  | panic (x : Opd)
  | call (f : FuncId) (args : List Opd)
  | callv (f : Opd) (args : List Opd)
deriving Inhabited
structure AO where
  dst : Option Nat
  op : AOp
  guard : Option (Nat × Bool)
  after : List Nat
  eff : Bool
deriving Inhabited
def AO.bare (o : AO) : AO := { o with after := [], eff := false }
abbrev mv (d s : Nat) : AO := ⟨some d, .mov (.t s), none, [], false⟩
abbrev ao (d : Nat) (op : AOp) : AO := ⟨some d, op, none, [], false⟩
abbrev ag (d : Nat) (op : AOp) (t : Nat) (b : Bool) : AO := ⟨some d, op, some (t, b), [], false⟩
abbrev an (op : AOp) : AO := ⟨none, op, none, [], false⟩
inductive ACode where
  | skip
  | region (ops : List AO) (draw : Bool)
  | seq (a b : ACode)
  | cond (c : Opd) (thn els : ACode)
  | block (id : Nat) (body : ACode)
  | loop (body : ACode)
  | exit (id : Nat)
  | ret
  | fix (t : Option Nat) (body : ACode)
  | range (k : Nat) (f : Opd) (ps : List Nat) (assign body : ACode)
deriving Inhabited
structure AFun where
  nt : Nat
  results : List (Nat × Option (Bool × Nat))
  code : ACode
  dfr : Option (List ACode × List AO × Opd × ACode) := none
  rcv : Option Nat := none
deriving Inhabited
def YF : FuncId := 4000000000
abbrev Env := Nat → V
def upd (e : Env) (d : Nat) (v : V) : Env := fun i => if i = d then v else e i
def putE (e : Env) (d : Option Nat) (v : V) : Env := match d with | some t => upd e t v | none => e
def evO (e : Env) : Opd → V
  | .t n => e n
  | .c v => v
inductive CR where
  | ret (v : V)
  | panic (v : V)
inductive X where
  | normal
  | exit (id : Nat)
  | ret
  | panic (v : V)
  | mayRet
deriving Inhabited
inductive OR where
  | val (v : V) (H : List Ob)
  | skip (H : List Ob)
  | panic (v : V) (H : List Ob)
  | call (f : FuncId) (args : List V)
def asI : V → Option (IntKind × Int)
  | .int k n => some (k, n)
  | _ => none
def peek (H : List Ob) (n : Nat) : V → Option (List V)
  | .ref l => if n ≤ l.length then some (l.take n) else none
  | .ptr id off => match H[id]? with
    | some (.live l) => if off + n ≤ l.length then some ((l.drop off).take n) else none
    | some (.fixed l) => if off + n ≤ l.length then some ((l.drop off).take n) else none
    | _ => none
  | _ => none
def splice (l : List V) (off : Nat) (x : List V) : List V := l.take off ++ x ++ l.drop (off + x.length)
def fillV (cells : List V) : List (Nat × Nat × V) → Option (List V)
  | [] => some cells
  | (off, n, v) :: r => if (cellsOf v).length = n ∧ off + n ≤ cells.length ∧ isAny v = false then fillV (splice cells off (cellsOf v)) r else none
def zeros (zero : List V) : Nat → List V
  | 0 => []
  | n + 1 => zero ++ zeros zero n
def elems (H : List Ob) (n : Nat) : V → Option (List V × Nat)
  | .list l _ => if uni n l then some (flat l, l.length) else none
  | .own id off len m => if m = n then (peek H (len * n) (.ptr id off)).map fun x => (x, len) else none
  | .str s => if n = 1 then some (s.data.toList.map fun b => V.int .u8 b.toNat, s.size) else none
  | _ => none
def bitsInt (op : BinOp) (k : IntKind) (x y : Int) : Option Int :=
  match op with
  | .and => some (k.wrap (BitVec.ofInt k.bits x &&& BitVec.ofInt k.bits y).toNat)
  | .or => some (k.wrap (BitVec.ofInt k.bits x ||| BitVec.ofInt k.bits y).toNat)
  | .xor => some (k.wrap (BitVec.ofInt k.bits x ^^^ BitVec.ofInt k.bits y).toNat)
  | .andNot => some (k.wrap (BitVec.ofInt k.bits x &&& ~~~BitVec.ofInt k.bits y).toNat)
  | _ => none
def cmpInt (op : BinOp) (x y : Int) : Option Bool :=
  match op with
  | .eql => some (x == y)
  | .neq => some (x != y)
  | .lss => some (decide (x < y))
  | .leq => some (decide (x ≤ y))
  | .gtr => some (decide (x > y))
  | .geq => some (decide (x ≥ y))
  | _ => none
def eqB : V → V → Option Bool
  | .bool a, .bool b => some (a == b)
  | _, _ => none
def eqP : V → V → Option Bool
  | .nilp, .nilp => some true
  | .nilp, .ptr _ _ => some false
  | .ptr _ _, .nilp => some false
  | .nilp, .ref _ => some false
  | .ref _, .nilp => some false
  | _, _ => none
def eqF : V → V → Option Bool
  | .nilfn, .nilfn => some true
  | .nilfn, .fn _ _ _ => some false
  | .fn _ _ _, .nilfn => some false
  | _, _ => none
def eqV : EqK → V → V → Option Bool
  | .no, _, _ => none
  | .bool, x, y => eqB x y
  | .ptr, x, y => eqP x y
  | .func, x, y => eqF x y
def floatV (k : FloatKind) (r : Option Nat) : V := match r with | some b => .float k b | none => .fnan k
def ordV : V → V → Option (FloatKind × Option Ordering)
  | .float k a, .float k' b => if k = k' then some (k, k.format.order a b) else none
  | .fnan k, .float k' _ => if k = k' then some (k, none) else none
  | .float k _, .fnan k' => if k = k' then some (k, none) else none
  | .fnan k, .fnan k' => if k = k' then some (k, none) else none
  | _, _ => none
def cmpF (op : BinOp) (c : Option Ordering) : Option Bool :=
  match op with
  | .eql => some (c == some .eq)
  | .neq => some (c != some .eq)
  | .lss => some (c == some .lt)
  | .leq => some (c == some .lt || c == some .eq)
  | .gtr => some (c == some .gt)
  | .geq => some (c == some .gt || c == some .eq)
  | _ => none
def binV (op : BinOp) (ek : EqK) (x y : V) : Option V :=
  match op, x, y with
  | .shl, .int k a, .int _ b => if b < 0 then none else some (.int k (k.wrap (a * 2 ^ (min b.toNat k.bits))))
  | .shr, .int k a, .int _ b => if b < 0 then none else some (.int k (a.fdiv (2 ^ (min b.toNat k.bits))))
  | op, .int k a, .int k' b =>
    if k = k' then
      match op with
      | .add => some (.int k (k.wrap (a + b)))
      | .sub => some (.int k (k.wrap (a - b)))
      | .mul => some (.int k (k.wrap (a * b)))
      | .quo => if b = 0 then none else some (.int k (k.wrap (a.tdiv b)))
      | .rem => if b = 0 then none else some (.int k (a.tmod b))
      | .and | .or | .xor | .andNot => (bitsInt op k a b).map (V.int k)
      | op => (cmpInt op a b).map V.bool
    else none
  | op, .str a, .str b =>
    match op with
    | .add => if a.size + b.size ≤ 9223372036854775807 then some (.str (a ++ b)) else none
    | .eql => some (.bool (a.data.toList == b.data.toList))
    | .neq => some (.bool (!(a.data.toList == b.data.toList)))
    | _ => none
  | op, .float k a, .float k' b =>
    if k = k' then
      match op with
      | .add => some (floatV k (k.format.add a b))
      | .sub => some (floatV k (k.format.sub a b))
      | .mul => some (floatV k (k.format.mul a b))
      | .quo => some (floatV k (k.format.div a b))
      | op => (cmpF op (k.format.order a b)).map V.bool
    else none
  | op, .fnan k, .fnan k' => if k = k' then (cmpF op none).map V.bool else none
  | .eql, x, y => (eqV ek x y).map V.bool
  | .neq, x, y => (eqV ek x y).map fun b => V.bool (!b)
  | _, _, _ => none
def unV (op : UnOp) (x : V) : Option V :=
  match op, x with
  | .neg, .int k n => some (.int k (k.wrap (0 - n)))
  | .xor, .int k n => (bitsInt .xor k (if k.signed then -1 else k.max) n).map (V.int k)
  | .not, .bool b => some (.bool (!b))
  | .neg, .float k b => some (.float k (Op.negFloat k b))
  | _, _ => none
def natV : Option V → Nat → Option Nat
  | none, d => some d
  | some (.int _ i), _ => if 0 ≤ i then some i.toNat else none
  | _, _ => none
def sliceV (H : List Ob) (k : SlK) (x : V) (lo hi mx : Option V) : Option V :=
  if mx.isSome && hi.isNone then none else
  match k, x with
  | .str, .str s => if mx.isSome then none else match natV hi s.size, natV lo 0 with
    | some h, some l => if l ≤ h ∧ h ≤ s.size then some (.str (s.extract l h)) else none
    | _, _ => none
  | .sl n, .list e c => if uni n e = false then none else match natV mx e.length, natV hi e.length, natV lo 0 with
    | some m, some h, some l =>
      if l ≤ h ∧ h ≤ m ∧ m ≤ e.length then
        some (.list ((e.drop l).take (h - l)) (if mx.isSome then m == h else c && h == e.length)) else none
    | _, _, _ => none
  | .sl n, .own id off len n' => match natV mx len, natV hi len, natV lo 0 with
    | some m, some h, some l =>
      if n = n' ∧ l ≤ h ∧ h ≤ m ∧ m ≤ len then
        some (if h = l ∧ (l ≠ 0 ∨ mx.isSome = true) then .list [] (mx.isSome && m == h) else .own id (off + l * n) (h - l) n) else none
    | _, _, _ => none
  | .arr alen n, .ptr id off => match natV mx alen, natV hi alen, natV lo 0, peek H (alen * n) (.ptr id off) with
    | some m, some h, some l, some _ =>
      if l ≤ h ∧ h ≤ m ∧ m ≤ alen then
        some (if h = l then .list [] (m == h) else .own id (off + l * n) (h - l) n) else none
    | _, _, _, _ => none
  | _, _ => none
def capOk (need bytes : Nat) : Bool := decide ((2 * need + 1000) * bytes ≤ 2 ^ 48) && decide (need ≤ 2 ^ 62)
def appendV (H : List Ob) (n bytes : Nat) (s : V) (xs : List V) (k : Nat) : Option (V × List Ob) :=
  match s with
  | .list l c =>
    if k = 0 then some (s, H)
    else if c && uni n l && xs.length == k * n && capOk (l.length + k) bytes then
      some (.own H.length 0 (l.length + k) n, H ++ [.live (flat l ++ xs)])
    else none
  | .own id 0 len m =>
    if k = 0 then some (s, H)
    else match H[id]? with
      | some (.live l) =>
        if m = n ∧ len * n ≤ l.length ∧ xs.all storable = true ∧ capOk (len + k) bytes = true then
          some (.own H.length 0 (len + k) n, H.set id .dead ++ [.live (l.take (len * n) ++ xs)])
        else none
      | _ => none
  | _ => none
def maxF : V → List V → Option V
  | v, [] => some v
  | .int k a, .int k' b :: r => if k = k' then maxF (.int k (if b > a then b else a)) r else none
  | _, _ => none
def minF : V → List V → Option V
  | v, [] => some v
  | .int k a, .int k' b :: r => if k = k' then minF (.int k (if b < a then b else a)) r else none
  | _, _ => none
def maxV : List V → Option V
  | [] => none
  | v :: r => maxF v r
def minV : List V → Option V
  | [] => none
  | v :: r => minF v r
def ans (H : List Ob) (v : Option V) : Option OR := v.map fun v => .val v H
def keyEq : KyK → V → V → Option Bool
  | .int, .int k a, .int k' b => if k = k' then some (a == b) else none
  | .str, .str a, .str b => some (a.data.toList == b.data.toList)
  | _, _, _ => none
def findV (kk : KyK) (k : V) : List V → Nat → Option (Option Nat)
  | [], _ => some none
  | e :: es, i => match keyEq kk k e with
    | some true => some (some i)
    | some false => findV kk k es (i + 1)
    | none => none
def leafEq : LfK → V → V → Option Bool
  | .bool, .bool a, .bool b => some (a == b)
  | .int, .int j a, .int k b => if j = k then some (a == b) else none
  | .str, .str a, .str b => some (a.data.toList == b.data.toList)
  | _, _, _ => none
def eqLeaves (l m : List V) : List (Nat × LfK) → Option Bool
  | [] => some true
  | (o, k) :: r => match l[o]?, m[o]? with
    | some a, some b => match leafEq k a b with
      | some true => eqLeaves l m r
      | x => x
    | _, _ => none
def purV : PK → List V → Option V
  | .i2f k, [.int _ n] => some (.float k (k.nearest n))
  | .f2i k, [.float j b] => match (j.decode b).toInt .zero with
    | some n => if k.min ≤ n ∧ n ≤ k.max then some (.int k n) else none
    | none => none
  | .i2s, [.int _ n] => some (.str (Utf8.encode n))
  | .s2b, [.str s] => some (.list (s.data.toList.map fun b => V.int .u8 b.toNat) false)
  | .isNil _, [.list [] _] => some .anyb
  | .isNil b, [.list (_ :: _) _] => some (.bool (!b))
  | .isNil b, [.own _ _ _ _] => some (.bool (!b))
  | .isNilI b, [.niliface] => some (.bool b)
  | .isNilI b, [.iface _ _] => some (.bool (!b))
  | .eqA b offs, [.agg l, .agg m] => (eqLeaves l m offs).map fun r => .bool (r == b)
  | .lst n len zero pl, vs => if pl.length = vs.length then match fillV (zeros zero len) ((pl.zip vs).map fun p => (p.1.1, p.1.2, p.2)) with
    | some cells => if len = 0 then some (.list [] true) else if n ≠ 1 ∨ cells.all leafy = true then some (.list (chunk n len cells) true) else none
    | none => none
    else none
  | .assert t none, [.iface u v] => if u = t then some v else none
  | .assert t (some z), [.iface u v] => some (if u = t then .tuple [v, .bool true] else .tuple [z, .bool false])
  | .assert _ (some z), [.niliface] => some (.tuple [z, .bool false])
  | _, _ => none
def mapOf (H : List Ob) : V → Option (List V × List V)
  | .nilmap => some ([], [])
  | .map ks vs => some (ks, vs)
  | .mref id => match H[id]? with
    | some (.mlive ks vs) => some (ks, vs)
    | _ => none
  | _ => none
def rdV (H : List Ob) : RK → List V → Option V
  | .lookup kk zero ok, [m, k] => match mapOf H m with
    | some (ks, vs) => match findV kk k ks 0 with
      | some (some i) => match vs[i]? with
        | some v => some (if ok then .tuple [v, .bool true] else v)
        | none => none
      | some none => some (if ok then .tuple [zero, .bool false] else zero)
      | none => none
    | none => none
  | _, _ => none
def memV (H : List Ob) : MK → List V → Option OR
  | .makeMap, [] => some (.val (.mref H.length) (H ++ [.mlive [] []]))
  | .makeMap, [.int _ _] => some (.val (.mref H.length) (H ++ [.mlive [] []]))
  | .mapPut kk, [.mref id, k, v] => match H[id]? with
    | some (.mlive ks vs) => match findV kk k ks 0 with
      | some none => some (.skip (H.set id (.mlive (ks ++ [k]) (vs ++ [v]))))
      | _ => none
    | _ => none
  | .range, [.str s] => some (.val (.ptr H.length 0) (H ++ [.iter s 0]))
  | .next, [.ptr id 0] => match H[id]? with
    | some (.iter s pos) => if pos < s.size then
        some (.val (.tuple [.bool true, .int .i64 pos, .int .i32 (Utf8.decode s pos).1]) (H.set id (.iter s (pos + (Utf8.decode s pos).2))))
      else some (.val (.tuple [.bool false]) H)
    | _ => none
  | .mark, [.own id off len n] => match H[id]? with
    | some (.live l) => some (.val (.own id off len n) (H.set id (.fixed l)))
    | _ => none
  | _, _ => none
def evOp (ρ : Opd → V) (H : List Ob) : AOp → Option OR
  | .pur k l => ans H (purV k (l.map ρ))
  | .rd k l => ans H (rdV H k (l.map ρ))
  | .mem k l => memV H k (l.map ρ)
  | .mov x => some (.val (ρ x) H)
  | .pick c a b => match ρ c with
    | .bool t => some (.val (if t then ρ a else ρ b) H)
    | _ => none
  | .alloc zero => some (.val (.ptr H.length 0) (H ++ [.live zero]))
  | .box x => if isAny (ρ x) = true then none else some (.val (.ptr H.length 0) (H ++ [.live (cellsOf (ρ x))]))
  | .build zero parts => ans H ((fillV zero (parts.map fun p => (p.1, p.2.1, ρ p.2.2))).map V.agg)
  | .buildSlice n len zero parts =>
    match fillV (zeros zero len) (parts.map fun p => (p.1, p.2.1, ρ p.2.2)) with
    | some cells => if len = 0 then some (.val (.list [] true) H) else some (.val (.own H.length 0 len n) (H ++ [.live cells]))
    | none => none
  | .load agg n x => match peek H n (ρ x) with
    | some l => if agg then some (.val (.agg l) H) else match l with
      | [v] => some (.val v H)
      | _ => none
    | none => none
  | .store n a x => match ρ a with
    | .ptr id off => match H[id]? with
      | some (.live l) =>
        if (cellsOf (ρ x)).length = n ∧ off + n ≤ l.length ∧ (cellsOf (ρ x)).all storable = true then
          some (.skip (H.set id (.live (splice l off (cellsOf (ρ x)))))) else none
      | _ => none
    | _ => none
  | .nilCheck x => match ρ x with
    | .ptr i o => some (.val (.ptr i o) H)
    | .ref l => some (.val (.ref l) H)
    | .fn (.func f) a b => some (.val (.fn (.func f) a b) H)
    | _ => none
  | .bin op k x y => ans H (binV op k (ρ x) (ρ y))
  | .un op x => ans H (unV op (ρ x))
  | .conv (.int k) x => match ρ x with
    | .int _ n => some (.val (.int k (k.wrap n)) H)
    | _ => none
  | .conv .s2s x => match ρ x with
    | .str s => some (.val (.str s) H)
    | _ => none
  | .conv .b2s x => match ρ x with
    | .list l c => (elems H 1 (.list l c)).bind fun p =>
      if p.1.all (fun v => match v with | .int .u8 n => decide (0 ≤ n) && decide (n < 256) | _ => false) then
        some (.val (.str ⟨(p.1.map fun v => match v with | .int _ n => n.toNat.toUInt8 | _ => 0).toArray⟩) H) else none
    | .own a b c d => (elems H 1 (.own a b c d)).bind fun p =>
      if p.1.all (fun v => match v with | .int .u8 n => decide (0 ≤ n) && decide (n < 256) | _ => false) then
        some (.val (.str ⟨(p.1.map fun v => match v with | .int _ n => n.toNat.toUInt8 | _ => 0).toArray⟩) H) else none
    | _ => none
  | .conv _ _ => none
  | .makeIface t x => if isAny (ρ x) = true then none else some (.val (.iface t (ρ x)) H)
  | .makeFunc f first captured => some (.val (.fn f (first.map ρ) (captured.map ρ)) H)
  | .makeSlice n bytes zero len cap => match ρ len, ρ cap with
    | .int _ l, .int _ c =>
      if 0 ≤ l ∧ l ≤ c ∧ c * bytes ≤ 2 ^ 47 ∧ c ≤ 2 ^ 47 ∧ (zero.length = n ∧ n ≠ 0) then
        (if c = 0 then some (.val (.list [] true) H) else some (.val (.own H.length 0 l.toNat n) (H ++ [.live (zeros zero c.toNat)]))) else none
    | _, _ => none
  | .slice k x lo hi mx => ans H (sliceV H k (ρ x) (lo.map ρ) (hi.map ρ) (mx.map ρ))
  | .fieldAddr off x => match ρ x with
    | .ptr id o => some (.val (.ptr id (o + off)) H)
    | .ref l => if off ≤ l.length then some (.val (.ref (l.drop off)) H) else none
    | _ => none
  | .field agg off n x => match ρ x with
    | .agg l => if off + n ≤ l.length then
        (if agg then some (.val (.agg ((l.drop off).take n)) H) else match l[off]? with | some v => some (.val v H) | none => none) else none
    | _ => none
  | .indexSl n x i => match ρ i with
    | .int _ j => if j < 0 then none else match ρ x with
      | .list l _ => match l[j.toNat]? with
        | some v => if (cellsOf v).length = n then some (.val (.ref (cellsOf v)) H) else none
        | none => none
      | .own id off len m => if j < len ∧ m = n then some (.val (.ptr id (off + j.toNat * n)) H) else none
      | _ => none
    | _ => none
  | .indexPA alen n x i => match ρ i with
    | .int _ j => if j < 0 then none else match ρ x with
      | .ptr id off => if j < alen then some (.val (.ptr id (off + j.toNat * n)) H) else none
      | .ref l => if j < alen ∧ j.toNat * n ≤ l.length then some (.val (.ref (l.drop (j.toNat * n))) H) else none
      | _ => none
    | _ => none
  | .indexArr alen n agg x i => match ρ i, ρ x with
    | .int _ j, .agg l => if 0 ≤ j ∧ j < alen ∧ j.toNat * n + n ≤ l.length then
        (if agg then some (.val (.agg ((l.drop (j.toNat * n)).take n)) H) else match l[j.toNat * n]? with | some v => some (.val v H) | none => none) else none
    | _, _ => none
  | .indexStr x i => match ρ i, ρ x with
    | .int _ j, .str s => if j < 0 then none else match s.data.toList[j.toNat]? with
      | some b => some (.val (.int .u8 b.toNat) H)
      | none => none
    | _, _ => none
  | .extract i x => match ρ x with
    | .tuple l => match l[i]? with
      | some v => some (.val v H)
      | none => none
    | _ => none
  | .lenC n => some (.val (.int .i64 n) H)
  | .lenS x => match ρ x with
    | .str s => some (.val (.int .i64 s.size) H)
    | _ => none
  | .len x => match ρ x with
    | .list l _ => some (.val (.int .i64 l.length) H)
    | .own _ _ len _ => some (.val (.int .i64 len) H)
    | _ => none
  | .cap x => match ρ x with
    | .list l true => some (.val (.int .i64 l.length) H)
    | _ => none
  | .append n bytes zs s x => match zs with
    | none => match elems H n (ρ x) with
      | some (xs, k) => match appendV H n bytes (ρ s) xs k with
        | some (v, H') => some (.val v H')
        | none => none
      | none => none
    | some zero => match ρ x with
      | .int _ l => if 0 ≤ l ∧ l ≤ 2 ^ 47 ∧ l * bytes ≤ 2 ^ 47 ∧ zero.length = n then match appendV H n bytes (ρ s) (zeros zero l.toNat) l.toNat with
          | some (v, H') => some (.val v H')
          | none => none
        else none
      | _ => none
  | .copy n d s => match ρ d, elems H n (ρ s) with
    | .list [] _, some _ => some (.val (.int .i64 0) H)
    | .own id off len m, some (xs, k) => match H[id]? with
      | some (.live l) => if m = n ∧ off + len * n ≤ l.length ∧ (xs.take (Nat.min k len * n)).all storable = true then
          some (.val (.int .i64 (Nat.min k len : Nat)) (H.set id (.live (splice l off (xs.take (Nat.min k len * n)))))) else none
      | _ => none
    | _, _ => none
  | .clear zero n x => match ρ x with
    | .list [] _ => some (.val uv H)
    | .own id off len m => match H[id]? with
      | some (.live l) => if m = n ∧ zero.length = n ∧ off + len * n ≤ l.length ∧ zero.all storable = true then
          some (.val uv (H.set id (.live (splice l off (zeros zero len))))) else none
      | _ => none
    | _ => none
  | .max l => ans H (maxV (l.map ρ))
  | .min l => ans H (minV (l.map ρ))
  | .panic x => match ρ x with
    | .iface t v => some (.panic (.iface t v) H)
    | _ => none
  | .call f args => some (.call f (args.map ρ))
  | .callv f args => match ρ f with
    | .fn (.func g) first captured => if g = YF then none else some (.call g (first ++ args.map ρ ++ captured))
    | .yld id => some (.call YF (.yld id :: args.map ρ))
    | _ => none
def reach (H : List Ob) : Nat → List Nat → List Nat → Option (List Nat)
  | 0, _, _ => none
  | _ + 1, [], seen => some seen
  | k + 1, i :: todo, seen =>
    if seen.contains i then reach H k todo seen
    else match H[i]? with
      | some o => reach H k (todo ++ refsOb o) (seen ++ [i])
      | none => none
def depthF : Nat := 12
abbrev CallT := FuncId → List V → List Ob → Option (CR × List Ob)
def freezeObs : Nat → List Ob → List Ob → Option (List Ob)
  | _, [], H => some H
  | i, .live l :: r, H => match mapS (freezeV depthF) l H with
    | some (l', H') => match H'[i]? with
      | some (.live _) => freezeObs (i + 1) r (H'.set i (.live l'))
      | _ => freezeObs (i + 1) r H'
    | none => none
  | i, _ :: r, H => freezeObs (i + 1) r H
def settleR (m : Nat) (r : CR) (H : List Ob) : Option (CR × List Ob) :=
  match freezeObs 0 (H.take m) H with
  | none => none
  | some H1 => match r with
    | .ret v => (freezeV depthF v H1).map fun x => (.ret (nrm x.1), x.2)
    | .panic v => some (.panic v, H1)
def crV : CR → V
  | .ret v => v
  | .panic v => v
def renR (g : Nat → Nat) : CR → CR
  | .ret v => .ret (ren g v)
  | .panic v => .panic (ren g v)
def setAll (H : List Ob) : List Nat → List Ob → List Ob
  | i :: is, o :: os => setAll (H.set i o) is os
  | _, _ => H
def doCall (call : CallT) (inl : FuncId → Bool) (f : FuncId) (args : List V) (H : List Ob) : Option (CR × List Ob) :=
  match (if inl f then some (args, H) else (mapS (freezeV depthF) args H).map fun x => (x.1.map nrm, x.2)) with
  | none => none
  | some (args, H) =>
    match reach H 1000 (refsL args) [] with
    | none => none
    | some ids =>
      let g (i : Nat) : Nat := ids.idxOf i
      match call f (renL g args) ((ids.map fun i => renOb g (H[i]?.getD .dead))) with
      | none => none
      | some (r, Hl) =>
        match (if inl f then some (r, Hl) else settleR ids.length r Hl) with
        | none => none
        | some (r, Hl) =>
          let back (j : Nat) : Nat := if j < ids.length then ids[j]?.getD 0 else H.length + (j - ids.length)
          let old := Hl.take ids.length
          if ids.length ≤ Hl.length then
            let H' := setAll H ids (old.map (renOb back))
            if (refs (crV r) ++ old.flatMap refsOb).any (fun j => ids.length ≤ j) then
              some (renR back r, H' ++ (Hl.drop ids.length).map (renOb back))
            else some (renR back r, H')
          else none
def runOps (call : CallT) (inl : FuncId → Bool) : List AO → Env → List Ob → Option (X × Env × List Ob)
  | [], e, H => some (.normal, e, H)
  | o :: r, e, H =>
    let go (_ : Unit) := match evOp (evO e) H o.op with
      | none => none
      | some (.val v H') => runOps call inl r (putE e o.dst v) H'
      | some (.skip H') => runOps call inl r (putE e o.dst uv) H'
      | some (.panic v H') => some (.panic v, e, H')
      | some (.call f args) => match doCall call inl f args H with
        | none => none
        | some (.ret v, H') => runOps call inl r (putE e o.dst v) H'
        | some (.panic v, H') => some (.panic v, e, H')
    match o.guard with
    | none => go ()
    | some (t, want) => match e t with
      | .bool b => if b = want then go () else runOps call inl r (putE e o.dst uv) H
      | .tuple [] => runOps call inl r (putE e o.dst uv) H
      | _ => none
end Fz
namespace Fz
open Go
def asciiN : List Int := [0, 0, 0, 0, 0, 0, 0, 0, 0, 1, 1, 1, 1, 1, 0, 0, 0, 0, 0, 0, 0, 0, 0, 0, 0, 0, 0, 0, 0, 0, 0, 0, 1, 0, 0, 0, 0, 0, 0, 0, 0, 0, 0, 0, 0, 0, 0, 0, 0, 0, 0, 0, 0, 0, 0, 0, 0, 0, 0, 0, 0, 0, 0, 0, 0, 0, 0, 0, 0, 0, 0, 0, 0, 0, 0, 0, 0, 0, 0, 0, 0, 0, 0, 0, 0, 0, 0, 0, 0, 0, 0, 0, 0, 0, 0, 0, 0, 0, 0, 0, 0, 0, 0, 0, 0, 0, 0, 0, 0, 0, 0, 0, 0, 0, 0, 0, 0, 0, 0, 0, 0, 0, 0, 0, 0, 0, 0, 0, 0, 0, 0, 0, 0, 0, 0, 0, 0, 0, 0, 0, 0, 0, 0, 0, 0, 0, 0, 0, 0, 0, 0, 0, 0, 0, 0, 0, 0, 0, 0, 0, 0, 0, 0, 0, 0, 0, 0, 0, 0, 0, 0, 0, 0, 0, 0, 0, 0, 0, 0, 0, 0, 0, 0, 0, 0, 0, 0, 0, 0, 0, 0, 0, 0, 0, 0, 0, 0, 0, 0, 0, 0, 0, 0, 0, 0, 0, 0, 0, 0, 0, 0, 0, 0, 0, 0, 0, 0, 0, 0, 0, 0, 0, 0, 0, 0, 0, 0, 0, 0, 0, 0, 0, 0, 0, 0, 0, 0, 0, 0, 0, 0, 0, 0, 0, 0, 0, 0, 0, 0, 0, 0, 0, 0, 0, 0, 0]
def glA : V := .ref (asciiN.map (V.int .u8))
def globs (g : Nat) : Option (List V) := if g = 0 then some (asciiN.map (V.int .u8)) else none
end Fz
namespace Fz
open Go
def usesOpd : Opd → List Nat
  | .t n => [n]
  | .c _ => []
def usesO : Option Opd → List Nat
  | some x => usesOpd x
  | none => []
def usesOp : AOp → List Nat
  | .mov x | .box x | .load _ _ x | .nilCheck x | .un _ x | .conv _ x | .makeIface _ x | .fieldAddr _ x | .field _ _ _ x | .extract _ x | .len x | .lenS x | .cap x | .clear _ _ x | .panic x => usesOpd x
  | .pick c a b => usesOpd c ++ usesOpd a ++ usesOpd b
  | .alloc _ | .lenC _ => []
  | .build _ ps | .buildSlice _ _ _ ps => ps.flatMap fun p => usesOpd p.2.2
  | .store _ a x | .bin _ _ a x | .makeSlice _ _ _ a x | .indexSl _ a x | .indexPA _ _ a x | .indexArr _ _ _ a x | .indexStr a x | .append _ _ _ a x | .copy _ a x => usesOpd a ++ usesOpd x
  | .makeFunc _ a b => a.flatMap usesOpd ++ b.flatMap usesOpd
  | .slice _ x l h m => usesOpd x ++ usesO l ++ usesO h ++ usesO m
  | .max l | .min l | .pur _ l | .rd _ l | .mem _ l => l.flatMap usesOpd
  | .call _ l => l.flatMap usesOpd
  | .callv f l => usesOpd f ++ l.flatMap usesOpd
def uses (o : AO) : List Nat := usesOp o.op ++ (match o.guard with | some (t, _) => [t] | none => [])
def insN (a : Nat) (l : List Nat) : List Nat := if l.contains a then l else a :: l
def uniqN (l : List Nat) : List Nat := l.foldr insN []
theorem mem_uniqN {i : Nat} : ∀ {l : List Nat}, i ∈ uniqN l ↔ i ∈ l
  | [] => Iff.rfl
  | a :: r => by
    show i ∈ insN a (uniqN r) ↔ _
    unfold insN
    split
    · rename_i h
      rw [List.contains_iff_mem, mem_uniqN] at h
      rw [mem_uniqN, List.mem_cons]
      exact ⟨.inr, fun hi => hi.elim (fun e => e ▸ h) id⟩
    · rw [List.mem_cons, List.mem_cons, mem_uniqN]
def ancsGo : List (List Nat) → List AO → List (List Nat)
  | acc, [] => acc
  | acc, o :: r => ancsGo (acc ++ [uniqN (o.after.flatMap fun i => i :: acc.getD i [])]) r
def ancs (ops : List AO) : List (List Nat) := ancsGo [] ops
def dstIs (o : AO) (t : Nat) : Bool := match o.dst with | some d => d == t | none => false
def touches (a b : AO) : Bool :=
  (match a.dst with | some d => (uses b).contains d || b.dst == some d | none => false) ||
  (match b.dst with | some d => (uses a).contains d | none => false)
def okDraw (ops : List AO) : Bool :=
  let an := ancs ops
  (ops.zipIdx.all fun p => p.1.after.all fun i => decide (i < p.2)) &&
  (ops.zipIdx.all fun p => ops.zipIdx.all fun q => !(decide (p.2 < q.2) && (touches p.1 q.1 || (p.1.eff && q.1.eff))) || (an.getD q.2 []).contains p.2)
mutual
def ground : V → Bool
  | .ptr _ _ => false
  | .own _ _ _ _ => false
  | .mref _ => false
  | .any => false
  | .yld _ => false
  | .ref l => groundL l
  | .list l _ => groundL l
  | .agg l => groundL l
  | .tuple l => groundL l
  | .fn _ a b => groundL a && groundL b
  | .iface _ v => ground v
  | .map a b => groundL a && groundL b
  | _ => true
def groundL : List V → Bool
  | [] => true
  | v :: l => ground v && groundL l
end
mutual
def listFree : V → Bool
  | .bool _ | .int _ _ | .float _ _ | .fnan _ | .str _ | .nilp | .nilfn | .niliface | .nilmap => true
  | .list [] _ => true
  | .agg l => listFreeL l
  | .tuple l => listFreeL l
  | _ => false
def listFreeL : List V → Bool
  | [] => true
  | v :: l => listFree v && listFreeL l
end
def lendV (H : List Ob) : Nat → V → Option V
  | 0, _ => none
  | k + 1, v => match v with
    | .own id off len n => if n = 0 then none else match peek H (len * n) (.ptr id off) with
      | some l => match mapOpt (lendV H k) l with
        | some x => if n ≠ 1 ∨ x.all leafy = true then some (.list (chunk n len x) false) else none
        | none => none
      | none => none
    | .agg l => (mapOpt (lendV H k) l).map V.agg
    | .tuple l => (mapOpt (lendV H k) l).map V.tuple
    | v => some v
def pureOp : AOp → Bool
  | .alloc _ | .box _ | .buildSlice _ _ _ _ | .makeSlice _ _ _ _ _ | .store _ _ _ | .append _ _ _ _ _ | .copy _ _ _ | .clear _ _ _ | .panic _ | .call _ _ | .callv _ _ | .mem _ _ => false
  | _ => true
def quietOp (call : CallT) (inl : FuncId → Bool) (e : Env) (H : List Ob) (o : AO) : Option V :=
  let go (_ : Unit) := match evOp (evO e) H o.op with
    | some (.val v _) => if pureOp o.op then some v else none
    | some (.call f args) => match mapOpt (lendV H depthF) args with
      | some l => if groundL l then (match doCall call inl f l [] with
        | some (.ret v, []) => if ground v && (listFree v || groundL args) then some v else none
        | _ => none) else none
      | none => none
    | _ => none
  match o.guard with
  | none => go ()
  | some (t, want) => match e t with
    | .bool b => if b = want then go () else some uv
    | .tuple [] => some uv
    | _ => none
def effOp (call : CallT) (inl : FuncId → Bool) (e : Env) (H : List Ob) (o : AO) : Option (V × List Ob) :=
  let go (_ : Unit) := match evOp (evO e) H o.op with
    | some (.val v H') => some (v, H')
    | some (.skip H') => some (uv, H')
    | some (.call f args) => match doCall call inl f args H with
      | some (.ret v, H') => some (v, H')
      | _ => none
    | _ => none
  match o.guard with
  | none => go ()
  | some (t, want) => match e t with
    | .bool b => if b = want then go () else some (uv, H)
    | .tuple [] => some (uv, H)
    | _ => none
def trace (call : CallT) (inl : FuncId → Bool) : List AO → Env → List (List Ob) → Option (List (Env × Nat × V) × List (List Ob) × Env)
  | [], e, hs => some ([], hs, e)
  | o :: r, e, hs =>
    match hs.getLast? with
    | none => none
    | some H =>
      if o.eff then match effOp call inl e H o with
        | none => none
        | some (v, H') => (trace call inl r (putE e o.dst v) (hs ++ [H'])).map fun x => ((e, hs.length - 1, v) :: x.1, x.2)
      else match quietOp call inl e H o with
        | none => none
        | some v => (trace call inl r (putE e o.dst v) hs).map fun x => ((e, hs.length - 1, v) :: x.1, x.2)
def steady (call : CallT) (inl : FuncId → Bool) (e : Env) (v : V) (o : AO) : List (List Ob) → Bool
  | [] => true
  | H :: r => (match quietOp call inl e H o with | some u => veq u v | none => false) && steady call inl e v o r
def ceK (ops : List AO) (p : Nat → Bool) : Nat → Nat
  | 0 => 0
  | k + 1 => ceK ops p k + (if p k && (ops.getD k default).eff then 1 else 0)
def loOf (ops : List AO) (an : List (List Nat)) (j : Nat) : Nat := ceK ops (fun i => (an.getD j []).contains i) ops.length
def hiOf (ops : List AO) (an : List (List Nat)) (j : Nat) : Nat := ceK ops (fun i => !((an.getD i []).contains j)) ops.length
def steadyAll (call : CallT) (inl : FuncId → Bool) (ops : List AO) (an : List (List Nat)) (hs : List (List Ob)) : List (AO × Nat) → List (Env × Nat × V) → Bool
  | [], [] => true
  | (o, j) :: r, (e, _, v) :: t =>
    (o.eff || steady call inl e v o ((hs.drop (loOf ops an j)).take (hiOf ops an j + 1 - loOf ops an j))) && steadyAll call inl ops an hs r t
  | _, _ => false
def runDrawN (call : CallT) (inl : FuncId → Bool) (ops : List AO) (e : Env) (H : List Ob) : Option (X × Env × List Ob) :=
  match trace call inl ops e [H] with
  | none => none
  | some (t, hs, e') =>
    if okDraw ops && steadyAll call inl ops (ancs ops) hs ops.zipIdx t then
      match hs.getLast? with
      | some H' => some (.normal, e', H')
      | none => none
    else none
def effPan (call : CallT) (inl : FuncId → Bool) (e : Env) (H : List Ob) (o : AO) : Option (V × List Ob) :=
  if o.guard.isSome then none else match evOp (evO e) H o.op with
    | some (.panic v H') => some (v, H')
    | some (.call f args) => match doCall call inl f args H with
      | some (.panic v, H') => some (v, H')
      | _ => none
    | _ => none
def panAt (call : CallT) (inl : FuncId → Bool) : List AO → Env → List Ob → Option Nat
  | [], _, _ => none
  | o :: r, e, H => if o.eff then match effOp call inl e H o with
      | some (v, H') => (panAt call inl r (putE e o.dst v) H').map (· + 1)
      | none => match effPan call inl e H o with
        | some _ => some 0
        | none => none
    else match quietOp call inl e H o with
      | some v => (panAt call inl r (putE e o.dst v) H).map (· + 1)
      | none => none
def deadE (ops : List AO) (e : Env) : Env := fun t => if ops.any (fun o => dstIs o t) then .any else e t
def lateOk (ops : List AO) (q : Nat) : Bool := (List.range ops.length).all fun j => decide (j ≤ q) || ((ancs ops).getD j []).contains q
def runPan (call : CallT) (inl : FuncId → Bool) (ops : List AO) (e : Env) (H : List Ob) (q : Nat) : Option (X × Env × List Ob) :=
  match trace call inl (ops.take q) e [H] with
  | none => none
  | some (t, hs, e') => match hs.getLast?, ops[q]? with
    | some Hl, some o => match effPan call inl e' Hl o with
      | some (v, H') => if okDraw ops && okDraw (ops.take q) && o.eff && lateOk ops q && steadyAll call inl (ops.take q) (ancs (ops.take q)) hs (ops.take q).zipIdx t then some (.panic v, deadE (ops.take q) e, H') else none
      | none => none
    | _, _ => none
def runDraw (call : CallT) (inl : FuncId → Bool) (ops : List AO) (e : Env) (H : List Ob) : Option (X × Env × List Ob) :=
  match runDrawN call inl ops e H with
  | some x => some x
  | none => match panAt call inl ops e H with
    | some q => runPan call inl ops e H q
    | none => none
theorem runDraw_of {call : CallT} {inl : FuncId → Bool} {ops : List AO} {e : Env} {H : List Ob} {x} (h : runDrawN call inl ops e H = some x) : runDraw call inl ops e H = some x := by
  unfold runDraw; rw [h]
structure ABody where
  keep : List Nat
  ps : List Nat
  assign : ACode
  body : ACode
structure AP where
  fn : FuncId → Option AFun
  prim : FuncId → Option (List V → List Ob → Option (V × List Ob))
  inl : FuncId → Bool
  body : Nat → Option ABody := fun _ => none
def AP.inlY (p : AP) (f : FuncId) : Bool := f == YF || p.inl f
def env0 (args : List V) : Env := fun i => args.getD i uv
def resultV (e : Env) (H : List Ob) : Nat × Option (Bool × Nat) → Option V
  | (t, none) => some (e t)
  | (t, some (agg, n)) => match peek H n (e t) with
    | some l => if agg then some (.agg l) else match l with
      | [v] => some v
      | _ => none
    | none => none
def resultsV (e : Env) (H : List Ob) : List (Nat × Option (Bool × Nat)) → Option (List V)
  | [] => some []
  | r :: rs => match resultV e H r, resultsV e H rs with
    | some v, some l => some (v :: l)
    | _, _ => none
def resultOf (e : Env) (H : List Ob) (rs : List (Nat × Option (Bool × Nat))) : Option V :=
  match resultsV e H rs with
  | some [v] => some v
  | some l => some (.tuple l)
  | none => none
def finishF (af : AFun) : Option (X × Env × List Ob) → Option (CR × List Ob)
  | some (.normal, e, H) => (resultOf e H af.results).map fun v => (.ret v, H)
  | some (.ret, e, H) => (resultOf e H af.results).map fun v => (.ret v, H)
  | some (.panic v, _, H) => some (.panic v, H)
  | _ => none
abbrev ExecT := ACode → Env → List Ob → Option (X × Env × List Ob)
def envT : List Nat → List V → Env
  | t :: ts, v :: vs => upd (envT ts vs) t v
  | _, _ => fun _ => .any
def setPs : Env → List Nat → List V → Env
  | e, t :: ts, v :: vs => setPs (upd e t v) ts vs
  | e, _, _ => e
def roundW (p : AP) (ex : ExecT) (args : List V) (H : List Ob) : Option (CR × List Ob) := match args with
  | .yld id :: rest => match H[id]? with
    | some (.loop k ts l .ready) => match p.body k with
      | some b => if rest.length = b.ps.length then
          match ex b.assign (setPs (envT ts l) b.ps rest) H with
          | some (.normal, e1, H1) => match H1[id]? with
            | some (.loop k1 ts1 l1 .ready) => match ex b.body e1 (H1.set id (.loop k1 ts1 l1 .busy)) with
              | some (x, _, H2) => match H2[id]? with
                | some (.loop k2 ts2 l2 .busy) => match x with
                  | .normal => some (.ret (.bool true), H2.set id (.loop k2 ts2 l2 .ready))
                  | .ret => some (.ret (.bool false), H2.set id (.loop k2 ts2 l2 (.done .ret)))
                  | .exit i => some (.ret (.bool false), H2.set id (.loop k2 ts2 l2 (.done (.exit i))))
                  | .panic _ => none
                  | .mayRet => none
                | _ => none
              | none => none
            | _ => none
          | _ => none
        else none
      | none => none
    | _ => none
  | _ => none
def hasR : ACode → Bool
  | .seq a b => hasR a || hasR b
  | .cond _ a b => hasR a || hasR b
  | .block _ b => hasR b
  | .loop b => hasR b
  | .fix _ b => hasR b
  | .range _ _ _ _ _ => true
  | _ => false
def callR (p : AP) (ex : ExecT) (d : V) (pv : Option V) (H : List Ob) : Option (Bool × List Ob) := match d with
  | .fn (.func g) first cap => if g = YF then none else match p.prim g, p.fn g with
    | none, some af => match af.dfr, hasR af.code with
      | none, false => match af.rcv with
        | none => match finishF af (ex af.code (env0 (first ++ cap)) H) with
          | some (.ret _, H') => some (false, H')
          | _ => none
        | some t => match finishF af (ex af.code (upd (env0 (first ++ cap)) t (pv.getD .niliface)) H) with
          | some (.ret _, H') => some (pv.isSome, H')
          | _ => none
      | _, _ => none
    | _, _ => none
  | _ => none
def deferF (p : AP) (ex : ExecT) (af : AFun) (d : V) : Option (X × Env × List Ob) → Option (CR × List Ob)
  | some (.normal, e, H) => match callR p ex d none H with
    | some (_, H') => (resultOf e H' af.results).map fun v => (.ret v, H')
    | none => none
  | some (.ret, e, H) => match callR p ex d none H with
    | some (_, H') => (resultOf e H' af.results).map fun v => (.ret v, H')
    | none => none
  | some (.panic v, e, H) => match callR p ex d (some v) H with
    | some (true, H') => (resultOf e H' af.results).map fun v => (.ret v, H')
    | some (false, H') => some (.panic v, H')
    | none => none
  | _ => none
def runL (ex : ExecT) : List ACode → Env → List Ob → Option (X × Env × List Ob)
  | [], e, H => some (.normal, e, H)
  | c :: r, e, H => match ex c e H with
    | some (.normal, e1, H1) => runL ex r e1 H1
    | some (.mayRet, _, _) => none
    | x => x
def runFn (p : AP) (ex : ExecT) (af : AFun) (args : List V) (H : List Ob) : Option (CR × List Ob) := match af.rcv with
  | some _ => none
  | none => match af.dfr with
    | none => finishF af (ex af.code (env0 args) H)
    | some (pre, l, clo, rest) => match runL ex pre (env0 args) H with
      | some (.normal, e1, H1) => match ex (.region l false) e1 H1 with
        | some (.normal, e2, H2) => deferF p ex af (evO e2 clo) (ex rest e2 H2)
        | r => finishF af r
      | r => finishF af r
def callW (p : AP) (ex : ExecT) : CallT := fun f args H =>
  if f = YF then roundW p ex args H else
  match p.prim f with
  | some g => (g args H).map fun x => (.ret x.1, x.2)
  | none => match p.fn f with
    | none => none
    | some af => runFn p ex af args H
def callE (p : AP) (ex : ExecT) : CallT := fun f args H =>
  if f = YF then none else
  match p.prim f with
  | some _ => none
  | none => match p.fn f with
    | none => none
    | some af => runFn p ex af args H
def endRange (id : Nat) (e : Env) : Option (CR × List Ob) → Option (X × Env × List Ob)
  | some (.ret _, H) => match H[id]? with
    | some (.loop _ _ _ .ready) => some (.normal, e, H.set id .dead)
    | some (.loop _ _ _ (.done (.exit i))) => some (.exit i, e, H.set id .dead)
    | some (.loop _ _ _ (.done .ret)) => some (.ret, e, H.set id .dead)
    | _ => none
  | _ => none
def obEq : Ob → Ob → Bool
  | .live a, .live b => veqL a b
  | .fixed a, .fixed b => veqL a b
  | .dead, .dead => true
  | .mlive a b, .mlive c d => veqL a c && veqL b d
  | .iter a i, .iter b j => a.data == b.data && i == j
  | _, _ => false
def obsEq : List Ob → List Ob → Bool
  | [], [] => true
  | a :: x, b :: y => obEq a b && obsEq x y
  | _, _ => false
def xEq : X → X → Bool
  | .normal, .normal => true
  | .exit i, .exit j => i == j
  | .ret, .ret => true
  | _, _ => false
def joinE (e1 e2 : Env) : Env := fun t => if veq (e1 t) (e2 t) = true then e1 t else .any
def joinR : Option (X × Env × List Ob) → Option (X × Env × List Ob) → Option (X × Env × List Ob)
  | some (x1, e1, H1), some (x2, e2, H2) => if obsEq H1 H2 = true then
      (if xEq x1 x2 = true then some (x1, joinE e1 e2, H1) else if (xEq x1 .ret && xEq x2 .normal || xEq x1 .normal && xEq x2 .ret) = true then some (.mayRet, joinE e1 e2, H1) else none) else none
  | _, _ => none
def exec (p : AP) : Nat → ExecT
  | 0, _, _, _ => none
  | n + 1, c, e, H => match c with
    | .skip => some (.normal, e, H)
    | .region ops d => if d then runDraw (callW p (exec p n)) p.inlY ops e H else runOps (callW p (exec p n)) p.inlY ops e H
    | .seq a b => match exec p n a e H with
      | some (.normal, e1, H1) => exec p n b e1 H1
      | some (.mayRet, e1, H1) => match exec p n b e1 H1 with
        | some (.ret, e2, H2) => if obsEq H1 H2 = true then some (.ret, joinE e1 e2, H1) else none
        | _ => none
      | r => r
    | .cond c a b => match evO e c with
      | .bool true => exec p n a e H
      | .bool false => exec p n b e H
      | .anyb => joinR (exec p n a e H) (exec p n b e H)
      | _ => none
    | .block id b => match exec p n b e H with
      | some (.exit i, e1, H1) => if i = id then some (.normal, e1, H1) else some (.exit i, e1, H1)
      | r => r
    | .loop b => match exec p n b e H with
      | some (.normal, e1, H1) => exec p n (.loop b) e1 H1
      | some (.mayRet, _, _) => none
      | r => r
    | .exit id => some (.exit id, e, H)
    | .ret => some (.ret, e, H)
    | .fix (some t) b => match freezeV depthF (e t) H with
      | some (v, H') => exec p n b (upd e t v) H'
      | none => none
    | .fix none b => match freezeObs 0 H H with
      | some H' => exec p n b e H'
      | none => none
    | .range k f _ _ _ => match p.body k, evO e f with
      | some b, .fn (.func g) first cap => endRange H.length e (doCall (callE p (exec p n)) (fun _ => true) g (first ++ [.yld H.length] ++ cap) (H ++ [.loop k b.keep (b.keep.map e) .ready]))
      | _, _ => none
def acall (p : AP) (n : Nat) : CallT := callW p (exec p n)
def ofVal : Nat → Value → Option V
  | 0, _ => none
  | d + 1, v => match v with
    | .bool b => some (.bool b)
    | .int k n => some (.int k n)
    | .float k b => some (.float k b)
    | .string s => some (.str s)
    | .pointer none => some .nilp
    | .slice none 0 0 => some (.list [] true)
    | .map none => some .nilmap
    | .nilFunc => some .nilfn
    | .nilIface => some .niliface
    | .agg cs => (mapOpt (ofVal d) cs.toList).map V.agg
    | .tuple cs => (mapOpt (ofVal d) cs.toList).map V.tuple
    | _ => none
def cOpd : Operand → Option Opd
  | .tmp t => some (.t t)
  | .const v => (ofVal 4 v).map Opd.c
  | .func f => some (.c (.fn (.func f) [] []))
  | .global g => some (.c (match globs g with | some l => .ref l | none => .any))
def tInfo (P : Program) (t : TypeId) : Option TypeInfo := P.info? t
def tAgg (P : Program) (t : TypeId) : Option Bool := match P.underlying t with
  | some (.struct _) => some true
  | some (.array _ _) => some true
  | some _ => some false
  | none => none
def tSize (P : Program) (t : TypeId) : Option Nat := (P.info? t).map (·.size)
def tZero (P : Program) (t : TypeId) : Option (List V) := ((P.info? t).bind (·.zero)).bind fun z => (ofVal 4 z).map cellsOf
def cEq (P : Program) (t : TypeId) : EqK := match P.underlying t with
  | some .bool => .bool
  | some (.pointer _) => .ptr
  | some (.func _ _ _) => .func
  | _ => .no
def cLeaf (P : Program) (t : TypeId) : Option LfK := match P.underlying t with
  | some .bool => some .bool
  | some (.int _) => some .int
  | some .string => some .str
  | _ => none
def cLeaves (P : Program) : List Field → Option (List (Nat × LfK))
  | [] => some []
  | f :: r => if f.name = "_" then none else match cLeaf P f.type, cLeaves P r with
    | some k, some l => some ((f.offset, k) :: l)
    | _, _ => none
def cBinY (P : Program) (b : Bool) (t : TypeId) (x y : Operand) : Option AOp := match P.underlying t with
  | some (.slice _) => match y with
    | .const (.slice none 0 0) => (cOpd x).map fun x => .pur (.isNil b) [x]
    | _ => none
  | some (.struct fs) => if P.stoodInHeld t || P.eqGuardType P.depth t then none else match cLeaves P fs.toList, cOpd x, cOpd y with
    | some l, some x, some y => some (.pur (.eqA b l) [x, y])
    | _, _, _ => none
  | some (.interface _) => match y with
    | .const .nilIface => (cOpd x).map fun x => .pur (.isNilI b) [x]
    | _ => none
  | some (.array n e) => if P.eqGuardType P.depth t then none else match cLeaf P e, tSize P e, cOpd x, cOpd y with
    | some k, some 1, some x, some y => some (.pur (.eqA b ((List.range n).map fun i => (i, k))) [x, y])
    | _, _, _, _ => none
  | _ => none
def cBinX (P : Program) (op : BinOp) (t : TypeId) (x y : Operand) : Option AOp := match op with
  | .eql => cBinY P true t x y
  | .neq => cBinY P false t x y
  | _ => none
def cParts (P : Program) (place : Nat → Option (Nat × Nat)) : List (Nat × Operand) → Option (List (Nat × Nat × Opd))
  | [] => some []
  | (i, x) :: r => match place i, cOpd x, cParts P place r with
    | some (off, n), some y, some l => some ((off, n, y) :: l)
    | _, _, _ => none
def cConv (P : Program) (src dst : TypeId) : Option CvK := match P.underlying src, P.underlying dst with
  | some (.int _), some (.int k) => some (.int k)
  | some .string, some .string => some .s2s
  | some (.int _), some (.float k) => some (.float k)
  | some (.float _), some (.int k) => some (.f2i k)
  | some (.int _), some .string => some .i2s
  | some (.slice e), some .string => match P.underlying e with
    | some (.int .u8) => some .b2s
    | _ => none
  | _, _ => none
def cConvB (P : Program) (src dst : TypeId) (x : Opd) : Option AOp := match P.underlying src, P.underlying dst with
  | some .string, some (.slice e) => match P.underlying e with
    | some (.int .u8) => some (.pur .s2b [x])
    | _ => none
  | some (.slice _), some (.slice e) => if src = dst then (match P.underlying e with
    | some (.int .u8) => some (.mem .mark [x])
    | _ => none) else none
  | _, _ => none
def cOOpd : Option Operand → Option (Option Opd)
  | none => some none
  | some x => (cOpd x).map some
def cKey (P : Program) (t : TypeId) : Option KyK := match P.underlying t with
  | some (.int _) => some .int
  | some .string => some .str
  | _ => none
def tOne (P : Program) (t : TypeId) : Option V := ((P.info? t).bind (·.zero)).bind (ofVal 4)
def cMapPut (P : Program) (t : TypeId) (m k x : Operand) : Option AOp := match P.underlying t, cOpd m, cOpd k, cOpd x with
  | some (.map kt _), some m, some k, some x => (cKey P kt).map fun kk => .mem (.mapPut kk) [m, k, x]
  | _, _, _, _ => none
def cOp (P : Program) (o : Oper) : Option AOp := match o.op with
  | .move x => (cOpd x).map AOp.mov
  | .assign x => (cOpd x).map AOp.mov
  | .pick c a b => match cOpd c, cOpd a, cOpd b with
    | some c, some a, some b => some (.pick c a b)
    | _, _, _ => none
  | .alloc t => (tZero P t).map AOp.alloc
  | .box _ x => (cOpd x).map AOp.box
  | .build t ps => match P.underlying t, tZero P t with
    | some (.struct fs), some z => (mapOpt (fun f => (tSize P f.type).map fun s => (f.offset, s)) fs.toList).bind fun pl => (cParts P (fun i => pl[i]?) ps.toList).map (AOp.build z)
    | some (.array _ e), some z => (tSize P e).bind fun s => (cParts P (fun i => some (i * s, s)) ps.toList).map (AOp.build z)
    | _, _ => none
  | .buildSlice t len ps => match P.underlying t with
    | some (.slice e) => match tSize P e, tZero P e with
      | some s, some z => if len * s ≤ 2 ^ 24 ∧ z.length = s ∧ s ≠ 0 then (cParts P (fun i => some (i * s, s)) ps.toList).map (AOp.buildSlice s len z) else none
      | _, _ => none
    | _ => none
  | .load t x => match tAgg P t, tSize P t, cOpd x with
    | some a, some n, some x => if a || n == 1 then some (.load a n x) else none
    | _, _, _ => none
  | .store t a x => match tSize P t, cOpd a, cOpd x with
    | some n, some a, some x => some (.store n a x)
    | _, _, _ => none
  | .nilCheck x => (cOpd x).map AOp.nilCheck
  | .binOp op t x y _ => match cBinX P op t x y with
    | some o => some o
    | none => match cOpd x, cOpd y with
      | some x, some y => some (.bin op (cEq P t) x y)
      | _, _ => none
  | .unOp op _ x => (cOpd x).map (AOp.un op)
  | .convert s d x => match cConv P s d, cOpd x with
    | some (.float k), some x => some (.pur (.i2f k) [x])
    | some (.f2i k), some x => some (.pur (.f2i k) [x])
    | some .i2s, some x => some (.pur .i2s [x])
    | some k, some x => some (.conv k x)
    | none, some x => cConvB P s d x
    | _, _ => none
  | .makeInterface t x => match P.underlying t with
    | some (.interface _) => none
    | none => none
    | _ => (cOpd x).map (AOp.makeIface t)
  | .makeFunc f first captured => match mapOpt cOpd first.toList, mapOpt cOpd captured.toList with
    | some a, some b => some (.makeFunc f a b)
    | _, _ => none
  | .makeSlice t l c => match P.underlying t with
    | some (.slice e) => match P.info? e, tZero P e, cOpd l, cOpd c with
      | some i, some z, some l, some c => some (.makeSlice i.size i.bytes z l c)
      | _, _, _, _ => none
    | _ => none
  | .slice t x lo hi mx => match cOpd x, cOOpd lo, cOOpd hi, cOOpd mx with
    | some x, some lo, some hi, some mx => match P.underlying t with
      | some .string => some (.slice .str x lo hi mx)
      | some (.slice e) => (tSize P e).bind fun n => if n = 0 then none else some (.slice (.sl n) x lo hi mx)
      | some (.array len e) => (tSize P e).bind fun n => if n = 0 then none else some (.slice (.arr len n) x lo hi mx)
      | some (.pointer arr) => match P.underlying arr with
        | some (.array len e) => (tSize P e).bind fun n => if n = 0 then none else some (.slice (.arr len n) x lo hi mx)
        | _ => none
      | _ => none
    | _, _, _, _ => none
  | .fieldAddr t x i => match P.underlying t, cOpd x with
    | some (.struct fs), some x => match fs[i]? with
      | some f => (tSize P f.type).bind fun s => if s = 0 then none else some (.fieldAddr f.offset x)
      | none => none
    | _, _ => none
  | .field t x i => match P.underlying t, cOpd x with
    | some (.struct fs), some x => match fs[i]? with
      | some f => match tAgg P f.type, tSize P f.type with
        | some a, some s => if a || s == 1 then some (.field a f.offset s x) else none
        | _, _ => none
      | none => none
    | _, _ => none
  | .indexAddr t x i => match P.underlying t, cOpd x, cOpd i with
    | some (.slice e), some x, some i => (tSize P e).bind fun n => if n = 0 then none else some (.indexSl n x i)
    | some (.array len e), some x, some i => (tSize P e).bind fun n => if n = 0 then none else some (.indexPA len n x i)
    | _, _, _ => none
  | .index t x i => match P.underlying t, cOpd x, cOpd i with
    | some .string, some x, some i => some (.indexStr x i)
    | some (.array len e), some x, some i => match tAgg P e, tSize P e with
      | some a, some n => if (a || n == 1) && n != 0 then some (.indexArr len n a x i) else none
      | _, _ => none
    | _, _, _ => none
  | .extract x i => (cOpd x).map (AOp.extract i)
  | .call { callee := .builtin .len, args, argTypes } => match args.toList, argTypes.toList with
    | [x], [t] => match P.underlying t, cOpd x with
      | some (.array n _), some _ => some (.lenC n)
      | some .string, some x => some (.lenS x)
      | some (.slice _), some x => some (.len x)
      | _, _ => none
    | _, _ => none
  | .call { callee := .builtin .cap, args, argTypes } => match args.toList, argTypes.toList with
    | [x], [t] => match P.underlying t, cOpd x with
      | some (.slice _), some x => some (.cap x)
      | _, _ => none
    | _, _ => none
  | .call { callee := .builtin .append, args, argTypes } => match args.toList, argTypes.toList with
    | [s, x], [t, u] => match P.underlying t, cOpd s, cOpd x with
      | some (.slice e), some s, some x => match P.info? e, P.underlying u with
        | some i, some (.int _) => (tZero P e).bind fun z => if i.size = 0 ∨ z.length ≠ i.size then none else some (.append i.size i.bytes (some z) s x)
        | some i, some _ => (tZero P e).bind fun z => if i.size = 0 ∨ z.length ≠ i.size then none else some (.append i.size i.bytes none s x)
        | _, _ => none
      | _, _, _ => none
    | _, _ => none
  | .call { callee := .builtin .copy, args, argTypes } => match args.toList, argTypes.toList with
    | [d, s], [t, _] => match P.underlying t, cOpd d, cOpd s with
      | some (.slice e), some d, some s => (tSize P e).bind fun n => if n = 0 then none else some (.copy n d s)
      | _, _, _ => none
    | _, _ => none
  | .call { callee := .builtin .clear, args, argTypes } => match args.toList, argTypes.toList with
    | [x], [t] => match P.underlying t, cOpd x with
      | some (.slice e), some x => match tSize P e, tZero P e with
        | some n, some z => if n = 0 ∨ z.length ≠ n then none else some (.clear z n x)
        | _, _ => none
      | _, _ => none
    | _, _ => none
  | .call { callee := .builtin .max, args, .. } => (mapOpt cOpd args.toList).map AOp.max
  | .call { callee := .builtin .min, args, .. } => (mapOpt cOpd args.toList).map AOp.min
  | .call { callee := .builtin .panic, args, .. } => match args.toList with
    | [x] => (cOpd x).map AOp.panic
    | _ => none
  | .call { callee := .value (.func f), args, .. } => if f = YF then none else (mapOpt cOpd args.toList).map (AOp.call f)
  | .call { callee := .value f, args, .. } => match cOpd f, mapOpt cOpd args.toList with
    | some f, some l => some (.callv f l)
    | _, _ => none
  | .panic x => (cOpd x).map AOp.panic
  | .makeMap t none => match P.underlying t with
    | some (.map _ _) => some (.mem .makeMap [])
    | _ => none
  | .makeMap t (some r) => match P.underlying t, cOpd r with
    | some (.map _ _), some r => some (.mem .makeMap [r])
    | _, _ => none
  | .insert t m k x => cMapPut P t m k x
  | .mapUpdate t m k x => cMapPut P t m k x
  | .lookup t m k ok => match P.underlying t, cOpd m, cOpd k with
    | some (.map kt et), some m, some k => match cKey P kt, tOne P et with
      | some kk, some z => some (.rd (.lookup kk z ok) [m, k])
      | _, _ => none
    | _, _, _ => none
  | .range t x => match P.underlying t, cOpd x with
    | some .string, some x => some (.mem .range [x])
    | _, _ => none
  | .next it true => (cOpd it).map fun x => .mem .next [x]
  | .typeAssert x _ t ok => match P.underlying t with
    | some (.interface _) => none
    | none => none
    | _ => match ok, cOpd x, tOne P t with
      | true, some x, some z => some (.pur (.assert t (some z)) [x])
      | false, some x, _ => some (.pur (.assert t none) [x])
      | _, _, _ => none
  | _ => none
def actsT (P : Program) (t : TypeId) : Bool := match P.underlying t with
  | some (.pointer _) => true
  | some (.func _ _ _) => true
  | _ => false
def retSl (P : Program) (f : FuncId) : Bool := match P.funcs[f]? with
  | some fn => fn.resultTypes.any fun t => match P.underlying t with | some (.slice _) => true | _ => false
  | none => false
def retS (P : Program) (f : FuncId) : Bool := retSl P f && (match P.funcs[f]? with
  | some fn => "slices.".isPrefixOf fn.name
  | none => false)
def arrT (P : Program) (ops : Array Oper) : Operand → Bool
  | .tmp t => ops.any fun o => o.dst == some t && (match o.op with
    | .slice u _ _ _ _ => (match P.underlying u with | some (.pointer _) => true | some (.array _ _) => true | _ => false)
    | _ => false)
  | _ => false
def lentC (P : Program) (ops : Array Oper) : Op → Bool
  | .call { callee := .value (.func f), args, .. } => args.any (arrT P ops) && retSl P f
  | _ => false
def actsOp (P : Program) : Op → Bool
  | .alloc _ | .box _ _ | .buildSlice _ _ _ | .store _ _ _ | .makeSlice _ _ _ | .makeMap _ _ | .insert _ _ _ _ | .mapUpdate _ _ _ _ | .range _ _ | .next _ _ => true
  | .call { callee := .builtin .append, .. } => true
  | .call { callee := .builtin .copy, .. } => true
  | .call { callee := .builtin .clear, .. } => true
  | .call { callee := .builtin _, .. } => false
  | .call { callee := .value (.func f), argTypes, .. } => argTypes.any (actsT P) || retS P f
  | .call _ => true
  | _ => false
def isCallV : Op → Bool
  | .call { callee := .value (.func _), .. } => false
  | .call { callee := .value _, .. } => true
  | _ => false
def manyV (ops : Array Oper) : Bool := decide (2 ≤ (ops.toList.filter fun o => isCallV o.op).length)
def cGuard (ops : Array Oper) : Option (Nat × Bool) → Option (Option (Nat × Bool))
  | none => some none
  | some (j, w) => match (ops[j]?).bind (·.dst) with
    | some d => some (some (d, w))
    | none => none
def cOper (P : Program) (ops : Array Oper) (o : Oper) : Option AO := match cOp P o, cGuard ops o.guard with
  | some op, some g => some { dst := o.dst, op, guard := g, after := (o.after.toList.filter (Region.binds .any)).map (·.on), eff := actsOp P o.op && !(isCallV o.op && manyV ops) || lentC P ops o.op }
  | _, _ => none
def lstO (o : Oper) (a : AO) : AO := match o.op, a.op with
  | .buildSlice _ _ _, .buildSlice n len z ps => { a with op := .pur (.lst n len z (ps.map fun p => (p.1, p.2.1))) (ps.map fun p => p.2.2), eff := false }
  | _, _ => a
def cOperL (P : Program) (ops : Array Oper) (o : Oper) : Option AO := (cOper P ops o).map (lstO o)
def cCode (P : Program) : Code → Option ACode
  | .skip => some .skip
  | .label _ => some .skip
  | .region _ ops true => if P.follows .mixedOrders then (mapOpt (cOperL P ops) ops.toList).map fun l => .region l true else none
  | .region _ ops false => (mapOpt (cOper P ops) ops.toList).map fun l => .region (l.map AO.bare) false
  | .seq a b => match cCode P a, cCode P b with
    | some x, some y => some (.seq x y)
    | _, _ => none
  | .cond c a b => match cOpd c, cCode P a, cCode P b with
    | some c, some x, some y => some (.cond c x y)
    | _, _, _ => none
  | .block id b => (cCode P b).map (ACode.block id)
  | .loop b => (cCode P b).map ACode.loop
  | .scope b => cCode P b
  | .exit id => some (.exit id)
  | .ret => some .ret
  | .rangeFunc f ps a b => match cOpd f, cCode P a, cCode P b with
    | some f, some x, some y => some (.range 0 f ps.toList x y)
    | _, _, _ => none
  | _ => none
def cRes (P : Program) : ResultVar → Option (Nat × Option (Bool × Nat))
  | .tmp t => some (t, none)
  | .cell a t => match tAgg P t, tSize P t with
    | some g, some n => if g || n == 1 then some (a, some (g, n)) else none
    | _, _ => none
def dstsOk (nt : Nat) : ACode → Bool
  | .region ops _ => ops.all fun o => match o.dst with | some d => decide (d < nt) | none => true
  | .seq a b => dstsOk nt a && dstsOk nt b
  | .cond _ a b => dstsOk nt a && dstsOk nt b
  | .block _ b => dstsOk nt b
  | .loop b => dstsOk nt b
  | .range _ _ ps a b => ps.all (fun t => decide (t < nt)) && dstsOk nt a && dstsOk nt b
  | _ => true
def splitD : Code → Option (List Code × Nat × Array Oper × Call × TypeId × Code)
  | .seq a rest => match splitD rest with
    | some (p, x) => some (a :: p, x)
    | none => match a with
      | .region id ops false => match ops.back? with
        | some { op := .defer c, guard := none, dst := none, type := ty, .. } => some ([], id, ops, c, ty, rest)
        | _ => none
      | _ => none
  | _ => none
def cTarget (c : Call) : Option Opd := match c.callee, c.args.toList with
  | .value (.func f), [] => some (.c (.fn (.func f) [] []))
  | .value x, [] => cOpd x
  | _, _ => none
def isRecover (o : Oper) : Option Nat := match o.op, o.guard, o.dst with
  | .call { callee := .builtin .recover, .. }, none, some t => some t
  | _, _, _ => none
def splitR : Code → Option (Nat × Code)
  | .seq (.region _ ops false) b => match ops.toList with
    | [o] => (isRecover o).map fun t => (t, b)
    | _ => none
  | _ => none
def cBare (P : Program) (ops : Array Oper) (l : List Oper) : Option (List AO) := (mapOpt (cOper P ops) l).map fun l => l.map AO.bare
def cFun (P : Program) (f : FuncId) : Option AFun := match P.funcs[f]? with
  | none => none
  | some fn => match fn.body with
    | none => none
    | some c => match mapOpt (cRes P) fn.results.toList with
      | none => none
      | some rs =>
        if fn.name == "runtime.NumGoroutine" || decide (fn.ntmps < fn.params.size + fn.nfree) then none else
        match cCode P c with
        | some code => if dstsOk fn.ntmps code then some { nt := fn.ntmps, results := rs, code } else none
        | none => match splitD c with
          | some (pre, _, ops, call, _, rest) => match mapOpt (cCode P) pre, cBare P ops ops.pop.toList, cTarget call, cCode P rest with
            | some pre, some reg, some clo, some rest =>
              if pre.all (dstsOk fn.ntmps) && dstsOk fn.ntmps (.region reg false) && dstsOk fn.ntmps rest then
                some { nt := fn.ntmps, results := rs, code := .skip, dfr := some (pre, reg, clo, rest) } else none
            | _, _, _, _ => none
          | none => match splitR c with
            | some (t, b) => match cCode P b with
              | some code => if dstsOk fn.ntmps code && decide (t < fn.ntmps) then some { nt := fn.ntmps, results := rs, code, rcv := some t } else none
              | none => none
            | none => none
def erase : ACode → ACode
  | .seq a b => .seq (erase a) (erase b)
  | .cond c a b => .cond c (erase a) (erase b)
  | .block i b => .block i (erase b)
  | .loop b => .loop (erase b)
  | .fix _ b => erase b
  | .range _ f ps a b => .range 0 f ps (erase a) (erase b)
  | c => c
def AFun.erase (a : AFun) : AFun := { a with code := Fz.erase a.code, dfr := a.dfr.map fun x => (x.1.map Fz.erase, x.2.1, x.2.2.1, Fz.erase x.2.2.2) }
end Fz
namespace Fz
open Go
def LeC (f g : CallT) : Prop := ∀ a b c r, f a b c = some r → g a b c = some r
def LeX (f g : ExecT) : Prop := ∀ a b c r, f a b c = some r → g a b c = some r
theorem doCall_mono {f g : CallT} (h : LeC f g) (inl : FuncId → Bool) : LeC (doCall f inl) (doCall g inl) := by
  intro a b H r hr
  unfold doCall at hr ⊢
  cases ha : (if inl a = true then some (b, H) else (mapS (freezeV depthF) b H).map fun x => (x.1.map nrm, x.2)) with
  | none => rw [ha] at hr; cases hr
  | some q =>
    rw [ha] at hr
    obtain ⟨args, H1⟩ := q
    dsimp only at hr ⊢
    cases hi : reach H1 1000 (refsL args) [] with
    | none => rw [hi] at hr; cases hr
    | some ids =>
      rw [hi] at hr
      dsimp only at hr ⊢
      cases hq : f a (renL (fun i => ids.idxOf i) args) (ids.map fun i => renOb (fun i => ids.idxOf i) (H1[i]?.getD .dead)) with
      | none => rw [hq] at hr; cases hr
      | some q =>
        rw [hq] at hr
        rw [h _ _ _ _ hq]
        exact hr
theorem runOps_mono {f g : CallT} (h : LeC f g) (inl : FuncId → Bool) (ops : List AO) (e : Env) (H : List Ob) (r : X × Env × List Ob)
    (hr : runOps f inl ops e H = some r) : runOps g inl ops e H = some r := by
  induction ops generalizing e H with
  | nil => exact hr
  | cons o t ih =>
    have go : ∀ (hh : (match evOp (evO e) H o.op with
      | none => none
      | some (.val v H') => runOps f inl t (putE e o.dst v) H'
      | some (.skip H') => runOps f inl t (putE e o.dst uv) H'
      | some (.panic v H') => some (.panic v, e, H')
      | some (.call k args) => match doCall f inl k args H with
        | none => none
        | some (.ret v, H') => runOps f inl t (putE e o.dst v) H'
        | some (.panic v, H') => some (.panic v, e, H')) = some r),
      (match evOp (evO e) H o.op with
      | none => none
      | some (.val v H') => runOps g inl t (putE e o.dst v) H'
      | some (.skip H') => runOps g inl t (putE e o.dst uv) H'
      | some (.panic v H') => some (.panic v, e, H')
      | some (.call k args) => match doCall g inl k args H with
        | none => none
        | some (.ret v, H') => runOps g inl t (putE e o.dst v) H'
        | some (.panic v, H') => some (.panic v, e, H')) = some r := by
      intro hh
      cases hv : evOp (evO e) H o.op with
      | none => rw [hv] at hh; cases hh
      | some q =>
        rw [hv] at hh
        cases q with
        | val v H' => exact ih _ _ hh
        | skip H' => exact ih _ _ hh
        | panic v H' => exact hh
        | call k args =>
          dsimp only at hh ⊢
          cases hd : doCall f inl k args H with
          | none => rw [hd] at hh; cases hh
          | some q =>
            rw [hd] at hh
            rw [doCall_mono h inl _ _ _ _ hd]
            obtain ⟨c, H'⟩ := q
            cases c with
            | ret v => exact ih _ _ hh
            | panic v => exact hh
    unfold runOps at hr ⊢
    dsimp only at hr ⊢
    cases hg : o.guard with
    | none => rw [hg] at hr; exact go hr
    | some tw =>
      rw [hg] at hr
      obtain ⟨t', w⟩ := tw
      dsimp only at hr ⊢
      cases he : e t' with
      | bool b =>
        simp only [he] at hr ⊢
        by_cases hb : b = w
        · simp only [hb, if_true] at hr ⊢; exact go hr
        · simp only [hb, if_false] at hr ⊢; exact ih _ _ hr
      | tuple l =>
        simp only [he] at hr ⊢
        cases l with
        | nil => exact ih _ _ hr
        | cons _ _ => cases hr
      | _ => simp only [he] at hr; cases hr
theorem quietOp_mono {f g : CallT} (h : LeC f g) (inl : FuncId → Bool) (e : Env) (H : List Ob) (o : AO) (v : V)
    (hr : quietOp f inl e H o = some v) : quietOp g inl e H o = some v := by
  have go : ∀ (hh : (match evOp (evO e) H o.op with
    | some (.val v _) => if pureOp o.op then some v else none
    | some (.call k args) => match mapOpt (lendV H depthF) args with
      | some l => if groundL l then (match doCall f inl k l [] with
        | some (.ret v, []) => if ground v && (listFree v || groundL args) then some v else none
        | _ => none) else none
      | none => none
    | _ => none) = some v), (match evOp (evO e) H o.op with
    | some (.val v _) => if pureOp o.op then some v else none
    | some (.call k args) => match mapOpt (lendV H depthF) args with
      | some l => if groundL l then (match doCall g inl k l [] with
        | some (.ret v, []) => if ground v && (listFree v || groundL args) then some v else none
        | _ => none) else none
      | none => none
    | _ => none) = some v := by
    intro hh
    cases hv : evOp (evO e) H o.op with
    | none => rw [hv] at hh; cases hh
    | some q =>
      rw [hv] at hh
      cases q with
      | val v H' => exact hh
      | skip H' => exact hh
      | panic v H' => exact hh
      | call k args =>
        dsimp only at hh ⊢
        cases hl : mapOpt (lendV H depthF) args with
        | none => rw [hl] at hh; cases hh
        | some l =>
          rw [hl] at hh
          dsimp only at hh ⊢
          by_cases hgr : groundL l = true
          · simp only [hgr, if_true] at hh ⊢
            cases hd : doCall f inl k l [] with
            | none => rw [hd] at hh; cases hh
            | some q => rw [hd] at hh; rw [doCall_mono h inl _ _ _ _ hd]; exact hh
          · simp only [hgr] at hh; cases hh
  unfold quietOp at hr ⊢
  dsimp only at hr ⊢
  cases hg : o.guard with
  | none => rw [hg] at hr; exact go hr
  | some tw =>
    rw [hg] at hr
    obtain ⟨t', w⟩ := tw
    dsimp only at hr ⊢
    cases he : e t' with
    | bool b =>
      simp only [he] at hr ⊢
      by_cases hb : b = w
      · simp only [hb, if_true] at hr ⊢; exact go hr
      · simp only [hb, if_false] at hr ⊢; exact hr
    | tuple l =>
      simp only [he] at hr ⊢
      cases l with
      | nil => exact hr
      | cons _ _ => cases hr
    | _ => simp only [he] at hr; cases hr
theorem effOp_mono {f g : CallT} (h : LeC f g) (inl : FuncId → Bool) (e : Env) (H : List Ob) (o : AO) (v : V × List Ob)
    (hr : effOp f inl e H o = some v) : effOp g inl e H o = some v := by
  have go : ∀ (hh : (match evOp (evO e) H o.op with
    | some (.val v H') => some (v, H')
    | some (.skip H') => some (uv, H')
    | some (.call k args) => match doCall f inl k args H with
      | some (.ret v, H') => some (v, H')
      | _ => none
    | _ => none) = some v), (match evOp (evO e) H o.op with
    | some (.val v H') => some (v, H')
    | some (.skip H') => some (uv, H')
    | some (.call k args) => match doCall g inl k args H with
      | some (.ret v, H') => some (v, H')
      | _ => none
    | _ => none) = some v := by
    intro hh
    cases hv : evOp (evO e) H o.op with
    | none => rw [hv] at hh; cases hh
    | some q =>
      rw [hv] at hh
      cases q with
      | val v H' => exact hh
      | skip H' => exact hh
      | panic v H' => exact hh
      | call k args =>
        dsimp only at hh ⊢
        cases hd : doCall f inl k args H with
        | none => rw [hd] at hh; cases hh
        | some q => rw [hd] at hh; rw [doCall_mono h inl _ _ _ _ hd]; exact hh
  unfold effOp at hr ⊢
  dsimp only at hr ⊢
  cases hg : o.guard with
  | none => rw [hg] at hr; exact go hr
  | some tw =>
    rw [hg] at hr
    obtain ⟨t', w⟩ := tw
    dsimp only at hr ⊢
    cases he : e t' with
    | bool b =>
      simp only [he] at hr ⊢
      by_cases hb : b = w
      · simp only [hb, if_true] at hr ⊢; exact go hr
      · simp only [hb, if_false] at hr ⊢; exact hr
    | tuple l =>
      simp only [he] at hr ⊢
      cases l with
      | nil => exact hr
      | cons _ _ => cases hr
    | _ => simp only [he] at hr; cases hr
theorem trace_mono {f g : CallT} (h : LeC f g) (inl : FuncId → Bool) (ops : List AO) (e : Env) (hs : List (List Ob)) (r)
    (hr : trace f inl ops e hs = some r) : trace g inl ops e hs = some r := by
  induction ops generalizing e hs r with
  | nil => exact hr
  | cons o t ih =>
    unfold trace at hr ⊢
    cases hl : hs.getLast? with
    | none => rw [hl] at hr; cases hr
    | some H =>
      rw [hl] at hr
      dsimp only at hr ⊢
      by_cases ho : o.eff = true
      · simp only [ho, if_true] at hr ⊢
        cases hv : effOp f inl e H o with
        | none => rw [hv] at hr; cases hr
        | some q =>
          rw [hv] at hr
          rw [effOp_mono h inl _ _ _ _ hv]
          dsimp only at hr ⊢
          cases ht : trace f inl t (putE e o.dst q.1) (hs ++ [q.2]) with
          | none => rw [ht] at hr; cases hr
          | some x => rw [ht] at hr; rw [ih _ _ _ ht]; exact hr
      · simp only [ho] at hr ⊢
        cases hv : quietOp f inl e H o with
        | none => rw [hv] at hr; cases hr
        | some q =>
          rw [hv] at hr
          rw [quietOp_mono h inl _ _ _ _ hv]
          dsimp only at hr ⊢
          cases ht : trace f inl t (putE e o.dst q) hs with
          | none => rw [ht] at hr; cases hr
          | some x => rw [ht] at hr; rw [ih _ _ _ ht]; exact hr
theorem steady_mono {f g : CallT} (h : LeC f g) (inl : FuncId → Bool) (e : Env) (v : V) (o : AO) (hs : List (List Ob))
    (hr : steady f inl e v o hs = true) : steady g inl e v o hs = true := by
  induction hs with
  | nil => rfl
  | cons H t ih =>
    unfold steady at hr ⊢
    rw [Bool.and_eq_true] at hr ⊢
    refine ⟨?_, ih hr.2⟩
    cases hv : quietOp f inl e H o with
    | none => rw [hv] at hr; simp at hr
    | some u => rw [hv] at hr; rw [quietOp_mono h inl _ _ _ _ hv]; exact hr.1
theorem steadyAll_mono {f g : CallT} (h : LeC f g) (inl : FuncId → Bool) (ops : List AO) (an : List (List Nat)) (hs : List (List Ob))
    (l : List (AO × Nat)) (t : List (Env × Nat × V))
    (hr : steadyAll f inl ops an hs l t = true) : steadyAll g inl ops an hs l t = true := by
  induction l generalizing t with
  | nil => cases t with
    | nil => rfl
    | cons _ _ => cases hr
  | cons q l ih =>
    obtain ⟨o, j⟩ := q
    cases t with
    | nil => cases hr
    | cons q t =>
      obtain ⟨e, k, v⟩ := q
      unfold steadyAll at hr ⊢
      rw [Bool.and_eq_true] at hr ⊢
      refine ⟨?_, ih _ hr.2⟩
      rw [Bool.or_eq_true] at hr ⊢
      exact hr.1.imp id (steady_mono h inl _ _ _ _)
theorem runDrawN_mono {f g : CallT} (h : LeC f g) (inl : FuncId → Bool) (ops : List AO) (e : Env) (H : List Ob) (r)
    (hr : runDrawN f inl ops e H = some r) : runDrawN g inl ops e H = some r := by
  unfold runDrawN at hr ⊢
  cases ht : trace f inl ops e [H] with
  | none => rw [ht] at hr; cases hr
  | some q =>
    rw [ht] at hr
    rw [trace_mono h inl _ _ _ _ ht]
    obtain ⟨t, hs, e'⟩ := q
    dsimp only at hr ⊢
    split at hr
    · rename_i hc
      rw [Bool.and_eq_true] at hc
      rw [if_pos (by rw [Bool.and_eq_true]; exact ⟨hc.1, steadyAll_mono h inl _ _ _ _ _ hc.2⟩)]
      exact hr
    · cases hr
theorem effPan_mono {f g : CallT} (h : LeC f g) (inl : FuncId → Bool) (e : Env) (H : List Ob) (o : AO) (r)
    (hr : effPan f inl e H o = some r) : effPan g inl e H o = some r := by
  unfold effPan at hr ⊢
  cases hg : o.guard.isSome with
  | true => rw [hg] at hr; simp at hr
  | false =>
    rw [hg] at hr
    simp only [Bool.false_eq_true, if_false] at hr ⊢
    cases hv : evOp (evO e) H o.op with
    | none => rw [hv] at hr; cases hr
    | some x =>
      rw [hv] at hr
      cases x with
      | call fn args =>
        dsimp only at hr ⊢
        cases hd : doCall f inl fn args H with
        | none => rw [hd] at hr; cases hr
        | some y => rw [hd] at hr; rw [doCall_mono h inl _ _ _ _ hd]; exact hr
      | _ => exact hr
theorem effPan_no {f : CallT} {inl : FuncId → Bool} {e : Env} {H : List Ob} {o : AO} {r} (hr : effPan f inl e H o = some r) : effOp f inl e H o = none := by
  unfold effPan at hr
  unfold effOp
  cases hg : o.guard with
  | some tw => rw [hg] at hr; simp at hr
  | none =>
    rw [hg] at hr
    simp only [Option.isSome_none, Bool.false_eq_true, if_false] at hr ⊢
    cases hv : evOp (evO e) H o.op with
    | none => rfl
    | some x =>
      rw [hv] at hr
      cases x with
      | call fn args =>
        dsimp only at hr ⊢
        cases hd : doCall f inl fn args H with
        | none => rfl
        | some y =>
          rw [hd] at hr
          obtain ⟨c, H'⟩ := y
          cases c with
          | ret v => cases hr
          | panic v => rfl
      | panic v H' => rfl
      | _ => cases hr
theorem panAt_mono {f g : CallT} (h : LeC f g) (inl : FuncId → Bool) : ∀ (ops : List AO) (e : Env) (H : List Ob) (q : Nat), panAt f inl ops e H = some q → panAt g inl ops e H = some q ∧ ∀ hs : List (List Ob), hs.getLast? = some H → trace g inl ops e hs = none
  | [], _, _, _, hr => by cases hr
  | o :: r, e, H, q, hr => by
    unfold panAt at hr ⊢
    by_cases ho : o.eff = true
    · simp only [ho, if_true] at hr ⊢
      cases hv : effOp f inl e H o with
      | some x =>
        obtain ⟨v, H'⟩ := x
        rw [hv] at hr
        rw [effOp_mono h inl _ _ _ _ hv]
        dsimp only at hr ⊢
        obtain ⟨k, h1, h2⟩ := Option.map_eq_some_iff.1 hr
        obtain ⟨h3, h4⟩ := panAt_mono h inl r _ _ k h1
        refine ⟨by rw [h3]; simpa using h2, fun hs hl => ?_⟩
        unfold trace
        rw [hl]
        simp only [ho, if_true]
        rw [effOp_mono h inl _ _ _ _ hv]
        dsimp only
        rw [h4 _ (by simp)]
        rfl
      | none =>
        rw [hv] at hr
        dsimp only at hr
        cases hp : effPan f inl e H o with
        | none => rw [hp] at hr; cases hr
        | some y =>
          rw [hp] at hr
          have hp' := effPan_mono h inl _ _ _ _ hp
          have hn := effPan_no hp'
          rw [hn, hp']
          refine ⟨hr, fun hs hl => ?_⟩
          unfold trace
          rw [hl]
          simp only [ho, if_true]
          rw [hn]
    · simp only [ho] at hr ⊢
      cases hv : quietOp f inl e H o with
      | none => rw [hv] at hr; cases hr
      | some v =>
        rw [hv] at hr
        rw [quietOp_mono h inl _ _ _ _ hv]
        dsimp only at hr ⊢
        obtain ⟨k, h1, h2⟩ := Option.map_eq_some_iff.1 hr
        obtain ⟨h3, h4⟩ := panAt_mono h inl r _ _ k h1
        refine ⟨by rw [h3]; simpa using h2, fun hs hl => ?_⟩
        unfold trace
        rw [hl]
        simp only [ho]
        rw [quietOp_mono h inl _ _ _ _ hv]
        dsimp only
        rw [h4 _ hl]
        rfl
theorem runPan_mono {f g : CallT} (h : LeC f g) (inl : FuncId → Bool) (ops : List AO) (e : Env) (H : List Ob) (q : Nat) (r)
    (hr : runPan f inl ops e H q = some r) : runPan g inl ops e H q = some r := by
  unfold runPan at hr ⊢
  cases ht : trace f inl (ops.take q) e [H] with
  | none => rw [ht] at hr; cases hr
  | some x =>
    rw [ht] at hr
    rw [trace_mono h inl _ _ _ _ ht]
    obtain ⟨t, hs, e'⟩ := x
    dsimp only at hr ⊢
    split at hr
    · rename_i Hl o h1 h2
      cases hp : effPan f inl e' Hl o with
      | none => rw [hp] at hr; cases hr
      | some y =>
        rw [hp] at hr
        rw [effPan_mono h inl _ _ _ _ hp]
        dsimp only at hr ⊢
        split at hr
        · rename_i hc
          rw [Bool.and_eq_true] at hc
          rw [if_pos (by rw [Bool.and_eq_true]; exact ⟨hc.1, steadyAll_mono h inl _ _ _ _ _ hc.2⟩)]
          exact hr
        · cases hr
    · cases hr
theorem runDraw_mono {f g : CallT} (h : LeC f g) (inl : FuncId → Bool) (ops : List AO) (e : Env) (H : List Ob) (r)
    (hr : runDraw f inl ops e H = some r) : runDraw g inl ops e H = some r := by
  unfold runDraw at hr ⊢
  cases hn : runDrawN f inl ops e H with
  | some x => rw [hn] at hr; rw [runDrawN_mono h inl _ _ _ _ hn]; exact hr
  | none =>
    rw [hn] at hr
    dsimp only at hr
    cases hp : panAt f inl ops e H with
    | none => rw [hp] at hr; cases hr
    | some q =>
      rw [hp] at hr
      obtain ⟨h1, h2⟩ := panAt_mono h inl _ _ _ _ hp
      have : runDrawN g inl ops e H = none := by
        unfold runDrawN
        rw [h2 [H] rfl]
      rw [this, h1]
      exact runPan_mono h inl _ _ _ _ _ hr
theorem runL_mono {f g : ExecT} (h : LeX f g) : ∀ (l : List ACode) (e : Env) (H : List Ob) (r), runL f l e H = some r → runL g l e H = some r
  | [], _, _, _, hr => hr
  | c :: l, e, H, r, hr => by
    simp only [runL] at hr ⊢
    cases hx : f c e H with
    | none => rw [hx] at hr; cases hr
    | some q =>
      rw [hx] at hr
      rw [h _ _ _ _ hx]
      obtain ⟨x, e1, H1⟩ := q
      cases x with
      | normal => exact runL_mono h l _ _ _ hr
      | _ => exact hr
theorem callR_mono {f g : ExecT} (h : LeX f g) (p : AP) {d : V} {pv : Option V} {H : List Ob} {r} (hr : callR p f d pv H = some r) : callR p g d pv H = some r := by
  unfold callR at hr ⊢
  split at hr
  case h_2 => cases hr
  rename_i k first cap
  by_cases hk : k = YF
  · simp only [hk, if_true] at hr; cases hr
  simp only [hk, if_false] at hr ⊢
  cases hp : p.prim k with
  | some q => rw [hp] at hr; simp at hr
  | none =>
    cases hf : p.fn k with
    | none => rw [hp, hf] at hr; cases hr
    | some af =>
      rw [hp, hf] at hr
      dsimp only at hr ⊢
      cases hd : af.dfr with
      | some q => rw [hd] at hr; simp at hr
      | none =>
        cases hR : hasR af.code with
        | true => rw [hd, hR] at hr; cases hr
        | false =>
          rw [hd, hR] at hr
          dsimp only at hr ⊢
          cases hc : af.rcv with
          | none =>
            rw [hc] at hr
            dsimp only at hr ⊢
            cases hx : f af.code (env0 (first ++ cap)) H with
            | none => rw [hx] at hr; cases hr
            | some q => rw [hx] at hr; rw [h _ _ _ _ hx]; exact hr
          | some t =>
            rw [hc] at hr
            dsimp only at hr ⊢
            cases hx : f af.code (upd (env0 (first ++ cap)) t (pv.getD .niliface)) H with
            | none => rw [hx] at hr; cases hr
            | some q => rw [hx] at hr; rw [h _ _ _ _ hx]; exact hr
theorem deferF_mono {f g : ExecT} (h : LeX f g) (p : AP) {af : AFun} {d : V} {y : Option (X × Env × List Ob)} {r} (hr : deferF p f af d y = some r) : deferF p g af d y = some r := by
  cases y with
  | none => cases hr
  | some y =>
    obtain ⟨x, e, H⟩ := y
    have one : ∀ pv, callR p f d pv H ≠ none → callR p g d pv H = callR p f d pv H := by
      intro pv hne
      cases hc : callR p f d pv H with
      | none => exact absurd hc hne
      | some q => exact callR_mono h p hc
    cases x with
    | exit i => cases hr
    | mayRet => cases hr
    | normal =>
      simp only [deferF] at hr ⊢
      rw [one none (by intro hn; rw [hn] at hr; cases hr)]; exact hr
    | ret =>
      simp only [deferF] at hr ⊢
      rw [one none (by intro hn; rw [hn] at hr; cases hr)]; exact hr
    | panic v =>
      simp only [deferF] at hr ⊢
      rw [one (some v) (by intro hn; rw [hn] at hr; cases hr)]; exact hr
theorem runFn_mono {f g : ExecT} (h : LeX f g) (p : AP) (af : AFun) (args : List V) (H : List Ob) (r) (hr : runFn p f af args H = some r) : runFn p g af args H = some r := by
  unfold runFn at hr ⊢
  cases hc : af.rcv with
  | some t => rw [hc] at hr; cases hr
  | none =>
    rw [hc] at hr
    dsimp only at hr ⊢
    cases hd : af.dfr with
    | none =>
      rw [hd] at hr
      dsimp only at hr ⊢
      cases hx : f af.code (env0 args) H with
      | none => rw [hx] at hr; cases hr
      | some q => rw [hx] at hr; rw [h _ _ _ _ hx]; exact hr
    | some q =>
      obtain ⟨pre, l, clo, rest⟩ := q
      rw [hd] at hr
      dsimp only at hr ⊢
      cases hx : runL f pre (env0 args) H with
      | none => rw [hx] at hr; cases hr
      | some q =>
        rw [hx] at hr
        rw [runL_mono h _ _ _ _ hx]
        obtain ⟨x, e1, H1⟩ := q
        cases x with
        | normal =>
          dsimp only at hr ⊢
          cases hy : f (.region l false) e1 H1 with
          | none => rw [hy] at hr; cases hr
          | some q =>
            rw [hy] at hr
            rw [h _ _ _ _ hy]
            obtain ⟨x, e2, H2⟩ := q
            cases x with
            | normal =>
              dsimp only at hr ⊢
              cases hz : f rest e2 H2 with
              | none => rw [hz] at hr; cases hr
              | some q => rw [hz] at hr; rw [h _ _ _ _ hz]; exact deferF_mono h p hr
            | _ => exact hr
        | _ => exact hr
theorem roundW_mono {f g : ExecT} (h : LeX f g) (p : AP) (args : List V) (H : List Ob) (r) (hr : roundW p f args H = some r) : roundW p g args H = some r := by
  unfold roundW at hr ⊢
  split at hr
  case h_2 => cases hr
  rename_i id rest
  split at hr
  case h_2 => cases hr
  rename_i k ts l ho
  split at hr
  case h_2 => cases hr
  rename_i b hb
  split at hr
  case isFalse => cases hr
  rename_i hl
  split at hr
  case h_2 => cases hr
  rename_i e1 H1 hx
  split at hr
  case h_2 => cases hr
  rename_i k1 ts1 l1 ho1
  split at hr
  case h_2 => cases hr
  rename_i x e2 H2 hy
  rw [if_pos hl, h _ _ _ _ hx]
  simp only [ho1]
  rw [h _ _ _ _ hy]
  exact hr
theorem callW_mono {f g : ExecT} (h : LeX f g) (p : AP) : LeC (callW p f) (callW p g) := by
  intro a b H r hr
  unfold callW at hr ⊢
  by_cases ha : a = YF
  · simp only [ha, if_true] at hr ⊢; exact roundW_mono h p _ _ _ hr
  simp only [ha, if_false] at hr ⊢
  cases hp : p.prim a with
  | some q => rw [hp] at hr; exact hr
  | none =>
    rw [hp] at hr
    dsimp only at hr ⊢
    cases hf : p.fn a with
    | none => rw [hf] at hr; cases hr
    | some af => rw [hf] at hr; exact runFn_mono h p af _ _ _ hr
theorem callE_mono {f g : ExecT} (h : LeX f g) (p : AP) : LeC (callE p f) (callE p g) := by
  intro a b H r hr
  unfold callE at hr ⊢
  by_cases ha : a = YF
  · simp only [ha, if_true] at hr; cases hr
  simp only [ha, if_false] at hr ⊢
  cases hp : p.prim a with
  | some q => rw [hp] at hr; cases hr
  | none =>
    rw [hp] at hr
    dsimp only at hr ⊢
    cases hf : p.fn a with
    | none => rw [hf] at hr; cases hr
    | some af => rw [hf] at hr; exact runFn_mono h p af _ _ _ hr
theorem exec_succ (p : AP) (n : Nat) : LeX (exec p n) (exec p (n + 1)) := by
  induction n with
  | zero => intro c e H r hr; cases hr
  | succ n ih =>
    intro c e H r hr
    cases c with
    | skip => exact hr
    | exit id => exact hr
    | ret => exact hr
    | region ops d =>
      unfold exec at hr ⊢
      cases d with
      | true => exact runDraw_mono (callW_mono ih p) _ _ _ _ _ hr
      | false => exact runOps_mono (callW_mono ih p) _ _ _ _ _ hr
    | seq a b =>
      rw [exec] at hr
      rw [exec]
      cases hx : exec p n a e H with
      | none => rw [hx] at hr; cases hr
      | some q =>
        rw [hx] at hr
        rw [ih _ _ _ _ hx]
        obtain ⟨x, e1, H1⟩ := q
        cases x with
        | normal => exact ih _ _ _ _ hr
        | mayRet =>
          dsimp only at hr ⊢
          cases hy : exec p n b e1 H1 with
          | none => rw [hy] at hr; cases hr
          | some q => rw [hy] at hr; rw [ih _ _ _ _ hy]; exact hr
        | _ => exact hr
    | cond c a b =>
      rw [exec] at hr
      rw [exec]
      cases hc : evO e c with
      | bool t =>
        rw [hc] at hr
        cases t with
        | true => exact ih _ _ _ _ hr
        | false => exact ih _ _ _ _ hr
      | anyb =>
        rw [hc] at hr
        dsimp only at hr ⊢
        cases h1 : exec p n a e H with
        | none => rw [h1] at hr; cases hr
        | some q =>
          cases h2 : exec p n b e H with
          | none => rw [h1, h2] at hr; cases hr
          | some q' => rw [h1, h2] at hr; rw [ih _ _ _ _ h1, ih _ _ _ _ h2]; exact hr
      | _ => rw [hc] at hr; cases hr
    | block id b =>
      rw [exec] at hr
      rw [exec]
      cases hx : exec p n b e H with
      | none => rw [hx] at hr; cases hr
      | some q => rw [hx] at hr; rw [ih _ _ _ _ hx]; exact hr
    | fix t b =>
      cases t with
      | some t =>
        rw [exec] at hr
        rw [exec]
        cases hf : freezeV depthF (e t) H with
        | none => rw [hf] at hr; cases hr
        | some q => rw [hf] at hr; exact ih _ _ _ _ hr
      | none =>
        rw [exec] at hr
        rw [exec]
        cases hf : freezeObs 0 H H with
        | none => rw [hf] at hr; cases hr
        | some q => rw [hf] at hr; exact ih _ _ _ _ hr
    | loop b =>
      rw [exec] at hr
      rw [exec]
      cases hx : exec p n b e H with
      | none => rw [hx] at hr; cases hr
      | some q =>
        rw [hx] at hr
        rw [ih _ _ _ _ hx]
        obtain ⟨x, e1, H1⟩ := q
        cases x with
        | normal => exact ih _ _ _ _ hr
        | _ => exact hr
    | range k f ps a b =>
      rw [exec] at hr
      rw [exec]
      split at hr
      · rename_i ab gf first cap hb hf
        cases hd : doCall (callE p (exec p n)) (fun _ => true) gf (first ++ [.yld H.length] ++ cap) (H ++ [.loop k ab.keep (ab.keep.map e) .ready]) with
        | none => rw [hd] at hr; cases hr
        | some q => rw [hd] at hr; rw [doCall_mono (callE_mono ih p) _ _ _ _ _ hd]; exact hr
      · cases hr
theorem exec_le (p : AP) {n m : Nat} (h : n ≤ m) : LeX (exec p n) (exec p m) := by
  induction h with
  | refl => intro a b c r hr; exact hr
  | step _ ih => intro a b c r hr; exact exec_succ p _ _ _ _ _ (ih _ _ _ _ hr)
theorem acall_le (p : AP) {n m : Nat} (h : n ≤ m) : LeC (acall p n) (acall p m) := callW_mono (exec_le p h) p
end Fz
namespace Fz
open Go
theorem refsL_eq (l : List V) : refsL l = l.flatMap refs := by
  induction l with
  | nil => rfl
  | cons v l ih => simp [refsL, ih]
theorem renL_eq (g : Nat → Nat) (l : List V) : renL g l = l.map (ren g) := by
  induction l with
  | nil => rfl
  | cons v l ih => simp [renL, ih]
theorem groundL_eq (l : List V) : groundL l = l.all ground := by
  induction l with
  | nil => rfl
  | cons v l ih => simp [groundL, ih]
theorem cellsOf_ren (g : Nat → Nat) (v : V) : cellsOf (ren g v) = (cellsOf v).map (ren g) := by
  cases v <;> simp [cellsOf, ren, renL_eq]
theorem flat_ren (g : Nat → Nat) (l : List V) : flat (l.map (ren g)) = (flat l).map (ren g) := by
  simp only [flat, List.flatMap_map, List.map_flatMap]
  congr 1; funext v; exact cellsOf_ren g v
theorem refs_cell {v c : V} (h : c ∈ cellsOf v) : ∀ i ∈ refs c, i ∈ refs v := by
  intro i hi
  cases v <;> simp [cellsOf] at h <;> first
    | (subst h; exact hi)
    | (simp only [refs, refsL_eq, List.mem_flatMap]; exact ⟨c, h, hi⟩)
theorem refs_flat {l : List V} {c : V} (h : c ∈ flat l) : ∀ i ∈ refs c, i ∈ refsL l := by
  intro i hi
  simp only [flat, List.mem_flatMap] at h
  obtain ⟨v, hv, hc⟩ := h
  rw [refsL_eq]
  exact List.mem_flatMap.2 ⟨v, hv, refs_cell hc i hi⟩
def GlobF (fixed : Nat → Option Obj) : Prop := ∀ g l, globs g = some l → ∃ cs e fr, fixed g = some (.cells cs e fr) ∧ l.length ≤ cs.size ∧ ∀ i v, l[i]? = some v → ∃ k n, v = .int k n ∧ cs.getD i Go.undef = .int k n
structure Kn where
  fixed : Nat → Option Obj
  size : Nat → Option Nat
  lp : Nat → Loop → Prop
  gl : GlobF fixed
def Kn.le (K K' : Kn) : Prop := (∀ b o, K.fixed b = some o → K'.fixed b = some o) ∧ (∀ b n, K.size b = some n → K'.size b = some n) ∧ K'.lp = K.lp
theorem Kn.le_refl (K : Kn) : K.le K := ⟨fun _ _ h => h, fun _ _ h => h, rfl⟩
theorem Kn.le_trans {A B C : Kn} (h : A.le B) (k : B.le C) : A.le C := ⟨fun b o x => k.1 b o (h.1 b o x), fun b o x => k.2.1 b o (h.2.1 b o x), k.2.2.trans h.2.2⟩
abbrev Bi := Nat → Option Nat
def isNaNbits (k : FloatKind) (b : Nat) : Prop := ∃ t, b = (Question.nanBits k 0 0).cut t
inductive VR (K : Kn) (β : Bi) : V → Value → Prop
  | bool (b : Bool) : VR K β (.bool b) (.bool b)
  | int (k : IntKind) (n : Int) : VR K β (.int k n) (.int k n)
  | float (k : FloatKind) (b : Nat) : VR K β (.float k b) (.float k b)
  | fnan (k : FloatKind) (b : Nat) (h : isNaNbits k b) : VR K β (.fnan k) (.float k b)
  | str (s : ByteArray) : VR K β (.str s) (.string s)
  | nilp : VR K β .nilp (.pointer none)
  | ptr {id b off : Nat} (h : β id = some b) : VR K β (.ptr id off) (.pointer (some ⟨b, off, none⟩))
  | ref {l : List V} {b o : Nat} {cs : Array Value} {e : TypeId} {fr : Nat × Nat} (hb : K.fixed b = some (.cells cs e fr)) (hl : o + l.length ≤ cs.size)
      (h : ∀ i v, l[i]? = some v → VR K β v (cs.getD (o + i) Go.undef)) : VR K β (.ref l) (.pointer (some ⟨b, o, none⟩))
  | lnil {c : Bool} {a : Option Addr} {cap : Nat} (h : c = true → cap = 0) : VR K β (.list [] c) (.slice a 0 cap)
  | list {l : List V} {c : Bool} {b o n cap : Nat} {cs : Array Value} {e : TypeId} {fr : Nat × Nat} (hb : K.fixed b = some (.cells cs e fr))
      (hu : ∀ v ∈ l, (cellsOf v).length = n) (hn : n ≠ 0) (hl : o + l.length * n ≤ cs.size) (hc : l.length ≤ cap) (hcl : c = true → cap = l.length)
      (h : ∀ i v, (flat l)[i]? = some v → VR K β v (cs.getD (o + i) Go.undef)) : VR K β (.list l c) (.slice (some ⟨b, o, none⟩) l.length cap)
  | own {id b off len n cap z : Nat} (h : β id = some b) (hz : K.size b = some z) (hl : len ≤ cap) (hz' : off + cap * n ≤ z) (hn : n ≠ 0) :
      VR K β (.own id off len n) (.slice (some ⟨b, off, none⟩) len cap)
  | agg {l : List V} {cs : Array Value} (hl : l.length = cs.size) (h : ∀ i v, l[i]? = some v → VR K β v (cs.getD i Go.undef)) : VR K β (.agg l) (.agg cs)
  | tuple {l : List V} {cs : Array Value} (hl : l.length = cs.size) (h : ∀ i v, l[i]? = some v → VR K β v (cs.getD i Go.undef)) : VR K β (.tuple l) (.tuple cs)
  | fn {f : Fn} {l m : List V} {cs ds : Array Value} (hl : l.length = cs.size) (h : ∀ i v, l[i]? = some v → VR K β v (cs.getD i Go.undef))
      (hm : m.length = ds.size) (h' : ∀ i v, m[i]? = some v → VR K β v (ds.getD i Go.undef)) : VR K β (.fn f l m) (.func f cs ds)
  | nilfn : VR K β .nilfn .nilFunc
  | iface {t : TypeId} {v : V} {c : Value} (h : VR K β v c) : VR K β (.iface t v) (.iface t c)
  | niliface : VR K β .niliface .nilIface
  | nilmap : VR K β .nilmap (.map none)
  | mref {id b : Nat} (h : β id = some b) : VR K β (.mref id) (.map (some b))
  | map {ks vs : List V} {b : Nat} {es : Array MapEntry} {clock : Nat} (hb : K.fixed b = some (.map es clock)) (hk : ks.length = es.size) (hv : vs.length = es.size)
      (h : ∀ i v, ks[i]? = some v → VR K β v (es.getD i default).key) (h' : ∀ i v, vs[i]? = some v → VR K β v (es.getD i default).val) : VR K β (.map ks vs) (.map (some b))
  | any (c : Value) : VR K β .any c
  | yld {id b : Nat} (h : β id = some b) : VR K β (.yld id) (.func (.yield b) #[] #[])
  | anyb (b : Bool) : VR K β .anyb (.bool b)
theorem VR.ren {K K' : Kn} {β β' : Bi} {g : Nat → Nat} (hK : K.le K') {v : V} {c : Value} (h : VR K β v c) :
    (∀ i ∈ refs v, ∀ b, β i = some b → β' (g i) = some b) → VR K' β' (Fz.ren g v) c := by
  have cellArg : ∀ {l : List V} {i : Nat} {v : V}, (l.map (Fz.ren g))[i]? = some v → ∃ u, l[i]? = some u ∧ v = Fz.ren g u := by
    intro l i v hi
    rw [List.getElem?_map] at hi
    cases hl : l[i]? with
    | none => rw [hl] at hi; cases hi
    | some u => rw [hl] at hi; exact ⟨u, rfl, (Option.some.inj hi).symm⟩
  have memR : ∀ {l : List V} {i : Nat} {u : V}, l[i]? = some u → ∀ j ∈ refs u, j ∈ refsL l := by
    intro l i u hu j hj
    rw [refsL_eq]
    exact List.mem_flatMap.2 ⟨u, List.mem_of_getElem? hu, hj⟩
  induction h with
  | bool b => intro _; exact .bool b
  | int k n => intro _; exact .int k n
  | float k b => intro _; exact .float k b
  | fnan k b h => intro _; exact .fnan k b h
  | str s => intro _; exact .str s
  | nilp => intro _; exact .nilp
  | ptr h => intro hg; exact .ptr (hg _ (by simp [refs]) _ h)
  | ref hb hl h ih =>
    intro hg
    simp only [Fz.ren, renL_eq]
    refine .ref (hK.1 _ _ hb) (by simpa using hl) fun i v hv => ?_
    obtain ⟨u, hu, rfl⟩ := cellArg hv
    exact ih i u hu fun j hj => hg j (by simp only [refs]; exact memR hu j hj)
  | lnil h => intro _; exact .lnil h
  | list hb hu hn hl hc hcl h ih =>
    intro hg
    rename_i l c b o n cap cs e fr
    simp only [Fz.ren, renL_eq]
    have e1 : l.length = (l.map (Fz.ren g)).length := by simp
    rw [e1]
    refine .list (hK.1 _ _ hb) (n := n) ?_ hn (by simpa using hl) (by simpa using hc) (by simpa using hcl) fun i v hv => ?_
    · intro v hv
      obtain ⟨u, hu', rfl⟩ := List.mem_map.1 hv
      rw [cellsOf_ren, List.length_map]
      exact hu u hu'
    · rw [flat_ren] at hv
      obtain ⟨u, hu', rfl⟩ := cellArg hv
      exact ih i u hu' fun j hj => hg j (by simp only [refs]; exact refs_flat (List.mem_of_getElem? hu') j hj)
  | own h hz hl hz' hn => intro hg; exact .own (hg _ (by simp [refs]) _ h) (hK.2.1 _ _ hz) hl hz' hn
  | agg hl h ih =>
    intro hg
    simp only [Fz.ren, renL_eq]
    refine .agg (by simpa using hl) fun i v hv => ?_
    obtain ⟨u, hu, rfl⟩ := cellArg hv
    exact ih i u hu fun j hj => hg j (by simp only [refs]; exact memR hu j hj)
  | tuple hl h ih =>
    intro hg
    simp only [Fz.ren, renL_eq]
    refine .tuple (by simpa using hl) fun i v hv => ?_
    obtain ⟨u, hu, rfl⟩ := cellArg hv
    exact ih i u hu fun j hj => hg j (by simp only [refs]; exact memR hu j hj)
  | fn hl h hm h' ih ih' =>
    intro hg
    simp only [Fz.ren, renL_eq]
    refine .fn (by simpa using hl) (fun i v hv => ?_) (by simpa using hm) fun i v hv => ?_
    · obtain ⟨u, hu, rfl⟩ := cellArg hv
      exact ih i u hu fun j hj => hg j (by simp only [refs]; exact List.mem_append_left _ (memR hu j hj))
    · obtain ⟨u, hu, rfl⟩ := cellArg hv
      exact ih' i u hu fun j hj => hg j (by simp only [refs]; exact List.mem_append_right _ (memR hu j hj))
  | nilfn => intro _; exact .nilfn
  | iface h ih => intro hg; exact .iface (ih fun j hj => hg j (by simpa [refs] using hj))
  | niliface => intro _; exact .niliface
  | nilmap => intro _; exact .nilmap
  | mref h => intro hg; exact .mref (hg _ (by simp [refs]) _ h)
  | map hb hk hv h h' ih ih' =>
    intro hg
    simp only [Fz.ren, renL_eq]
    refine .map (hK.1 _ _ hb) (by simpa using hk) (by simpa using hv) (fun i v hv => ?_) fun i v hv => ?_
    · obtain ⟨u, hu, rfl⟩ := cellArg hv
      exact ih i u hu fun j hj => hg j (by simp only [refs]; exact List.mem_append_left _ (memR hu j hj))
    · obtain ⟨u, hu, rfl⟩ := cellArg hv
      exact ih' i u hu fun j hj => hg j (by simp only [refs]; exact List.mem_append_right _ (memR hu j hj))
  | any c => intro _; exact .any c
  | yld h => intro hg; exact .yld (hg _ (by simp [refs]) _ h)
  | anyb b => intro _; exact .anyb b
mutual
theorem ren_id (v : V) : ren (fun i => i) v = v := by
  cases v <;> simp [ren, ren_idL, ren_id]
theorem ren_idL (l : List V) : renL (fun i => i) l = l := by
  cases l <;> simp [renL, ren_idL, ren_id]
end
theorem VR.mono {K K' : Kn} {β β' : Bi} (hK : K.le K') (hβ : ∀ i b, β i = some b → β' i = some b) {v : V} {c : Value} (h : VR K β v c) : VR K' β' v c := by
  have := VR.ren (g := fun i => i) (β' := β') hK h fun i _ b hb => hβ i b hb
  rwa [ren_id] at this
theorem nrmL_eq (l : List V) : nrmL l = l.map nrm := by
  induction l with
  | nil => rfl
  | cons v l ih => simp [nrmL, ih]
theorem cellsOf_nrm (v : V) : cellsOf (nrm v) = (cellsOf v).map nrm := by
  cases v <;> simp [cellsOf, nrm, nrmL_eq]
theorem flat_nrm (l : List V) : flat (l.map nrm) = (flat l).map nrm := by
  simp only [flat, List.flatMap_map, List.map_flatMap]
  congr 1; funext v; exact cellsOf_nrm v
theorem VR.nrm {K : Kn} {β : Bi} {v : V} {c : Value} (h : VR K β v c) : VR K β (Fz.nrm v) c := by
  have cellArg : ∀ {l : List V} {i : Nat} {v : V}, (l.map Fz.nrm)[i]? = some v → ∃ u, l[i]? = some u ∧ v = Fz.nrm u := by
    intro l i v hi
    rw [List.getElem?_map] at hi
    cases hl : l[i]? with
    | none => rw [hl] at hi; cases hi
    | some u => rw [hl] at hi; exact ⟨u, rfl, (Option.some.inj hi).symm⟩
  induction h with
  | bool b => exact .bool b
  | int k n => exact .int k n
  | float k b => exact .float k b
  | fnan k b h => exact .fnan k b h
  | str s => exact .str s
  | nilp => exact .nilp
  | ptr h => exact .ptr h
  | ref hb hl h => exact .ref hb hl h
  | lnil h => exact .lnil fun h => by cases h
  | list hb hu hn hl hc hcl h ih =>
    rename_i l c b o n cap cs e fr
    simp only [Fz.nrm, nrmL_eq]
    have e1 : l.length = (l.map Fz.nrm).length := by simp
    rw [e1]
    refine .list hb (n := n) ?_ hn (by simpa using hl) (by simpa using hc) (fun h => by cases h) fun i v hv => ?_
    · intro v hv
      obtain ⟨u, hu', rfl⟩ := List.mem_map.1 hv
      rw [cellsOf_nrm, List.length_map]
      exact hu u hu'
    · rw [flat_nrm] at hv
      obtain ⟨u, hu', rfl⟩ := cellArg hv
      exact ih i u hu'
  | own h hz hl hz' hn => exact .own h hz hl hz' hn
  | agg hl h ih =>
    simp only [Fz.nrm, nrmL_eq]
    refine .agg (by simpa using hl) fun i v hv => ?_
    obtain ⟨u, hu, rfl⟩ := cellArg hv
    exact ih i u hu
  | tuple hl h ih =>
    simp only [Fz.nrm, nrmL_eq]
    refine .tuple (by simpa using hl) fun i v hv => ?_
    obtain ⟨u, hu, rfl⟩ := cellArg hv
    exact ih i u hu
  | fn hl h hm h' => exact .fn hl h hm h'
  | nilfn => exact .nilfn
  | iface h ih => exact .iface ih
  | niliface => exact .niliface
  | nilmap => exact .nilmap
  | mref h => exact .mref h
  | map hb hk hv h h' => exact .map hb hk hv h h'
  | any c => exact .any c
  | yld h => exact .yld h
  | anyb b => exact .anyb b
def CsR (K : Kn) (β : Bi) (l : List V) (cs : Array Value) : Prop := l.length ≤ cs.size ∧ ∀ i v, l[i]? = some v → VR K β v (cs.getD i Go.undef)
def Jmp.code : Jmp → Code
  | .exit i => .exit i
  | .ret => .ret
def stR : LSt → Loop → Prop
  | .ready, r => r.state = .ready ∧ r.pending = none
  | .busy, r => r.state = .busy
  | .done j, r => r.state = .done ∧ r.pending = some j.code
def ObR (K : Kn) (β : Bi) (w : World) (id : Nat) : Ob → Prop
  | .live l => ∃ b cs e, β id = some b ∧ K.fixed b = none ∧ K.size b = some cs.size ∧ w.heap[b]? = some (.cells cs e (0, 0)) ∧ CsR K β l cs
  | .fixed l => ∃ b cs e fr, β id = some b ∧ K.fixed b = some (.cells cs e fr) ∧ K.size b = some cs.size ∧ CsR K β l cs
  | .dead => True
  | .mlive ks vs => ∃ b es clock, β id = some b ∧ K.fixed b = none ∧ w.heap[b]? = some (.map es clock) ∧ ks.length = es.size ∧ vs.length = es.size ∧
      (∀ i v, ks[i]? = some v → VR K β v (es.getD i default).key) ∧ (∀ i v, vs[i]? = some v → VR K β v (es.getD i default).val)
  | .iter s pos => ∃ b, β id = some b ∧ K.fixed b = none ∧ w.heap[b]? = some (.stringIter s pos)
  | .loop k ts l st => ∃ (b : Nat) (r : Loop), β id = some b ∧ K.fixed b = none ∧ w.heap[b]? = some (.loop r) ∧ K.lp k r ∧ ts.length = l.length ∧ (∀ (i t : Nat) (v : V), ts[i]? = some t → l[i]? = some v → VR K β v (r.tmps.getD t Go.undef)) ∧ stR st r
def Ob.isLive : Ob → Bool
  | .live _ => true
  | .mlive _ _ => true
  | .iter _ _ => true
  | .loop _ _ _ _ => true
  | _ => false
def liveAt (H : List Ob) (id : Nat) : Prop := ∃ o, H[id]? = some o ∧ o.isLive = true
def liveB (H : List Ob) (β : Bi) (b : Nat) : Prop := ∃ id, liveAt H id ∧ β id = some b
structure Inv (K : Kn) (β : Bi) (H : List Ob) (w : World) : Prop where
  fixed : ∀ b o, K.fixed b = some o → w.heap[b]? = some o
  size : ∀ b z, K.size b = some z → ∃ cs e fr, w.heap[b]? = some (.cells cs e fr) ∧ cs.size = z
  dom : ∀ id b, β id = some b → id < H.length
  obj : ∀ id o, H[id]? = some o → ObR K β w id o
  inj : ∀ i j b, liveAt H i → liveAt H j → β i = some b → β j = some b → i = j
structure Ev (K : Kn) (β : Bi) (H : List Ob) (w : World) (K' : Kn) (β' : Bi) (H' : List Ob) (w' : World) : Prop where
  k : K.le K'
  b : ∀ i x, β i = some x → β' i = some x
  hl : H.length ≤ H'.length
  frame : ∀ x, x < w.heap.size → ¬ liveB H β x → w'.heap[x]? = w.heap[x]?
  size : w.heap.size ≤ w'.heap.size
  os : w'.os = w.os
  tape : w'.tape = w.tape
  output : w'.output = w.output
  live : ∀ x, liveB H' β' x → liveB H β x ∨ w.heap.size ≤ x
  fix : ∀ x o, K'.fixed x = some o → K.fixed x = some o ∨ liveB H β x ∨ w.heap.size ≤ x
  bx : ∀ i, i < H.length → β' i = β i
theorem Ev.refl (K : Kn) (β : Bi) (H : List Ob) (w : World) : Ev K β H w K β H w :=
  ⟨K.le_refl, fun _ _ h => h, Nat.le_refl _, fun _ _ _ => rfl, Nat.le_refl _, rfl, rfl, rfl, fun _ h => .inl h, fun _ _ h => .inl h, fun _ _ => rfl⟩
theorem Ev.trans {K K1 K2 : Kn} {β β1 β2 : Bi} {H H1 H2 : List Ob} {w w1 w2 : World} (h : Ev K β H w K1 β1 H1 w1) (g : Ev K1 β1 H1 w1 K2 β2 H2 w2) :
    Ev K β H w K2 β2 H2 w2 where
  k := Kn.le_trans h.k g.k
  b i x hx := g.b i x (h.b i x hx)
  hl := Nat.le_trans h.hl g.hl
  frame x hx hn := by
    rw [g.frame x (Nat.lt_of_lt_of_le hx h.size) fun hl => (h.live x hl).elim hn fun hge => by omega]
    exact h.frame x hx hn
  size := Nat.le_trans h.size g.size
  os := g.os.trans h.os
  tape := g.tape.trans h.tape
  output := g.output.trans h.output
  live x hx := (g.live x hx).elim (h.live x) fun hge => .inr (Nat.le_trans h.size hge)
  fix x o hx := (g.fix x o hx).elim (h.fix x o) fun hge => hge.elim (fun hl => (h.live x hl).elim (fun a => .inr (.inl a)) fun hge => .inr (.inr hge)) fun hge => .inr (.inr (Nat.le_trans h.size hge))
  bx i hi := (g.bx i (Nat.lt_of_lt_of_le hi h.hl)).trans (h.bx i hi)
theorem Inv.drawn {K : Kn} {β : Bi} {H : List Ob} {w w' : World} (h : Inv K β H w) (hh : w'.heap = w.heap) : Inv K β H w' := by
  refine ⟨fun b o x => by rw [hh]; exact h.fixed b o x, fun b z x => by rw [hh]; exact h.size b z x, h.dom, fun id o x => ?_, h.inj⟩
  have := h.obj id o x
  cases o <;> first | trivial | (unfold ObR at *; simp only [hh]; exact this)
theorem Ev.drawn {K : Kn} {β : Bi} {H : List Ob} {w w' : World} (hh : w'.heap = w.heap) (h1 : w'.os = w.os) (h2 : w'.tape = w.tape) (h3 : w'.output = w.output) :
    Ev K β H w K β H w' :=
  ⟨K.le_refl, fun _ _ h => h, Nat.le_refl _, fun _ _ _ => by rw [hh], by rw [hh]; exact Nat.le_refl _, h1, h2, h3, fun _ h => .inl h, fun _ _ h => .inl h, fun _ _ => rfl⟩
theorem CsR.mono {K K' : Kn} {β β' : Bi} (hK : K.le K') (hβ : ∀ i b, β i = some b → β' i = some b) {l : List V} {cs : Array Value} (h : CsR K β l cs) : CsR K' β' l cs :=
  ⟨h.1, fun i v hv => (h.2 i v hv).mono hK hβ⟩
theorem ObR.mono {K K' : Kn} {β β' : Bi} {w w' : World} (hK : K.le K') (hβ : ∀ i b, β i = some b → β' i = some b) {id : Nat} {o : Ob} (h : ObR K β w id o)
    (hf : ∀ b, o.isLive = true → β id = some b → K.fixed b = none → K'.fixed b = none ∧ w'.heap[b]? = w.heap[b]?) : ObR K' β' w' id o := by
  cases o with
  | live l =>
    obtain ⟨b, cs, e, h1, h2, h3, h4, h5⟩ := h
    obtain ⟨g1, g2⟩ := hf b rfl h1 h2
    exact ⟨b, cs, e, hβ _ _ h1, g1, hK.2.1 _ _ h3, g2.trans h4, h5.mono hK hβ⟩
  | fixed l =>
    obtain ⟨b, cs, e, fr, h1, h2, h3, h5⟩ := h
    exact ⟨b, cs, e, fr, hβ _ _ h1, hK.1 _ _ h2, hK.2.1 _ _ h3, h5.mono hK hβ⟩
  | dead => trivial
  | mlive ks vs =>
    obtain ⟨b, es, clock, h1, h2, h4, h5, h6, h7, h8⟩ := h
    obtain ⟨g1, g2⟩ := hf b rfl h1 h2
    exact ⟨b, es, clock, hβ _ _ h1, g1, g2.trans h4, h5, h6, fun i v hv => (h7 i v hv).mono hK hβ, fun i v hv => (h8 i v hv).mono hK hβ⟩
  | iter s pos =>
    obtain ⟨b, h1, h2, h4⟩ := h
    obtain ⟨g1, g2⟩ := hf b rfl h1 h2
    exact ⟨b, hβ _ _ h1, g1, g2.trans h4⟩
  | loop k ts l st =>
    obtain ⟨b, r, h1, h2, h4, h5, h6, h7, h8⟩ := h
    obtain ⟨g1, g2⟩ := hf b rfl h1 h2
    exact ⟨b, r, hβ _ _ h1, g1, g2.trans h4, by rw [hK.2.2]; exact h5, h6, fun i t v ht hv => (h7 i t v ht hv).mono hK hβ, h8⟩
theorem ObR.lt {K : Kn} {β : Bi} {w : World} {id : Nat} {o : Ob} (h : ObR K β w id o) (ho : o.isLive = true) : ∃ b, β id = some b ∧ b < w.heap.size ∧ K.fixed b = none := by
  have lt : ∀ {b : Nat} {x : Obj}, w.heap[b]? = some x → b < w.heap.size := fun hx => (Array.getElem?_eq_some_iff.1 hx).1
  cases o with
  | live l => obtain ⟨b, cs, e, h1, h2, h3, h4, h5⟩ := h; exact ⟨b, h1, lt h4, h2⟩
  | mlive ks vs => obtain ⟨b, es, clock, h1, h2, h4, _⟩ := h; exact ⟨b, h1, lt h4, h2⟩
  | iter s pos => obtain ⟨b, h1, h2, h4⟩ := h; exact ⟨b, h1, lt h4, h2⟩
  | loop k ts l st => obtain ⟨b, r, h1, h2, h4, _⟩ := h; exact ⟨b, h1, lt h4, h2⟩
  | fixed l => cases ho
  | dead => cases ho
def setB (β : Bi) (id b : Nat) : Bi := fun i => if i = id then some b else β i
def setK (K : Kn) (b z : Nat) : Kn := ⟨K.fixed, fun x => if x = b then some z else K.size x, K.lp, K.gl⟩
end Fz
namespace Fz
open Go
theorem push_get {w : World} {o : Obj} {b : Nat} (h : b < w.heap.size) : (w.heap.push o)[b]? = w.heap[b]? := by
  rw [Array.getElem?_push]; rw [if_neg (by omega)]
theorem push_new {w : World} {o : Obj} : (w.heap.push o)[w.heap.size]? = some o := by
  rw [Array.getElem?_push]; simp
theorem heap_lt {w : World} {b : Nat} {o : Obj} (h : w.heap[b]? = some o) : b < w.heap.size := (Array.getElem?_eq_some_iff.1 h).1
theorem Inv.fresh {K : Kn} {β : Bi} {H : List Ob} {w : World} (h : Inv K β H w) : K.fixed w.heap.size = none := by
  cases hf : K.fixed w.heap.size with
  | none => rfl
  | some o => have := heap_lt (h.fixed _ _ hf); omega
theorem Inv.freshB {K : Kn} {β : Bi} {H : List Ob} {w : World} (h : Inv K β H w) : β H.length = none := by
  cases hf : β H.length with
  | none => rfl
  | some o => have := h.dom _ _ hf; omega
theorem Inv.freshS {K : Kn} {β : Bi} {H : List Ob} {w : World} (h : Inv K β H w) : K.size w.heap.size = none := by
  cases hf : K.size w.heap.size with
  | none => rfl
  | some o => obtain ⟨cs, e, fr, h1, _⟩ := h.size _ _ hf; have := heap_lt h1; omega
theorem setB_le {β : Bi} {id b : Nat} (h : β id = none) : ∀ i x, β i = some x → setB β id b i = some x := by
  intro i x hi
  unfold setB
  by_cases e : i = id
  · subst e; rw [h] at hi; cases hi
  · rw [if_neg e]; exact hi
theorem setK_le {K : Kn} {b z : Nat} (h : K.size b = none) : K.le (setK K b z) := by
  refine ⟨fun _ _ h => h, fun x n hx => ?_, rfl⟩
  show (if x = b then some z else K.size x) = some n
  by_cases e : x = b
  · subst e; rw [h] at hx; cases hx
  · rw [if_neg e]; exact hx
theorem liveAt_lt {H : List Ob} {i : Nat} (h : liveAt H i) : i < H.length := by
  obtain ⟨o, ho, _⟩ := h
  exact (List.getElem?_eq_some_iff.1 ho).1
theorem Inv.new {K : Kn} {β : Bi} {H : List Ob} {w w' : World} (h : Inv K β H w) {l : List V} {cs : Array Value} {e : TypeId} (hc : CsR K β l cs)
    (hh : w'.heap = w.heap.push (.cells cs e)) (h1 : w'.os = w.os) (h2 : w'.tape = w.tape) (h3 : w'.output = w.output) :
    let K' := setK K w.heap.size cs.size
    let β' := setB β H.length w.heap.size
    K.le K' ∧ (∀ i x, β i = some x → β' i = some x) ∧ β' H.length = some w.heap.size ∧ K'.size w.heap.size = some cs.size ∧ Inv K' β' (H ++ [.live l]) w' ∧ Ev K β H w K' β' (H ++ [.live l]) w' := by
  intro K' β'
  have hK : K.le K' := setK_le h.freshS
  have hβ : ∀ i x, β i = some x → β' i = some x := setB_le h.freshB
  have hb : β' H.length = some w.heap.size := by simp [β', setB]
  have hz : K'.size w.heap.size = some cs.size := by simp [K', setK]
  have hβ' : ∀ i x, β' i = some x → (i = H.length ∧ x = w.heap.size) ∨ β i = some x := by
    intro i x hi
    by_cases e : i = H.length
    · subst e; rw [hb] at hi; exact .inl ⟨rfl, (Option.some.inj hi).symm⟩
    · right; simpa [β', setB, e] using hi
  have hlive : ∀ i, liveAt (H ++ [.live l]) i → i = H.length ∨ liveAt H i := by
    rintro i ⟨o, ho, hl⟩
    by_cases e : i < H.length
    · rw [List.getElem?_append_left e] at ho; exact .inr ⟨o, ho, hl⟩
    · left
      have := (List.getElem?_eq_some_iff.1 ho).1
      simp at this; omega
  have hold : ∀ i b, liveAt H i → β i = some b → b < w.heap.size := by
    rintro i b ⟨o, ho, hl⟩ hi
    obtain ⟨b', g1, g2, _⟩ := (h.obj i o ho).lt hl
    rw [hi] at g1; cases g1; exact g2
  refine ⟨hK, hβ, hb, hz, ⟨?_, ?_, ?_, ?_, ?_⟩, ⟨hK, hβ, by simp, ?_, by rw [hh]; simp, h1, h2, h3, ?_, ?_, fun i hi => if_neg (by omega)⟩⟩
  · intro b o hf
    have := h.fixed b o hf
    rw [hh, push_get (heap_lt this)]; exact this
  · intro b z hs
    by_cases e : b = w.heap.size
    · subst e; rw [hz] at hs; cases hs
      exact ⟨cs, _, _, by rw [hh]; exact push_new, rfl⟩
    · have : K.size b = some z := by simpa [K', setK, e] using hs
      obtain ⟨cs', e', fr, g1, g2⟩ := h.size b z this
      exact ⟨cs', e', fr, by rw [hh, push_get (heap_lt g1)]; exact g1, g2⟩
  · intro i b hi
    rcases hβ' i b hi with ⟨rfl, rfl⟩ | hi
    · simp
    · have := h.dom i b hi; simp; omega
  · intro i o ho
    by_cases e : i < H.length
    · rw [List.getElem?_append_left e] at ho
      refine (h.obj i o ho).mono hK hβ fun b hl hb' hf => ⟨hf, ?_⟩
      rw [hh, push_get (hold i b ⟨o, ho, hl⟩ hb')]
    · have hi : i = H.length := by have := (List.getElem?_eq_some_iff.1 ho).1; simp at this; omega
      subst hi
      simp at ho; subst ho
      exact ⟨_, cs, _, hb, h.fresh, hz, by rw [hh]; exact push_new, hc.mono hK hβ⟩
  · intro i j b hi hj h1 h2
    rcases hβ' i b h1 with ⟨rfl, rfl⟩ | h1
    · rcases hβ' j _ h2 with ⟨rfl, _⟩ | h2
      · rfl
      · rcases hlive j hj with rfl | hj
        · rfl
        · have := hold j _ hj h2; omega
    · rcases hβ' j b h2 with ⟨rfl, rfl⟩ | h2
      · rcases hlive i hi with rfl | hi
        · rfl
        · have := hold i _ hi h1; omega
      · rcases hlive i hi with rfl | hi
        · rw [h.freshB] at h1; cases h1
        · rcases hlive j hj with rfl | hj
          · rw [h.freshB] at h2; cases h2
          · exact h.inj i j b hi hj h1 h2
  · intro x hx _
    rw [hh, push_get hx]
  · rintro x ⟨i, hi, hx⟩
    rcases hβ' i x hx with ⟨rfl, rfl⟩ | hx
    · exact .inr (Nat.le_refl _)
    · rcases hlive i hi with rfl | hi
      · rw [h.freshB] at hx; cases hx
      · exact .inl ⟨i, hi, hx⟩
  · intro x o hf; exact .inl hf
theorem set_get {H : List Ob} {id i : Nat} {o : Ob} (h : id ≠ i) : (H.set id o)[i]? = H[i]? := by
  rw [List.getElem?_set]; simp [h]
theorem set_self {H : List Ob} {id : Nat} {o o' : Ob} (h : H[id]? = some o') : (H.set id o)[id]? = some o := by
  rw [List.getElem?_set]; simp [(List.getElem?_eq_some_iff.1 h).1]
theorem Inv.put {K : Kn} {β : Bi} {H : List Ob} {w w' : World} (h : Inv K β H w) {id b : Nat} {l l' : List V} {cs cs' : Array Value} {e : TypeId}
    (hi : H[id]? = some (.live l)) (hb : β id = some b) (hw : w.heap[b]? = some (.cells cs e (0, 0))) (hsz : cs'.size = cs.size) (hc : CsR K β l' cs')
    (hh : ∀ x, w'.heap[x]? = if x = b then some (.cells cs' e (0, 0)) else w.heap[x]?) (hs : w'.heap.size = w.heap.size)
    (h1 : w'.os = w.os) (h2 : w'.tape = w.tape) (h3 : w'.output = w.output) :
    Inv K β (H.set id (.live l')) w' ∧ Ev K β H w K β (H.set id (.live l')) w' := by
  have hlv : liveAt H id := ⟨_, hi, rfl⟩
  obtain ⟨b0, cs0, e0, g1, g2, g3, g4, g5⟩ := h.obj id _ hi
  rw [hb] at g1; cases g1
  rw [hw] at g4; cases g4
  have hlive : ∀ i, liveAt (H.set id (.live l')) i → liveAt H i := by
    rintro i ⟨o, ho, hl⟩
    by_cases e : id = i
    · subst e; exact hlv
    · rw [set_get e] at ho; exact ⟨o, ho, hl⟩
  refine ⟨⟨?_, ?_, ?_, ?_, ?_⟩, ⟨K.le_refl, fun _ _ h => h, by simp, ?_, by omega, h1, h2, h3, ?_, fun _ _ h => .inl h, fun _ _ => rfl⟩⟩
  · intro x o hf
    rw [hh]
    by_cases ex : x = b
    · subst ex; rw [g2] at hf; cases hf
    · rw [if_neg ex]; exact h.fixed x o hf
  · intro x z hz
    rw [hh]
    by_cases ex : x = b
    · subst ex; rw [g3] at hz; cases hz; exact ⟨cs', e, (0, 0), by simp, hsz⟩
    · rw [if_neg ex]; exact h.size x z hz
  · intro i x hx; have := h.dom i x hx; simpa using this
  · intro i o ho
    by_cases ei : id = i
    · subst ei
      rw [set_self hi] at ho; cases ho
      exact ⟨b, cs', e, hb, g2, by rw [hsz]; exact g3, by rw [hh]; simp, hc⟩
    · rw [set_get ei] at ho
      refine (h.obj i o ho).mono K.le_refl (fun _ _ h => h) fun x hl hx hf => ⟨hf, ?_⟩
      rw [hh, if_neg]
      intro ex; subst ex
      exact ei (h.inj id i x hlv ⟨o, ho, hl⟩ hb hx)
  · intro i j x hi' hj' hx hy
    exact h.inj i j x (hlive i hi') (hlive j hj') hx hy
  · intro x hx hn
    rw [hh, if_neg]
    intro ex; subst ex
    exact hn ⟨id, hlv, hb⟩
  · rintro x ⟨i, hi', hx⟩
    exact .inl ⟨i, hlive i hi', hx⟩
theorem Inv.kill {K : Kn} {β : Bi} {H : List Ob} {w : World} (h : Inv K β H w) (id : Nat) :
    Inv K β (H.set id .dead) w ∧ Ev K β H w K β (H.set id .dead) w := by
  have hlive : ∀ i, liveAt (H.set id .dead) i → liveAt H i := by
    rintro i ⟨o, ho, hl⟩
    by_cases e : id = i
    · subst e
      rw [List.getElem?_set] at ho
      split at ho
      · split at ho <;> cases ho; cases hl
      · exact ⟨o, ho, hl⟩
    · rw [set_get e] at ho; exact ⟨o, ho, hl⟩
  refine ⟨⟨h.fixed, h.size, ?_, ?_, ?_⟩, ⟨K.le_refl, fun _ _ h => h, by simp, fun _ _ _ => rfl, Nat.le_refl _, rfl, rfl, rfl, ?_, fun _ _ h => .inl h, fun _ _ => rfl⟩⟩
  · intro i x hx; have := h.dom i x hx; simpa using this
  · intro i o ho
    by_cases ei : id = i
    · subst ei
      rw [List.getElem?_set] at ho
      split at ho
      · split at ho <;> cases ho; trivial
      · exact h.obj _ _ ho
    · rw [set_get ei] at ho; exact h.obj i o ho
  · intro i j x hi' hj' hx hy
    exact h.inj i j x (hlive i hi') (hlive j hj') hx hy
  · rintro x ⟨i, hi', hx⟩
    exact .inl ⟨i, hlive i hi', hx⟩
theorem Inv.moved {K : Kn} {β : Bi} {H : List Ob} {w w' : World} (h : Inv K β H w) {id b : Nat} {l l' : List V} {cs cs' : Array Value} {e : TypeId}
    (hi : H[id]? = some (.live l)) (hb : β id = some b) (hw : w.heap[b]? = some (.cells cs e (0, 0))) (hsz : cs'.size = cs.size) (hc : CsR K β l' cs')
    (hh : ∀ x, w'.heap[x]? = if x = b then some (.cells cs' e (0, 0)) else w.heap[x]?) (hs : w'.heap.size = w.heap.size)
    (h1 : w'.os = w.os) (h2 : w'.tape = w.tape) (h3 : w'.output = w.output) :
    let β' := setB β H.length b
    (∀ i x, β i = some x → β' i = some x) ∧ β' H.length = some b ∧ Inv K β' (H.set id .dead ++ [.live l']) w' ∧ Ev K β H w K β' (H.set id .dead ++ [.live l']) w' := by
  intro β'
  have hβ : ∀ i x, β i = some x → β' i = some x := setB_le h.freshB
  have hb' : β' H.length = some b := by simp [β', setB]
  have hlv : liveAt H id := ⟨_, hi, rfl⟩
  have hidlt : id < H.length := (List.getElem?_eq_some_iff.1 hi).1
  obtain ⟨b0, cs0, e0, g1, g2, g3, g4, g5⟩ := h.obj id _ hi
  rw [hb] at g1; cases g1
  rw [hw] at g4; cases g4
  have hβ' : ∀ i x, β' i = some x → (i = H.length ∧ x = b) ∨ β i = some x := by
    intro i x hi
    by_cases e : i = H.length
    · subst e; rw [hb'] at hi; exact .inl ⟨rfl, (Option.some.inj hi).symm⟩
    · right; simpa [β', setB, e] using hi
  have hlen : (H.set id .dead).length = H.length := by simp
  have hlive : ∀ i, liveAt (H.set id .dead ++ [.live l']) i → i = H.length ∨ (liveAt H i ∧ i ≠ id) := by
    rintro i ⟨o, ho, hl⟩
    by_cases e : i < H.length
    · right
      rw [List.getElem?_append_left (by simpa using e)] at ho
      by_cases ei : id = i
      · subst ei; rw [set_self hi] at ho; cases ho; cases hl
      · rw [set_get ei] at ho; exact ⟨⟨o, ho, hl⟩, fun x => ei x.symm⟩
    · left
      have := (List.getElem?_eq_some_iff.1 ho).1
      simp at this; omega
  refine ⟨hβ, hb', ⟨?_, ?_, ?_, ?_, ?_⟩, ⟨K.le_refl, hβ, by simp, ?_, by omega, h1, h2, h3, ?_, fun _ _ h => .inl h, fun i hi => if_neg (by omega)⟩⟩
  · intro x o hf
    rw [hh]
    by_cases ex : x = b
    · subst ex; rw [g2] at hf; cases hf
    · rw [if_neg ex]; exact h.fixed x o hf
  · intro x z hz
    rw [hh]
    by_cases ex : x = b
    · subst ex; rw [g3] at hz; cases hz; exact ⟨cs', e, (0, 0), by simp, hsz⟩
    · rw [if_neg ex]; exact h.size x z hz
  · intro i x hx
    rcases hβ' i x hx with ⟨rfl, rfl⟩ | hx
    · simp
    · have := h.dom i x hx; simp; omega
  · intro i o ho
    by_cases e : i < H.length
    · rw [List.getElem?_append_left (by simpa using e)] at ho
      by_cases ei : id = i
      · subst ei; rw [set_self hi] at ho; cases ho; trivial
      · rw [set_get ei] at ho
        refine (h.obj i o ho).mono K.le_refl hβ fun x hl hx hf => ⟨hf, ?_⟩
        rw [hh, if_neg]
        intro ex; subst ex
        exact ei (h.inj id i x hlv ⟨o, ho, hl⟩ hb hx)
    · have hi' : i = H.length := by have := (List.getElem?_eq_some_iff.1 ho).1; simp at this; omega
      subst hi'
      rw [List.getElem?_append_right (by simp)] at ho
      simp at ho; subst ho
      exact ⟨b, cs', _, hb', g2, by rw [hsz]; exact g3, (hh b).trans (if_pos rfl), hc.mono K.le_refl hβ⟩
  · intro i j x hi' hj' hx hy
    rcases hlive i hi' with rfl | ⟨li, ni⟩
    · rcases hlive j hj' with rfl | ⟨lj, nj⟩
      · rfl
      · rw [hb'] at hx; cases hx
        rcases hβ' j b hy with ⟨rfl, _⟩ | hy
        · rfl
        · exact absurd (h.inj id j b hlv lj hb hy).symm nj
    · rcases hβ' i x hx with ⟨rfl, _⟩ | hx
      · exact absurd (liveAt_lt li) (by omega)
      · rcases hlive j hj' with rfl | ⟨lj, nj⟩
        · rw [hb'] at hy; cases hy
          exact absurd (h.inj id i b hlv li hb hx).symm ni
        · rcases hβ' j x hy with ⟨rfl, _⟩ | hy
          · exact absurd (liveAt_lt lj) (by omega)
          · exact h.inj i j x li lj hx hy
  · intro x hx hn
    rw [hh, if_neg]
    intro ex; subst ex
    exact hn ⟨id, hlv, hb⟩
  · rintro x ⟨i, hi', hx⟩
    rcases hβ' i x hx with ⟨rfl, rfl⟩ | hx
    · exact .inl ⟨id, hlv, hb⟩
    · rcases hlive i hi' with rfl | ⟨li, _⟩
      · rw [h.freshB] at hx; cases hx
      · exact .inl ⟨i, li, hx⟩
theorem fixK_gl (K : Kn) (b : Nat) (o : Obj) : GlobF (fun x => if x = b then (if (globs b).isSome = true then K.fixed b else some o) else K.fixed x) := by
  intro g l hg
  have := K.gl g l hg
  dsimp only
  by_cases e : g = b
  · subst e; rw [if_pos rfl, hg]; exact this
  · rw [if_neg e]; exact this
def fixK (K : Kn) (b : Nat) (o : Obj) : Kn := ⟨fun x => if x = b then (if (globs b).isSome = true then K.fixed b else some o) else K.fixed x, K.size, K.lp, fixK_gl K b o⟩
theorem fixK_at {K : Kn} {b : Nat} {o : Obj} (h : K.fixed b = none) : (fixK K b o).fixed b = some o := by
  show (if b = b then (if (globs b).isSome = true then K.fixed b else some o) else K.fixed b) = some o
  rw [if_pos rfl]
  cases hg : globs b with
  | none => rfl
  | some l => obtain ⟨cs, e, fr, h1, _⟩ := K.gl b l hg; rw [h] at h1; cases h1
theorem fixK_ne {K : Kn} {b x : Nat} {o : Obj} (h : ¬ x = b) : (fixK K b o).fixed x = K.fixed x := by
  show (if x = b then _ else K.fixed x) = _
  rw [if_neg h]
theorem fixK_le {K : Kn} {b : Nat} {o : Obj} (h : K.fixed b = none) : K.le (fixK K b o) := by
  refine ⟨fun x y hx => ?_, fun _ _ h => h, rfl⟩
  by_cases e : x = b
  · subst e; rw [h] at hx; cases hx
  · rw [fixK_ne e]; exact hx
theorem Inv.fix {K : Kn} {β : Bi} {H : List Ob} {w : World} (h : Inv K β H w) {id b : Nat} {o o' : Ob} {x : Obj}
    (hi : H[id]? = some o) (hl : o.isLive = true) (hb : β id = some b) (hw : w.heap[b]? = some x) (hf : K.fixed b = none) (hd : o'.isLive = false)
    (ho' : ObR (fixK K b x) β w id o') :
    K.le (fixK K b x) ∧ Inv (fixK K b x) β (H.set id o') w ∧ Ev K β H w (fixK K b x) β (H.set id o') w := by
  have hK : K.le (fixK K b x) := fixK_le hf
  have hlv : liveAt H id := ⟨_, hi, hl⟩
  have hlive : ∀ i, liveAt (H.set id o') i → liveAt H i ∧ i ≠ id := by
    rintro i ⟨y, ho, hy⟩
    by_cases e : id = i
    · subst e; rw [set_self hi] at ho; cases ho; rw [hd] at hy; cases hy
    · rw [set_get e] at ho; exact ⟨⟨y, ho, hy⟩, fun x => e x.symm⟩
  refine ⟨hK, ⟨?_, h.size, ?_, ?_, ?_⟩, ⟨hK, fun _ _ h => h, by simp, fun _ _ _ => rfl, Nat.le_refl _, rfl, rfl, rfl, ?_, ?_, fun _ _ => rfl⟩⟩
  · intro y z hz
    by_cases e : y = b
    · subst e; rw [fixK_at hf] at hz; cases hz; exact hw
    · rw [fixK_ne e] at hz; exact h.fixed y z hz
  · intro i y hy; have := h.dom i y hy; simpa using this
  · intro i y hy
    by_cases e : id = i
    · subst e; rw [set_self hi] at hy; cases hy; exact ho'
    · rw [set_get e] at hy
      refine (h.obj i y hy).mono hK (fun _ _ h => h) fun z hz hβ hn => ⟨?_, rfl⟩
      have : z ≠ b := by
        intro ez; subst ez
        exact e (h.inj id i z hlv ⟨y, hy, hz⟩ hb hβ)
      rw [fixK_ne this]; exact hn
  · intro i j y hi' hj' hx hy
    exact h.inj i j y (hlive i hi').1 (hlive j hj').1 hx hy
  · rintro y ⟨i, hi', hy⟩; exact .inl ⟨i, (hlive i hi').1, hy⟩
  · intro y z hz
    by_cases e : y = b
    · subst e; exact .inr (.inl ⟨id, hlv, hb⟩)
    · rw [fixK_ne e] at hz; exact .inl hz
end Fz
namespace Fz
open Go
def LR (K : Kn) (β : Bi) (l : List V) (cs : List Value) : Prop := l.length = cs.length ∧ ∀ i v, l[i]? = some v → VR K β v (cs.getD i Go.undef)
theorem LR.nil (K : Kn) (β : Bi) : LR K β [] [] := ⟨rfl, fun i v h => by simp at h⟩
theorem LR.cons {K : Kn} {β : Bi} {v : V} {c : Value} {l : List V} {cs : List Value} (h : VR K β v c) (hl : LR K β l cs) : LR K β (v :: l) (c :: cs) := by
  refine ⟨by simp [hl.1], fun i u hu => ?_⟩
  cases i with
  | zero => simp at hu; subst hu; exact h
  | succ i => simpa using hl.2 i u (by simpa using hu)
theorem LR.head {K : Kn} {β : Bi} {v : V} {l : List V} {cs : List Value} (h : LR K β (v :: l) cs) : ∃ c r, cs = c :: r ∧ VR K β v c ∧ LR K β l r := by
  cases cs with
  | nil => have := h.1; simp at this
  | cons c r =>
    refine ⟨c, r, rfl, by simpa using h.2 0 v (by simp), by have := h.1; simp at this; exact this, fun i u hu => ?_⟩
    simpa using h.2 (i + 1) u (by simpa using hu)
theorem LR.mono {K K' : Kn} {β β' : Bi} (hK : K.le K') (hβ : ∀ i b, β i = some b → β' i = some b) {l : List V} {cs : List Value} (h : LR K β l cs) : LR K' β' l cs :=
  ⟨h.1, fun i v hv => (h.2 i v hv).mono hK hβ⟩
theorem LR.append {K : Kn} {β : Bi} {l m : List V} {cs ds : List Value} (h : LR K β l cs) (g : LR K β m ds) : LR K β (l ++ m) (cs ++ ds) := by
  refine ⟨by simp [h.1, g.1], fun i v hv => ?_⟩
  by_cases e : i < l.length
  · rw [List.getElem?_append_left e] at hv
    have := h.2 i v hv
    simp only [List.getD, List.getElem?_append_left (by rw [← h.1]; exact e)] at this ⊢
    exact this
  · rw [List.getElem?_append_right (by omega)] at hv
    have := g.2 _ v hv
    simp only [List.getD, List.getElem?_append_right (show cs.length ≤ i by rw [← h.1]; omega), ← h.1] at this ⊢
    exact this
theorem LR.take {K : Kn} {β : Bi} {l : List V} {cs : List Value} (h : LR K β l cs) (n : Nat) : LR K β (l.take n) (cs.take n) := by
  refine ⟨by simp [h.1], fun i v hv => ?_⟩
  by_cases e : i < n
  · simp [List.getElem?_take, e] at hv
    have := h.2 i v hv
    simpa [List.getD, List.getElem?_take, e] using this
  · simp [List.getElem?_take, e] at hv
theorem LR.drop {K : Kn} {β : Bi} {l : List V} {cs : List Value} (h : LR K β l cs) (n : Nat) : LR K β (l.drop n) (cs.drop n) := by
  refine ⟨by simp [h.1], fun i v hv => ?_⟩
  simp only [List.getElem?_drop] at hv
  have := h.2 _ v hv
  simpa [List.getD, List.getElem?_drop] using this
theorem LR.get {K : Kn} {β : Bi} {l : List V} {cs : List Value} (h : LR K β l cs) {i : Nat} {v : V} (hv : l[i]? = some v) : ∃ c, cs[i]? = some c ∧ VR K β v c := by
  have hi : i < cs.length := by rw [← h.1]; exact (List.getElem?_eq_some_iff.1 hv).1
  have := h.2 i v hv
  exact ⟨cs[i], List.getElem?_eq_getElem hi, by simpa [List.getD, hi] using this⟩
theorem LR.of_arr {K : Kn} {β : Bi} {l : List V} {cs : Array Value} (hl : l.length = cs.size) (h : ∀ i v, l[i]? = some v → VR K β v (cs.getD i Go.undef)) : LR K β l cs.toList := by
  refine ⟨by simpa using hl, fun i v hv => ?_⟩
  have := h i v hv
  simpa [List.getD, Array.getD_eq_getD_getElem?] using this
theorem LR.to_arr {K : Kn} {β : Bi} {l : List V} {cs : Array Value} (h : LR K β l cs.toList) : l.length = cs.size ∧ ∀ i v, l[i]? = some v → VR K β v (cs.getD i Go.undef) := by
  refine ⟨by simpa using h.1, fun i v hv => ?_⟩
  have := h.2 i v hv
  simpa [List.getD, Array.getD_eq_getD_getElem?] using this
theorem LR.arr {K : Kn} {β : Bi} {l : List V} {cs : List Value} (h : LR K β l cs) : l.length = cs.toArray.size ∧ ∀ i v, l[i]? = some v → VR K β v (cs.toArray.getD i Go.undef) :=
  LR.to_arr (cs := cs.toArray) (by simpa using h)
theorem LR.csR {K : Kn} {β : Bi} {l : List V} {cs : List Value} (h : LR K β l cs) : CsR K β l cs.toArray := ⟨Nat.le_of_eq h.arr.1, h.arr.2⟩
theorem LR.single {K : Kn} {β : Bi} {v : V} {c : Value} (h : VR K β v c) : LR K β [v] [c] := .cons h (.nil K β)
theorem LR.splice {K : Kn} {β : Bi} {l x : List V} {cs ds : List Value} (h : LR K β l cs) (g : LR K β x ds) (off : Nat) :
    LR K β (Fz.splice l off x) (cs.take off ++ ds ++ cs.drop (off + ds.length)) := by
  unfold Fz.splice
  rw [← g.1]
  exact ((h.take off).append g).append (h.drop _)
theorem LR.mapOpt {K : Kn} {β : Bi} {α : Type} {f : α → Option V} {g : α → Value} : ∀ {l : List α} {x : List V}, Fz.mapOpt f l = some x → (∀ a v, a ∈ l → f a = some v → VR K β v (g a)) → LR K β x (l.map g)
  | [], x, h, _ => by simp [Fz.mapOpt] at h; subst h; exact .nil K β
  | a :: l, x, h, hf => by
    simp only [Fz.mapOpt] at h
    cases ha : f a with
    | none => simp [ha] at h
    | some v =>
      cases hl : Fz.mapOpt f l with
      | none => simp [ha, hl] at h
      | some y =>
        simp [ha, hl] at h; subst h
        exact .cons (hf a v (by simp) ha) (LR.mapOpt hl fun b u hb hu => hf b u (by simp [hb]) hu)
theorem cells_LR {K : Kn} {β : Bi} {v : V} {c : Value} (h : VR K β v c) (ha : v ≠ .any) : LR K β (cellsOf v) c.cells.toList := by
  cases h with
  | agg hl h => exact .of_arr hl h
  | any => exact absurd rfl ha
  | bool b => exact .single (.bool b)
  | int k n => exact .single (.int k n)
  | float k b => exact .single (.float k b)
  | fnan k b h => exact .single (.fnan k b h)
  | str s => exact .single (.str s)
  | nilp => exact .single .nilp
  | ptr h => exact .single (.ptr h)
  | ref hb hl h => exact .single (.ref hb hl h)
  | lnil h => exact .single (.lnil h)
  | list hb hu hn hl hc hcl h => exact .single (.list hb hu hn hl hc hcl h)
  | own h hz hl hz' hn => exact .single (.own h hz hl hz' hn)
  | tuple hl h => exact .single (.tuple hl h)
  | fn hl h hm h' => exact .single (.fn hl h hm h')
  | nilfn => exact .single .nilfn
  | iface h => exact .single (.iface h)
  | niliface => exact .single .niliface
  | nilmap => exact .single .nilmap
  | mref h => exact .single (.mref h)
  | map hb hk hv h h' => exact .single (.map hb hk hv h h')
  | yld h => exact .single (.yld h)
  | anyb b => exact .single (.anyb b)
theorem ofVal_VR (K : Kn) (β : Bi) : ∀ (d : Nat) (c : Value) (v : V), ofVal d c = some v → VR K β v c
  | 0, _, _, h => by simp [ofVal] at h
  | d + 1, c, v, h => by
    unfold ofVal at h
    split at h <;> (try cases h) <;> (try (exact .bool _)) <;> (try (exact .int _ _)) <;> (try (exact .float _ _)) <;> (try (exact .str _)) <;> (try (exact .nilp)) <;> (try (exact .nilmap)) <;> (try (exact .nilfn)) <;> (try (exact .niliface))
    · exact .lnil fun _ => rfl
    · rename_i cs
      cases hm : mapOpt (ofVal d) cs.toList with
      | none => simp [hm] at h
      | some l =>
        simp [hm] at h; subst h
        have := LR.mapOpt (K := K) (β := β) (g := fun x => x) hm fun a v _ hv => ofVal_VR K β d a v hv
        simp only [List.map_id'] at this
        exact .agg this.to_arr.1 this.to_arr.2
    · rename_i cs
      cases hm : mapOpt (ofVal d) cs.toList with
      | none => simp [hm] at h
      | some l =>
        simp [hm] at h; subst h
        have := LR.mapOpt (K := K) (β := β) (g := fun x => x) hm fun a v _ hv => ofVal_VR K β d a v hv
        simp only [List.map_id'] at this
        exact .tuple this.to_arr.1 this.to_arr.2
theorem ofVal_any {d : Nat} {c : Value} {v : V} (h : ofVal d c = some v) : v ≠ .any := by
  rintro rfl
  cases d with
  | zero => simp [ofVal] at h
  | succ d =>
    unfold ofVal at h
    split at h <;> first
      | (cases h; done)
      | (cases hm : mapOpt (ofVal d) (Array.toList ‹Array Value›) <;> simp [hm] at h)
structure ER (K : Kn) (β : Bi) (nt : Nat) (e : Env) (a : Act) : Prop where
  size : nt ≤ a.tmps.size
  val : ∀ t, VR K β (e t) (a.tmps.getD t Go.undef)
theorem ER.mono {K K' : Kn} {β β' : Bi} (hK : K.le K') (hβ : ∀ i b, β i = some b → β' i = some b) {nt : Nat} {e : Env} {a : Act} (h : ER K β nt e a) : ER K' β' nt e a :=
  ⟨h.size, fun t => (h.val t).mono hK hβ⟩
theorem ER.put {K : Kn} {β : Bi} {nt : Nat} {e : Env} {a : Act} (h : ER K β nt e a) {d : Option Nat} (hd : ∀ t, d = some t → t < nt) {v : V} {c : Value} (hv : VR K β v c) :
    ER K β nt (putE e d v) (a.put d c) := by
  cases d with
  | none => exact h
  | some t =>
    have ht : t < a.tmps.size := Nat.lt_of_lt_of_le (hd t rfl) h.size
    refine ⟨by simpa [Act.put] using h.size, fun i => ?_⟩
    by_cases ei : i = t
    · subst ei; simpa [putE, upd, Act.put, ht] using hv
    · have := h.val i
      simpa [putE, upd, Act.put, ei, Array.getElem?_setIfInBounds, Ne.symm ei] using this
theorem ER.opd {K : Kn} {β : Bi} {nt : Nat} {e : Env} {a : Act} (h : ER K β nt e a) {x : Operand} {y : Opd} (hc : cOpd x = some y) : VR K β (evO e y) (a.eval x) := by
  cases x with
  | tmp t => simp [cOpd] at hc; subst hc; exact h.val t
  | const v =>
    simp only [cOpd] at hc
    cases ho : ofVal 4 v with
    | none => simp [ho] at hc
    | some u => simp [ho] at hc; subst hc; exact ofVal_VR K β 4 v u ho
  | func f => simp [cOpd] at hc; subst hc; exact .fn rfl (fun i v h => by simp at h) rfl (fun i v h => by simp at h)
  | global g =>
    simp only [cOpd] at hc
    cases hg : globs g with
    | none =>
      rw [hg] at hc
      cases hc
      exact .any _
    | some l =>
      rw [hg] at hc
      cases hc
      obtain ⟨cs, et, fr, h1, h2, h3⟩ := K.gl g l hg
      refine .ref (o := 0) h1 (by omega) fun i v hv => ?_
      obtain ⟨k, n, rfl, h4⟩ := h3 i v hv
      rw [Nat.zero_add, h4]; exact .int k n
def callG (f : FuncId) (cargs : Array Value) : Sem Next := if f = YF then (match cargs.toList with
  | .func (.yield b) _ _ :: r => Instr.yield b r.toArray
  | _ => callFunc f cargs) else callFunc f cargs
theorem callG_fn {f : FuncId} (h : f ≠ YF) (cargs : Array Value) : callG f cargs = callFunc f cargs := if_neg h
def OpOk (P : Program) (K : Kn) (β : Bi) (H : List Ob) (w : World) (r : Result Next) : OR → Prop
  | .val v H' => ∃ c w' K' β', r = .ok (.value c) w' ∧ VR K' β' v c ∧ Inv K' β' H' w' ∧ Ev K β H w K' β' H' w'
  | .skip H' => ∃ w' K' β', r = .ok .skip w' ∧ Inv K' β' H' w' ∧ Ev K β H w K' β' H' w'
  | .panic v H' => ∃ c w' K' β', r = .halt (.panic c) w' ∧ VR K' β' v c ∧ Inv K' β' H' w' ∧ Ev K β H w K' β' H' w'
  | .call f args => ∃ cargs : Array Value, r = (callG f cargs).run P w ∧ LR K β args cargs.toList
theorem OpOk.pure {P : Program} {K : Kn} {β : Bi} {H : List Ob} {w : World} {r : Result Next} {v : V} {c : Value} (hI : Inv K β H w) (hr : r = .ok (.value c) w) (hv : VR K β v c) :
    OpOk P K β H w r (.val v H) := ⟨c, w, K, β, hr, hv, hI, .refl K β H w⟩
theorem cell_of_heap {w : World} {b o : Nat} {cs : Array Value} {e : TypeId} {fr : Nat × Nat} (h : w.heap[b]? = some (.cells cs e fr)) : w.cell? ⟨b, o, none⟩ = cs[o]? := by
  simp [World.cell?, h]
structure Seen (K : Kn) (β : Bi) (w : World) (b o n : Nat) (l : List V) (ds : List Value) : Prop where
  rel : LR K β l ds
  len : l.length = n
  cell : ∀ j x, ds[j]? = some x → w.cell? ⟨b, o + j, none⟩ = some x
theorem seen_of {K : Kn} {β : Bi} {w : World} {b o n k : Nat} {l : List V} {cs : Array Value} {e : TypeId} {fr : Nat × Nat} (hw : w.heap[b]? = some (.cells cs e fr))
    (hl : k + l.length ≤ cs.size) (h : ∀ i v, l[i]? = some v → VR K β v (cs.getD (k + i) Go.undef)) (off : Nat) (ho : o = k + off) (hn : off + n ≤ l.length) :
    Seen K β w b o n ((l.drop off).take n) ((cs.toList.drop o).take n) := by
  subst ho
  refine ⟨⟨by simp; omega, fun i v hv => ?_⟩, by simp; omega, fun j x hx => ?_⟩
  · by_cases e : i < n
    · simp [List.getElem?_take, e, List.getElem?_drop] at hv
      have := h _ v hv
      simpa [List.getD, List.getElem?_take, e, List.getElem?_drop, Array.getD_eq_getD_getElem?, Nat.add_assoc] using this
    · simp [List.getElem?_take, e] at hv
  · rw [cell_of_heap hw]
    by_cases e : j < n
    · simpa [List.getElem?_take, e, List.getElem?_drop] using hx
    · simp [List.getElem?_take, e] at hx
theorem peek_sound {K : Kn} {β : Bi} {H : List Ob} {w : World} (hI : Inv K β H w) {v : V} {c : Value} (hv : VR K β v c) {n : Nat} {l : List V} (hp : peek H n v = some l) :
    ∃ b o ds, c = .pointer (some ⟨b, o, none⟩) ∧ Seen K β w b o n l ds := by
  cases v <;> simp only [peek] at hp <;> try (cases hp; done)
  case ref m =>
    split at hp <;> cases hp
    cases hv with
    | ref hb hl h =>
      rename_i hn b o cs e fr
      exact ⟨b, o, _, rfl, by simpa using seen_of (hI.fixed _ _ hb) hl h 0 (Nat.add_zero o).symm (by omega)⟩
  case ptr id off =>
    cases hv with
    | ptr hβ =>
      rename_i b
      cases ho : H[id]? with
      | none => simp [ho] at hp
      | some ob =>
        have hob := hI.obj id ob ho
        cases ob <;> simp only [ho] at hp <;> try (cases hp; done)
        case live m =>
          obtain ⟨b', cs, e, h1, h2, h3, h4, h5, h6⟩ := hob
          rw [hβ] at h1; cases h1
          split at hp <;> cases hp
          exact ⟨b, off, _, rfl, seen_of h4 (k := 0) (by omega) (by simpa using h6) off (by omega) (by omega)⟩
        case fixed m =>
          obtain ⟨b', cs, e, fr, h1, h2, h3, h5, h6⟩ := hob
          rw [hβ] at h1; cases h1
          split at hp <;> cases hp
          exact ⟨b, off, _, rfl, seen_of (hI.fixed _ _ h2) (k := 0) (by omega) (by simpa using h6) off (by omega) (by omega)⟩
theorem addr_add (b o n : Nat) : (⟨b, o, none⟩ : Addr).add n = ⟨b, o + n, none⟩ := by
  unfold Addr.add; split
  · subst_vars; rfl
  · rfl
theorem seen_load {P : Program} {K : Kn} {β : Bi} {w : World} {b o n : Nat} {l : List V} {ds : List Value} (h : Seen K β w b o n l ds) :
    (loadCells ⟨b, o, none⟩ n).run P w = .ok ds.toArray w := by
  rw [← h.len, h.rel.1]
  exact run_loadCells_list w _ ds fun j x hx => by rw [addr_add]; exact h.cell j x hx
theorem isAgg_run {P : Program} {t : TypeId} {a : Bool} (h : tAgg P t = some a) (w : World) : (isAgg t).run P w = .ok a w := by
  unfold tAgg at h
  cases hu : P.underlying t with
  | none => simp [hu] at h
  | some d =>
    have hr := run_underlying hu w
    cases d <;> simp [hu] at h <;> subst h <;> simp [isAgg, hr]
theorem sizeOf_run {P : Program} {t : TypeId} {n : Nat} (h : tSize P t = some n) (w : World) : (Go.sizeOf t).run P w = .ok n w := by
  unfold tSize at h
  cases hi : P.info? t with
  | none => simp [hi] at h
  | some i => simp [hi] at h; simp [Go.sizeOf, typeInfo, hi, h]
theorem zero_run {P : Program} {t : TypeId} {z : List V} (h : tZero P t = some z) (K : Kn) (β : Bi) : ∃ c, (∀ w, (zeroValue t).run P w = .ok c w) ∧ LR K β z c.cells.toList := by
  unfold tZero at h
  cases hi : P.info? t with
  | none => simp [hi] at h
  | some i =>
    cases hz : i.zero with
    | none => simp [hi, hz] at h
    | some c =>
      simp [hi, hz] at h
      obtain ⟨v, hv, rfl⟩ := h
      exact ⟨c, fun w => by simp [zeroValue, typeInfo, hi, hz], cells_LR (ofVal_VR K β 4 c v hv) (ofVal_any hv)⟩
theorem loadVar_sound {P : Program} {K : Kn} {β : Bi} {H : List Ob} {w : World} (hI : Inv K β H w) {v : V} {c : Value} (hv : VR K β v c) {n : Nat} {t : TypeId} {a : Bool} {l : List V} (hp : peek H n v = some l)
    (ha : tAgg P t = some a) (hn : tSize P t = some n) : ∃ b o, c = .pointer (some ⟨b, o, none⟩) ∧
      (a = true → ∃ d, (loadVar t ⟨b, o, none⟩).run P w = .ok d w ∧ VR K β (.agg l) d) ∧
      (a = false → ∀ u, l = [u] → ∃ d, (loadVar t ⟨b, o, none⟩).run P w = .ok d w ∧ VR K β u d) := by
  obtain ⟨b, o, ds, hc, hs⟩ := peek_sound hI hv hp
  refine ⟨b, o, hc, fun hat => ?_, fun haf u hu => ?_⟩
  · subst hat
    refine ⟨.agg ds.toArray, ?_, .agg hs.rel.arr.1 hs.rel.arr.2⟩
    simp [loadVar, isAgg_run ha, sizeOf_run hn, seen_load hs]
  · subst haf; subst hu
    obtain ⟨d, hd, hvd⟩ := hs.rel.get (i := 0) (v := u) (by simp)
    refine ⟨d, ?_, hvd⟩
    have := hs.cell 0 d hd
    simp at this
    simp [loadVar, isAgg_run ha, this]
end Fz
namespace Fz
open Go
theorem new_ok {P : Program} {K : Kn} {β : Bi} {H : List Ob} {w w' : World} {r : Result Next} (hI : Inv K β H w) {l : List V} {cs : Array Value} {t : TypeId} (hc : CsR K β l cs)
    (hr : r = .ok (.value (.pointer (some ⟨w.heap.size, 0, none⟩))) w') (hh : w'.heap = w.heap.push (.cells cs t)) (h1 : w'.os = w.os) (h2 : w'.tape = w.tape) (h3 : w'.output = w.output) :
    OpOk P K β H w r (.val (.ptr H.length 0) (H ++ [.live l])) := by
  obtain ⟨_, _, g3, _, g5, g6⟩ := hI.new hc hh h1 h2 h3
  exact ⟨_, w', _, _, hr, .ptr g3, g5, g6⟩
theorem newSlice_ok {P : Program} {K : Kn} {β : Bi} {H : List Ob} {w w' : World} {r : Result Next} (hI : Inv K β H w) {l : List V} {cs : Array Value} {t : TypeId} {len cap n : Nat} (hc : CsR K β l cs)
    (hr : r = .ok (.value (.slice (some ⟨w.heap.size, 0, none⟩) len cap)) w') (hh : w'.heap = w.heap.push (.cells cs t)) (h1 : w'.os = w.os) (h2 : w'.tape = w.tape) (h3 : w'.output = w.output)
    (hl : len ≤ cap) (hz : cap * n ≤ cs.size) (hn : n ≠ 0) :
    OpOk P K β H w r (.val (.own H.length 0 len n) (H ++ [.live l])) := by
  obtain ⟨_, _, g3, g4, g5, g6⟩ := hI.new hc hh h1 h2 h3
  exact ⟨_, w', _, _, hr, .own g3 g4 hl (by omega) hn, g5, g6⟩
theorem setRow_all (w : World) {b : Nat} {cs cs' : Array Value} {t : TypeId} {fr : Nat × Nat} (h : w.heap[b]? = some (.cells cs t fr)) (x : Nat) :
    (w.setRow b cs').heap[x]? = if x = b then some (.cells cs' t fr) else w.heap[x]? := by
  by_cases e : x = b
  · subst e; rw [if_pos rfl]; exact setRow_heap w x cs cs' t fr h
  · rw [if_neg e]; exact setRow_other w b x cs' e
theorem VR.oneCell {K : Kn} {β : Bi} {v : V} {c : Value} (h : VR K β v c) (hs : storable v = true) : c.oneCell' = true := by
  cases h <;> first | rfl | (simp [storable] at hs)
theorem LR.oneCell {K : Kn} {β : Bi} : ∀ {l : List V} {cs : List Value}, LR K β l cs → l.all storable = true → ∀ c ∈ cs, c.oneCell' = true
  | [], cs, h, _ => by
    have := h.1; simp at this
    have : cs = [] := List.eq_nil_of_length_eq_zero this.symm
    subst this; intro c hc; cases hc
  | v :: l, cs, h, hs => by
    obtain ⟨c, r, rfl, h1, h2⟩ := h.head
    simp at hs
    intro x hx
    rcases List.mem_cons.1 hx with rfl | hx
    · exact h1.oneCell hs.1
    · exact LR.oneCell h2 (by simpa using hs.2) x hx
theorem write_ok {P : Program} {K : Kn} {β : Bi} {H : List Ob} {w : World} (hI : Inv K β H w) {id b off : Nat} {l x : List V} {ds : List Value} (hi : H[id]? = some (.live l)) (hb : β id = some b)
    (hx : LR K β x ds) (hl : off + x.length ≤ l.length) (hs : x.all storable = true) :
    ∃ w', (storeCells ⟨b, off, none⟩ ds).run P w = .ok () w' ∧ Inv K β (H.set id (.live (splice l off x))) w' ∧ Ev K β H w K β (H.set id (.live (splice l off x))) w' := by
  obtain ⟨b', cs, e, h1, h2, h3, h4, h5, h6⟩ := hI.obj id _ hi
  rw [hb] at h1; cases h1
  have hlen := hx.1
  refine ⟨_, run_storeCells_at P b off e ds 0 cs w h4 (by omega) (hx.oneCell hs), ?_⟩
  have hsz : ((cs.toList.take (off + 0) ++ ds ++ cs.toList.drop (off + 0 + ds.length)).toArray).size = cs.size := by simp; omega
  refine hI.put hi hb h4 hsz ?_ (setRow_all w h4) (by simp) rfl rfl rfl
  have hbase : LR K β l (cs.toList.take l.length) := by
    refine ⟨by simp; omega, fun i v hv => ?_⟩
    have hil : i < l.length := (List.getElem?_eq_some_iff.1 hv).1
    have := h6 i v hv
    simpa [List.getD, List.getElem?_take, hil, Array.getD_eq_getD_getElem?] using this
  have hsp := hbase.splice hx off
  refine ⟨by rw [hsz]; simp [splice]; omega, fun i v hv => ?_⟩
  obtain ⟨c, hc, hvc⟩ := hsp.get hv
  have hil : i < l.length := by
    have := (List.getElem?_eq_some_iff.1 hv).1
    simp [splice] at this; omega
  have : (cs.toList.take (off + 0) ++ ds ++ cs.toList.drop (off + 0 + ds.length))[i]? = some c := by
    rw [← hc]
    simp only [Nat.add_zero, List.getElem?_append, List.length_append, List.length_take, List.getElem?_take, List.getElem?_drop]
    have e1 : min off (min l.length cs.toList.length) = min off cs.toList.length := by simp; omega
    rw [e1]
    have e2 : ¬ i < min off cs.toList.length + ds.length → off + ds.length + (i - (min off cs.toList.length + ds.length)) < l.length := by simp; omega
    split
    · repeat' split
      all_goals first | rfl | omega
    · rename_i hn; rw [if_pos (e2 hn)]
  simp only [List.append_assoc, Nat.add_zero] at this
  simpa [List.getD, Array.getD_eq_getD_getElem?, this] using hvc
theorem foldl_set (off : Nat) : ∀ (vs : List Value) (k : Nat) (cs : Array Value), off + k + vs.length ≤ cs.size →
    ((vs.zipIdx k).foldl (fun (cs : Array Value) (p : Value × Nat) => cs.setIfInBounds (off + p.2) p.1) cs).toList = cs.toList.take (off + k) ++ vs ++ cs.toList.drop (off + k + vs.length)
  | [], k, cs, _ => by simp
  | v :: vs, k, cs, h => by
    simp only [List.zipIdx_cons, List.foldl_cons]
    rw [foldl_set off vs (k + 1) _ (by simp at h ⊢; omega)]
    simp only [Array.toList_setIfInBounds]
    have := list_seg_step cs.toList (off + k) v vs (by simp at h ⊢; omega)
    rw [show off + (k + 1) = off + k + 1 from by omega]
    simpa using this
theorem fill_sound {K : Kn} {β : Bi} {place : Nat → Option (Nat × Nat)} : ∀ (ps : List (Nat × Value)) (qs : List (Nat × Nat × V)) (cells : Array Value) (z l : List V),
    ps.length = qs.length → (∀ (i : Nat) (p : Nat × Value) (q : Nat × Nat × V), ps[i]? = some p → qs[i]? = some q → place p.1 = some (q.1, q.2.1) ∧ VR K β q.2.2 p.2) → LR K β z cells.toList → fillV z qs = some l →
    ∃ cs, Instr.fill place cells ps = some cs ∧ LR K β l cs.toList
  | [], qs, cells, z, l, hlen, _, hz, hf => by
    cases qs with
    | nil => simp [fillV] at hf; subst hf; exact ⟨cells, rfl, hz⟩
    | cons => simp at hlen
  | (i, c) :: ps, qs, cells, z, l, hlen, hr, hz, hf => by
    cases qs with
    | nil => simp at hlen
    | cons q qs =>
      obtain ⟨off, n, v⟩ := q
      obtain ⟨hp, hv⟩ := hr 0 (i, c) (off, n, v) rfl rfl
      simp only [fillV] at hf
      split at hf
      · rename_i hc
        obtain ⟨h1, h2, h3⟩ := hc
        have hany : v ≠ .any := by rintro rfl; simp [isAny] at h3
        have hcl := cells_LR hv hany
        have e1 : c.cells.size = n := by rw [← h1]; simpa using hcl.1.symm
        have e2 : z.length = cells.size := by simpa using hz.1
        simp only at hp
        simp only [Instr.fill, hp]
        rw [if_neg (by simp [e1]; omega)]
        have hs := hz.splice hcl off
        refine fill_sound ps qs _ _ l (by simpa using hlen) (fun j p q hp hq => hr (j + 1) p q (by simpa using hp) (by simpa using hq)) ?_ hf
        have e3 := foldl_set off c.cells.toList 0 cells (by simp; omega)
        rw [← Array.foldl_toList, Array.toList_zipIdx]
        rw [e3]
        simpa using hs
      · cases hf
theorem zeros_len (z : List V) : ∀ k, (zeros z k).length = k * z.length
  | 0 => by simp [zeros]
  | k + 1 => by simp [zeros, zeros_len z k, Nat.add_mul]; omega
theorem zeros_get (z : List V) (hz : z.length ≠ 0) : ∀ (k i : Nat), i < k * z.length → (zeros z k)[i]? = z[i % z.length]?
  | 0, i, h => by simp at h
  | k + 1, i, h => by
    simp only [zeros]
    by_cases e : i < z.length
    · rw [List.getElem?_append_left e, Nat.mod_eq_of_lt e]
    · rw [List.getElem?_append_right (by omega), zeros_get z hz k (i - z.length) (by rw [Nat.add_mul] at h; omega)]
      congr 1
      rw [Nat.mod_eq_sub_mod (a := i) (by omega)]
theorem zeros_LR {K : Kn} {β : Bi} {z : List V} {zc : Array Value} (h : LR K β z zc.toList) (hz : z.length ≠ 0) (k : Nat) :
    LR K β (zeros z k) ((Array.range (k * zc.size)).map fun i => zc[i % zc.size]!).toList := by
  have hs : z.length = zc.size := by simpa using h.1
  refine ⟨by simp [zeros_len, hs], fun i v hv => ?_⟩
  have hi : i < k * z.length := by rw [← zeros_len z k]; exact (List.getElem?_eq_some_iff.1 hv).1
  rw [zeros_get z hz k i hi] at hv
  obtain ⟨c, hc, hvc⟩ := h.get hv
  rw [hs] at hi hc
  have : zc[i % zc.size]! = c := by
    simp only [Array.getElem?_toList] at hc
    simp [getElem!_def, hc]
  simpa [List.getD, hi, this] using hvc
theorem flat_len {n : Nat} : ∀ {l : List V}, (∀ v ∈ l, (cellsOf v).length = n) → (flat l).length = l.length * n
  | [], _ => by simp [flat]
  | v :: l, h => by
    have h1 := h v (by simp)
    have h2 := flat_len (l := l) fun u hu => h u (by simp [hu])
    simp only [flat, List.flatMap_cons, List.length_append] at h2 ⊢
    simp only [List.length_cons, Nat.add_mul]; omega
structure Elems (P : Program) (K : Kn) (β : Bi) (w : World) (n : Nat) (c : Value) (xs : List V) (k : Nat) : Prop where
  len : (Builtin.lenOf c).run P w = .ok k w
  size : xs.length = k * n
  first : ∀ m, m ≤ k → ∃ ds : List Value, (∀ w', w'.heap = w.heap → (Builtin.firstCells n m c).run P w' = .ok ds.toArray w') ∧ LR K β (xs.take (m * n)) ds
theorem Seen.heap {K : Kn} {β : Bi} {w w' : World} {b o n : Nat} {l : List V} {ds : List Value} (h : Seen K β w b o n l ds) (hh : w'.heap = w.heap) : Seen K β w' b o n l ds :=
  ⟨h.rel, h.len, fun j x hx => by have := h.cell j x hx; simpa [World.cell?, hh] using this⟩
theorem elems_sound {P : Program} {K : Kn} {β : Bi} {H : List Ob} {w : World} (hI : Inv K β H w) {v : V} {c : Value} (hv : VR K β v c) {n k : Nat} {xs : List V} (he : elems H n v = some (xs, k)) : Elems P K β w n c xs k := by
  have hmul : ∀ {m k : Nat}, m ≤ k → m * n ≤ k * n := fun h => Nat.mul_le_mul_right n h
  cases v <;> simp only [elems] at he <;> try (cases he; done)
  case str s =>
    cases hv
    split at he <;> cases he
    rename_i hn; subst hn
    refine ⟨by simp [Builtin.lenOf], by simp, fun m hm => ?_⟩
    have hm' : ((s.extract 0 m).data.map fun b => Value.int .u8 b.toNat) = ((s.data.toList.map fun b => Value.int .u8 b.toNat).take m).toArray := by
      apply Array.ext'
      simp [← List.map_take]
    refine ⟨(s.data.toList.map fun b => Value.int .u8 b.toNat).take m, fun w' _ => by simp [Builtin.firstCells, ← hm'], ?_⟩
    rw [Nat.mul_one]
    refine LR.take ⟨by simp, fun i v hv => ?_⟩ m
    simp at hv
    obtain ⟨b, hb, rfl⟩ := hv
    simp [List.getD, hb]
    exact .int _ _
  case list l cl =>
    split at he <;> cases he
    rename_i hu
    have hu' : ∀ v ∈ l, (cellsOf v).length = n := by
      intro v hv
      have := List.all_eq_true.1 hu v hv
      simpa using this
    cases hv with
    | lnil h =>
      rename_i a cap
      refine ⟨by simp [Builtin.lenOf], by simp [flat], fun m hm => ?_⟩
      have : m = 0 := by simpa using hm
      subst this
      refine ⟨[], fun w' _ => ?_, by simp [flat]; exact .nil K β⟩
      cases a <;> simp [Builtin.firstCells, loadCells, loadCellsFrom]
    | list hb hun hn hl hc hcl h =>
      rename_i b o n' cap cs e fr
      have hfl := flat_len hun
      refine ⟨by simp [Builtin.lenOf], flat_len hu', fun m hm => ?_⟩
      have hnn : m ≠ 0 → n' = n := by
        intro h0
        cases l with
        | nil => simp at hm; omega
        | cons v r => rw [← hun v (by simp), ← hu' v (by simp)]
      have hmn : m * n = m * n' := by
        by_cases h0 : m = 0
        · simp [h0]
        · rw [hnn h0]
      have hs := seen_of (w := w) (b := b) (o := o) (n := m * n) (hI.fixed _ _ hb) (by rw [hfl]; exact hl) h 0 (Nat.add_zero o).symm (by rw [hfl, hmn, Nat.zero_add]; exact Nat.mul_le_mul_right n' hm)
      refine ⟨_, fun w' hh => by simpa [Builtin.firstCells] using seen_load (hs.heap hh), by simpa using hs.rel⟩
  case own id off len m =>
    split at he
    · rename_i hm
      subst hm
      cases hv with
      | own hβ hz hl hz' hn =>
        rename_i b z cap
        cases hp : peek H (len * m) (.ptr id off) with
        | none => rw [hp] at he; cases he
        | some l =>
          rw [hp] at he; simp at he
          obtain ⟨rfl, rfl⟩ := he
          obtain ⟨b', o', ds, hc, hs⟩ := peek_sound hI (.ptr hβ) hp
          cases hc
          refine ⟨by simp [Builtin.lenOf], hs.len, fun q hq => ?_⟩
          have hqm := hmul hq
          have hs' : Seen K β w b off (q * m) (l.take (q * m)) (ds.take (q * m)) :=
            ⟨hs.rel.take _, by rw [List.length_take, hs.len]; omega, fun j x hx => hs.cell j x (by
              by_cases e : j < q * m
              · simpa [List.getElem?_take, e] using hx
              · simp [List.getElem?_take, e] at hx)⟩
          exact ⟨_, fun w' hh => by simpa [Builtin.firstCells] using seen_load (hs'.heap hh), hs'.rel⟩
    · cases he
theorem growBy_le (need : Nat) : ∀ (r c : Nat), c ≤ 2 * need + 1000 → Builtin.growBy need r c ≤ 2 * need + 1000
  | 0, c, h => by simpa [Builtin.growBy] using h
  | r + 1, c, h => by
    unfold Builtin.growBy
    split
    · exact h
    · exact growBy_le need r _ (by omega)
theorem nextslicecap_le {need cap : Nat} (h : cap < need) : Builtin.nextslicecap need cap ≤ 2 * need + 1000 := by
  unfold Builtin.nextslicecap
  split
  · omega
  · split
    · omega
    · exact growBy_le need 4 cap (by omega)
theorem cap_ok {need cap bytes : Nat} (h : cap < need) (hc : capOk need bytes = true) : ¬ Builtin.nextslicecap need cap * bytes > 2 ^ 48 := by
  have := Nat.mul_le_mul_right bytes (nextslicecap_le h)
  unfold capOk at hc
  simp only [Bool.and_eq_true, decide_eq_true_eq] at hc
  omega
end Fz
namespace Fz
open Go
theorem eqGuard_ok {P : Program} {op : BinOp} {t : TypeId} {x y : Operand} {a b : Value} (h1 : ∀ h : a = .nilIface, b ≠ .nilIface) (h2 : ∀ cs ds, a = .agg cs → b ≠ .agg ds) (w : World) :
    (eqGuard op t x y a b).run P w = .ok () w := by
  have key : (match a, b with
      | .nilIface, .nilIface => (do
        if (x matches .const _) || (y matches .const _) then return
        if ← Op.eqGuardIn Op.maxDepth t a b then unsupported (.noEntry "binop/eql: two nil values of an interface type with methods, neither of them the literal nil") : Sem Unit)
      | .agg _, .agg _ => (do
        if !(← program).eqGuardType (← program).depth t then return
        if ← Op.eqGuardIn Op.maxDepth t a b then unsupported (.noEntry "binop/eql: two nil values of an interface type with methods, in a part of a struct or an array") : Sem Unit)
      | _, _ => (pure () : Sem Unit)) = pure () := by
    split
    · exact absurd rfl (h1 rfl)
    · exact absurd rfl (h2 _ _ rfl)
    · rfl
  unfold eqGuard
  cases op <;> first
    | rfl
    | exact congrArg (fun s : Sem Unit => s.run P w) key
theorem nan_of {f : Ieee.Format} {b : Nat} (h : f.infRung < b % f.signWeight) (h' : f.binade ≤ f.infRung) : ∃ s t, f.read b = .nan s t := by
  refine ⟨b / f.signWeight % 2 == 1, b % f.signWeight - f.infRung, ?_⟩
  unfold Ieee.Format.read
  dsimp only
  rw [if_neg (by omega), if_neg (by omega), if_neg (by omega)]
theorem nan_read {k : FloatKind} {b : Nat} (h : isNaNbits k b) : ∃ s t, k.format.read b = .nan s t := by
  obtain ⟨t, rfl⟩ := h
  cases k with
  | f32 =>
    refine nan_of ?_ (by decide)
    show 0x7f800000 < ((t % 2) * 2 ^ 31 + 0x7f800000 + 1 + (t / 2) % (2 ^ 23 - 1)) % 2 ^ 31
    have h1 : (t / 2) % (2 ^ 23 - 1) < 2 ^ 23 - 1 := Nat.mod_lt _ (by decide)
    generalize (t / 2) % (2 ^ 23 - 1) = r at h1
    rw [show t % 2 * 2 ^ 31 + 0x7f800000 + 1 + r = (0x7f800000 + 1 + r) + 2 ^ 31 * (t % 2) from by omega, Nat.add_mul_mod_self_left, Nat.mod_eq_of_lt (by omega)]
    omega
  | f64 =>
    refine nan_of ?_ (by decide)
    show 0x7ff0000000000000 < ((t % 2) * 2 ^ 63 + 0x7ff0000000000000 + 1 + (t / 2) % (2 ^ 52 - 1)) % 2 ^ 63
    have h1 : (t / 2) % (2 ^ 52 - 1) < 2 ^ 52 - 1 := Nat.mod_lt _ (by decide)
    generalize (t / 2) % (2 ^ 52 - 1) = r at h1
    rw [show t % 2 * 2 ^ 63 + 0x7ff0000000000000 + 1 + r = (0x7ff0000000000000 + 1 + r) + 2 ^ 63 * (t % 2) from by omega, Nat.add_mul_mod_self_left, Nat.mod_eq_of_lt (by omega)]
    omega
theorem nan_order {k : FloatKind} {a : Nat} (h : isNaNbits k a) (b : Nat) : k.format.order a b = none := by
  obtain ⟨s, t, h⟩ := nan_read h
  unfold Ieee.Format.order
  rw [h]; rfl
def Drew (w w' : World) : Prop := w'.heap = w.heap ∧ w'.os = w.os ∧ w'.tape = w.tape ∧ w'.output = w.output
theorem Drew.refl (w : World) : Drew w w := ⟨rfl, rfl, rfl, rfl⟩
theorem OpOk.drew {P : Program} {K : Kn} {β : Bi} {H : List Ob} {w w' : World} {r : Result Next} {v : V} {c : Value} (hI : Inv K β H w) (hd : Drew w w') (hr : r = .ok (.value c) w') (hv : VR K β v c) :
    OpOk P K β H w r (.val v H) := ⟨c, w', K, β, hr, hv, hI.drawn hd.1, .drawn hd.1 hd.2.1 hd.2.2.1 hd.2.2.2⟩
theorem floatV_sound {P : Program} {K : Kn} {β : Bi} {w : World} {op : BinOp} {k : FloatKind} {a b : Nat} (r : Option Nat)
    (h : Op.floatArith op k a b = (match r with | some x => pure (.float k x) | none => do pure (.float k (← choose (.nanBits k a b))))) :
    ∃ c w', (Op.floatArith op k a b).run P w = .ok c w' ∧ VR K β (floatV k r) c ∧ Drew w w' := by
  rw [h]
  cases r with
  | some x => exact ⟨.float k x, w, rfl, .float k x, .refl w⟩
  | none =>
    refine ⟨.float k ((Question.nanBits k a b).cut (w.tape w.drawn (.nanBits k a b))), { w with drawn := w.drawn + 1 }, ?_, ?_, ⟨rfl, rfl, rfl, rfl⟩⟩
    · simp [Question.forced]
    · refine .fnan k _ ⟨w.tape w.drawn (.nanBits k a b), ?_⟩
      cases k <;> rfl
theorem cmpInt_sound {P : Program} {K : Kn} {β : Bi} {w : World} {op : BinOp} {a b : Int} {r : Bool} (h : cmpInt op a b = some r) : ∃ c, (Op.intCmp op a b).run P w = .ok c w ∧ VR K β (.bool r) c := by
  unfold cmpInt at h
  split at h <;> cases h <;> exact ⟨_, rfl, .bool _⟩
theorem bitsInt_sound {P : Program} {K : Kn} {β : Bi} {w : World} {op : BinOp} {k : IntKind} {a b r : Int} (h : bitsInt op k a b = some r) : ∃ c, (Op.intBits op k a b).run P w = .ok c w ∧ VR K β (.int k r) c := by
  unfold bitsInt at h
  split at h <;> cases h <;> exact ⟨_, rfl, .int _ _⟩
theorem cmpF_sound {P : Program} {K : Kn} {β : Bi} {w : World} {op : BinOp} {k : FloatKind} {a b : Nat} {r : Bool} (h : cmpF op (k.format.order a b) = some r) : ∃ c, (Op.floatCmp op k a b).run P w = .ok c w ∧ VR K β (.bool r) c := by
  unfold cmpF at h
  split at h <;> cases h <;> exact ⟨_, rfl, .bool _⟩
theorem equal_eq (t : TypeId) (x y : Value) : Op.equal t x y = Op.equalIn (9999 + 1) t x y := rfl
theorem eqV_sound {P : Program} {K : Kn} {β : Bi} {w : World} {t : TypeId} {x y : V} {cx cy : Value} {r : Bool} (hx : VR K β x cx) (hy : VR K β y cy) (h : eqV (cEq P t) x y = some r) :
    (Op.equal t cx cy).run P w = .ok r w ∧ (∀ h : cx = .nilIface, cy ≠ .nilIface) ∧ (∀ cs ds, cx = .agg cs → cy ≠ .agg ds) ∧
      binOp .eql t cx cy = (do pure (.bool (← Op.equal t cx cy))) ∧ binOp .neq t cx cy = (do pure (.bool (!(← Op.equal t cx cy)))) := by
  unfold cEq at h
  cases hu : P.underlying t with
  | none => rw [hu] at h; simp [eqV] at h
  | some d =>
    rw [hu] at h
    have hr := run_underlying hu w
    cases d <;> simp only [eqV] at h <;> first
      | (cases h; done)
      | (unfold eqB at h
         split at h <;> cases h
         cases hx; cases hy
         exact ⟨by rw [equal_eq, Op.equalIn]; simp only [Sem.run_bind, hr, Result.andThen_ok]; rfl, by simp, by simp, rfl, rfl⟩)
      | (unfold eqP at h
         split at h <;> cases h <;> cases hx <;> cases hy <;>
           exact ⟨by rw [equal_eq, Op.equalIn]; simp only [Sem.run_bind, hr, Result.andThen_ok]; rfl, by simp, by simp, rfl, rfl⟩)
      | (unfold eqF at h
         split at h <;> cases h <;> cases hx <;> cases hy <;>
           exact ⟨by rw [equal_eq, Op.equalIn]; simp only [Sem.run_bind, hr, Result.andThen_ok]; rfl, by simp, by simp, rfl, rfl⟩)
theorem bin_float {P : Program} {K : Kn} {β : Bi} {w : World} {t : TypeId} {ox oy : Operand} {k : FloatKind} {a b : Nat} (op : BinOp) (r : Option Nat)
    (h : Op.floatArith op k a b = (match r with | some x => pure (.float k x) | none => do pure (.float k (← choose (.nanBits k a b))))) (hop : binOp op t (.float k a) (.float k b) = Op.floatArith op k a b) :
    ∃ c w', (do eqGuard op t ox oy (.float k a) (.float k b); binOp op t (.float k a) (.float k b) : Sem Value).run P w = .ok c w' ∧ VR K β (floatV k r) c ∧ Drew w w' := by
  obtain ⟨c, w', hr, hv, hd⟩ := floatV_sound (P := P) (K := K) (β := β) (w := w) r h
  exact ⟨c, w', by rw [Sem.run_bind, eqGuard_ok (by simp) (by simp), hop]; exact hr, hv, hd⟩
theorem bin_sound {P : Program} {K : Kn} {β : Bi} {w : World} {op : BinOp} {t : TypeId} {ox oy : Operand} {x y v : V} {cx cy : Value} (hx : VR K β x cx) (hy : VR K β y cy) (h : binV op (cEq P t) x y = some v) :
    ∃ c w', (do eqGuard op t ox oy cx cy; binOp op t cx cy : Sem Value).run P w = .ok c w' ∧ VR K β v c ∧ Drew w w' := by
  have plain : ∀ {c : Value} {w' : World}, (∀ h : cx = .nilIface, cy ≠ .nilIface) → (∀ cs ds, cx = .agg cs → cy ≠ .agg ds) → (binOp op t cx cy).run P w = .ok c w' →
      (do eqGuard op t ox oy cx cy; binOp op t cx cy : Sem Value).run P w = .ok c w' := by
    intro c w' h1 h2 h3
    rw [Sem.run_bind, eqGuard_ok h1 h2]
    exact h3
  unfold binV at h
  split at h
  · cases hx; cases hy
    split at h <;> cases h
    rename_i hb
    exact ⟨_, w, plain (by simp) (by simp) (by simp [binOp, Op.shift, hb]), .int _ _, .refl w⟩
  · cases hx; cases hy
    split at h <;> cases h
    rename_i hb
    exact ⟨_, w, plain (by simp) (by simp) (by simp [binOp, Op.shift, hb]), .int _ _, .refl w⟩
  · rename_i k a k' b n1 n2
    cases hx; cases hy
    split at h
    · rename_i hk; subst hk
      split at h
      · cases h; exact ⟨_, w, plain (by simp) (by simp) (by simp [binOp, Op.intArith]), .int _ _, .refl w⟩
      · cases h; exact ⟨_, w, plain (by simp) (by simp) (by simp [binOp, Op.intArith]), .int _ _, .refl w⟩
      · cases h; exact ⟨_, w, plain (by simp) (by simp) (by simp [binOp, Op.intArith]), .int _ _, .refl w⟩
      · split at h <;> cases h
        rename_i hb
        exact ⟨_, w, plain (by simp) (by simp) (by simp [binOp, Op.intDiv, hb]), .int _ _, .refl w⟩
      · split at h <;> cases h
        rename_i hb
        exact ⟨_, w, plain (by simp) (by simp) (by simp [binOp, Op.intDiv, hb]), .int _ _, .refl w⟩
      all_goals
        simp only [Option.map_eq_some_iff] at h
        obtain ⟨r, hr, rfl⟩ := h
        first
          | (obtain ⟨c, hc, hv⟩ := bitsInt_sound (P := P) (K := K) (β := β) (w := w) hr
             exact ⟨c, w, plain (by simp) (by simp) (by simpa [binOp] using hc), hv, .refl w⟩)
          | (obtain ⟨c, hc, hv⟩ := cmpInt_sound (P := P) (K := K) (β := β) (w := w) hr
             cases op <;> simp only [cmpInt] at hr <;> first
               | (cases hr; done)
               | exact ⟨c, w, plain (by simp) (by simp) (by simpa [binOp] using hc), hv, .refl w⟩)
    · cases h
  · cases hx; cases hy
    split at h
    · split at h <;> cases h
      rename_i hb
      refine ⟨_, w, plain (by simp) (by simp) (by
        have e : (2 : Int) ^ IntKind.i64.bits - 1 = 18446744073709551615 := by decide
        have e2 : IntKind.i64.max = 9223372036854775807 := by decide
        simp only [binOp, Op.stringOp]
        rw [if_neg (by rw [e2]; omega)]
        rfl), .str _, .refl w⟩
    · cases h; exact ⟨_, w, plain (by simp) (by simp) (by simp [binOp, Op.stringOp]; rfl), by simp [ByteArray.toList_eq]; exact .bool _, .refl w⟩
    · cases h; exact ⟨_, w, plain (by simp) (by simp) (by simp [binOp, Op.stringOp]; rfl), by simp [ByteArray.toList_eq]; exact .bool _, .refl w⟩
    · cases h
  · cases hx; cases hy
    rename_i op k a k' b n1
    split at h
    · rename_i hk; subst hk
      split at h
      · cases h; exact bin_float .add _ rfl (by simp [binOp])
      · cases h; exact bin_float .sub _ rfl (by simp [binOp])
      · cases h; exact bin_float .mul _ rfl (by simp [binOp])
      · cases h; exact bin_float .quo _ rfl (by simp [binOp])
      · simp only [Option.map_eq_some_iff] at h
        obtain ⟨r, hr, rfl⟩ := h
        obtain ⟨c, hc, hv⟩ := cmpF_sound (P := P) (K := K) (β := β) (w := w) hr
        cases op <;> simp [cmpF] at hr <;> exact ⟨c, w, plain (by simp) (by simp) (by simp [binOp, hc]), hv, .refl w⟩
    · cases h
  · split at h
    · rename_i hk; subst hk
      cases hx with
      | fnan k1 a ha =>
        cases hy with
        | fnan _ b hb =>
          simp only [Option.map_eq_some_iff] at h
          obtain ⟨r, hr, rfl⟩ := h
          have ho := nan_order ha b
          rw [← ho] at hr
          obtain ⟨c, hc, hv⟩ := cmpF_sound (P := P) (K := K) (β := β) (w := w) hr
          cases op <;> simp [cmpF] at hr <;> exact ⟨c, w, plain (by simp) (by simp) (by simp [binOp, hc]), hv, .refl w⟩
    · cases h
  · simp only [Option.map_eq_some_iff] at h
    obtain ⟨r, hr, rfl⟩ := h
    obtain ⟨g1, g2, g3, g4⟩ := eqV_sound (P := P) (w := w) hx hy hr
    exact ⟨_, w, plain g2 g3 (by rw [g4.1]; simp [g1]), .bool _, .refl w⟩
  · simp only [Option.map_eq_some_iff] at h
    obtain ⟨r, hr, rfl⟩ := h
    obtain ⟨g1, g2, g3, g4⟩ := eqV_sound (P := P) (w := w) hx hy hr
    exact ⟨_, w, plain g2 g3 (by rw [g4.2]; simp [g1]), .bool _, .refl w⟩
  · cases h
theorem un_sound {P : Program} {K : Kn} {β : Bi} {w : World} {op : UnOp} {x v : V} {cx : Value} (hx : VR K β x cx) (h : unV op x = some v) : ∃ c, (Op.unary op cx).run P w = .ok c w ∧ VR K β v c := by
  unfold unV at h
  split at h
  · cases h; cases hx; exact ⟨_, by simp [Op.unary, Op.intArith], .int _ _⟩
  · cases hx
    simp only [Option.map_eq_some_iff] at h
    obtain ⟨r, hr, rfl⟩ := h
    simp only [Op.unary]
    exact bitsInt_sound hr
  · cases h; cases hx; exact ⟨_, by simp [Op.unary], .bool _⟩
  · cases h; cases hx; exact ⟨_, by simp [Op.unary], .float _ _⟩
  · cases h
end Fz
namespace Fz
open Go
def OptR (K : Kn) (β : Bi) : Option V → Option Value → Prop
  | none, none => True
  | some v, some c => VR K β v c
  | _, _ => False
theorem natV_some {K : Kn} {β : Bi} {x : Option V} {c : Option Value} (h : OptR K β x c) {d n : Nat} (hn : natV x d = some n) :
    (x = none ∧ c = none ∧ n = d) ∨ ∃ k i, x.isSome = true ∧ c = some (.int k i) ∧ 0 ≤ i ∧ n = i.toNat := by
  cases x with
  | none =>
    cases c with
    | none => simp [natV] at hn; exact .inl ⟨rfl, rfl, hn.symm⟩
    | some => exact h.elim
  | some v =>
    cases c with
    | none => exact h.elim
    | some c =>
      right
      unfold natV at hn
      split at hn <;> try (cases hn; done)
      · rename_i heq; cases heq
      · rename_i heq; cases heq
        split at hn <;> cases hn
        cases h
        exact ⟨_, _, rfl, rfl, ‹_›, rfl⟩
theorem bounds_run {P : Program} {w : World} {K : Kn} {β : Bi} {lo hi mx : Option V} {clo chi cmx : Option Value} (h1 : OptR K β lo clo) (h2 : OptR K β hi chi) (h3 : OptR K β mx cmx)
    (hno : (mx.isSome && hi.isNone) = false) {is : Bool} {len cap l h m d : Nat} (hm : natV mx d = some m) (hh : natV hi len = some h) (hl : natV lo 0 = some l)
    (hlh : l ≤ h) (hhm : h ≤ m) (hmc : m ≤ cap) : (Instr.sliceBounds is len cap clo chi cmx).run P w = .ok (l, h, if mx.isSome then m else cap) w := by
  rcases natV_some h3 hm with ⟨rfl, rfl, rfl⟩ | ⟨k3, i3, e3, rfl, g3, rfl⟩
  · rcases natV_some h2 hh with ⟨rfl, rfl, rfl⟩ | ⟨k2, i2, e2, rfl, g2, rfl⟩
    · rcases natV_some h1 hl with ⟨rfl, rfl, rfl⟩ | ⟨k1, i1, e1, rfl, g1, rfl⟩
      · simp [Instr.sliceBounds]
      · simp [Instr.sliceBounds, run_sliceBound w k1 i1 h _ g1 (by omega)]
    · rcases natV_some h1 hl with ⟨rfl, rfl, rfl⟩ | ⟨k1, i1, e1, rfl, g1, rfl⟩
      · simp [Instr.sliceBounds, run_sliceBound w k2 i2 cap _ g2 (by omega)]
      · simp [Instr.sliceBounds, run_sliceBound w k2 i2 cap _ g2 (by omega), run_sliceBound w k1 i1 i2.toNat _ g1 (by omega)]
  · have hs : mx.isSome = true := e3
    rcases natV_some h2 hh with ⟨rfl, rfl, rfl⟩ | ⟨k2, i2, e2, rfl, g2, rfl⟩
    · rw [hs] at hno; simp at hno
    · rcases natV_some h1 hl with ⟨rfl, rfl, rfl⟩ | ⟨k1, i1, e1, rfl, g1, rfl⟩
      · simp [Instr.sliceBounds, hs, run_sliceBound w k3 i3 cap _ g3 (by omega), run_sliceBound w k2 i2 i3.toNat _ g2 (by omega)]
      · simp [Instr.sliceBounds, hs, run_sliceBound w k3 i3 cap _ g3 (by omega), run_sliceBound w k2 i2 i3.toNat _ g2 (by omega), run_sliceBound w k1 i1 i2.toNat _ g1 (by omega)]
theorem flat_drop {n : Nat} : ∀ {l : List V} (k : Nat), (∀ v ∈ l, (cellsOf v).length = n) → flat (l.drop k) = (flat l).drop (k * n)
  | _, 0, _ => by simp
  | [], k + 1, _ => by simp [flat]
  | v :: l, k + 1, h => by
    have h1 := h v (by simp)
    have h2 := flat_drop (l := l) k fun u hu => h u (by simp [hu])
    simp only [List.drop_succ_cons, h2]
    simp only [flat, List.flatMap_cons]
    rw [List.drop_append, h1]
    simp only [Nat.add_mul, Nat.one_mul]
    rw [show k * n + n - n = k * n from by omega]
    rw [List.drop_eq_nil_of_le (by omega : (cellsOf v).length ≤ k * n + n)]
    simp
theorem flat_take {n : Nat} : ∀ {l : List V} (k : Nat), (∀ v ∈ l, (cellsOf v).length = n) → flat (l.take k) = (flat l).take (k * n)
  | _, 0, _ => by simp [flat]
  | [], k + 1, _ => by simp [flat]
  | v :: l, k + 1, h => by
    have h1 := h v (by simp)
    have h2 := flat_take (l := l) k fun u hu => h u (by simp [hu])
    simp only [List.take_succ_cons]
    simp only [flat, List.flatMap_cons] at h2 ⊢
    rw [h2, List.take_append, h1]
    simp only [Nat.add_mul, Nat.one_mul]
    rw [show k * n + n - n = k * n from by omega, List.take_of_length_le (by omega : (cellsOf v).length ≤ k * n + n)]
theorem VR.sub {K : Kn} {β : Bi} {e : List V} {c : Bool} {b o n : Nat} {cs : Array Value} {t : TypeId} {fr : Nat × Nat} (hb : K.fixed b = some (.cells cs t fr))
    (hu : ∀ v ∈ e, (cellsOf v).length = n) (hn : n ≠ 0) (hl : o + e.length * n ≤ cs.size) (h : ∀ i v, (flat e)[i]? = some v → VR K β v (cs.getD (o + i) Go.undef))
    {l k cap' : Nat} {c' : Bool} (hlk : l + k ≤ e.length) (hc : k ≤ cap') (hcl : c' = true → cap' = k) :
    VR K β (.list ((e.drop l).take k) c') (.slice (some ⟨b, o + l * n, none⟩) k cap') := by
  have e1 : ((e.drop l).take k).length = k := by simp; omega
  have := VR.list (K := K) (β := β) (l := (e.drop l).take k) (c := c') (b := b) (o := o + l * n) (n := n) (cap := cap') hb (fun v hv => hu v (List.mem_of_mem_drop (List.mem_of_mem_take hv))) hn ?_ (by omega) (by rw [e1]; exact hcl) ?_
  · rw [e1] at this; exact this
  · rw [e1]
    have : (l + k) * n ≤ e.length * n := Nat.mul_le_mul_right n hlk
    rw [Nat.add_mul] at this; omega
  · intro i v hv
    rw [flat_take k fun v hv => hu v (List.mem_of_mem_drop hv), flat_drop l hu] at hv
    by_cases hi : i < k * n
    · simp [List.getElem?_take, hi] at hv
      have := h _ v hv
      rwa [show o + (l * n + i) = o + l * n + i from by omega] at this
    · simp [List.getElem?_take, hi] at hv
theorem slice_sound {P : Program} {K : Kn} {β : Bi} {H : List Ob} {w : World} (hI : Inv K β H w) {t : TypeId} {k : SlK} {x v : V} {cx : Value} {lo hi mx : Option V} {clo chi cmx : Option Value}
    (hk : match k with
      | .str => P.underlying t = some .string
      | .sl n => ∃ e, P.underlying t = some (.slice e) ∧ tSize P e = some n ∧ n ≠ 0
      | .arr len n => ∃ e, (P.underlying t = some (.array len e) ∨ ∃ a, P.underlying t = some (.pointer a) ∧ P.underlying a = some (.array len e)) ∧ tSize P e = some n ∧ n ≠ 0)
    (hx : VR K β x cx) (h1 : OptR K β lo clo) (h2 : OptR K β hi chi) (h3 : OptR K β mx cmx) (h : sliceV H k x lo hi mx = some v) :
    ∃ c, (Instr.sliceAt t cx clo chi cmx).run P w = .ok c w ∧ VR K β v c := by
  unfold sliceV at h
  split at h
  · cases h
  rename_i hno
  have hno : (mx.isSome && hi.isNone) = false := Bool.eq_false_iff.2 hno
  split at h
  · rename_i s
    split at h
    · cases h
    rename_i hmx
    have hmx0 : mx = none := by simpa using hmx
    subst hmx0
    cases cmx with
    | some => exact h3.elim
    | none =>
    split at h
    · rename_i hh ll eh el
      split at h <;> cases h
      rename_i hc
      cases hx
      have hr := bounds_run (P := P) (w := w) h1 h2 (K := K) (β := β) (mx := none) (cmx := none) trivial rfl (is := false) (len := s.size) (cap := s.size) (d := s.size) (m := s.size) rfl eh el hc.1 hc.2 (Nat.le_refl _)
      refine ⟨.string (s.extract ll hh), ?_, .str _⟩
      have hu := run_underlying hk w
      simp [Instr.sliceAt, Instr.slice, hu, hr]
    · cases h
  · rename_i n e c
    obtain ⟨et, hut, hsz, hn0⟩ := hk
    have hu := run_underlying hut w
    have hsz' := sizeOf_run hsz w
    split at h
    · cases h
    rename_i huni
    have hu1 : uni n e = true := by simpa using huni
    clear huni
    split at h
    · rename_i m hh ll em eh el
      split at h <;> cases h
      rename_i hc
      cases hx with
      | lnil hcap =>
        rename_i a cap
        simp at hc
        obtain ⟨g1, g2, g3⟩ := hc
        subst g3
        have : hh = 0 := by omega
        subst this
        have : ll = 0 := by omega
        subst this
        have hr := bounds_run (P := P) (w := w) h1 h2 h3 hno (is := true) (len := 0) (cap := cap) em eh el (Nat.le_refl _) (Nat.le_refl _) (Nat.zero_le _)
        refine ⟨_, by simp [Instr.sliceAt, Instr.slice, hu, hr, hsz']; rfl, ?_⟩
        simp only [List.drop_zero, List.take_nil, Nat.sub_zero]
        refine .lnil ?_
        cases hms : mx.isSome <;> simp
        exact hcap
      | list hb hun hn hl hcap hcl hcells =>
        rename_i b o n' cap cs et' fr
        have hr := bounds_run (P := P) (w := w) h1 h2 h3 hno (is := true) (len := e.length) (cap := cap) em eh el hc.1 hc.2.1 (by omega)
        refine ⟨_, by simp [Instr.sliceAt, Instr.slice, hu, hr, hsz']; rfl, ?_⟩
        by_cases hk0 : hh - ll = 0
        · rw [hk0]
          simp only [List.take_zero]
          refine .lnil ?_
          cases hms : mx.isSome
          · simp only [Bool.false_eq_true, if_false, Bool.and_eq_true, beq_iff_eq]
            rintro ⟨g1, g2⟩
            have := hcl g1
            omega
          · simp only [if_true, beq_iff_eq]
            omega
        · have hnn : n' = n := by
            cases e with
            | nil => simp at hc; omega
            | cons v r =>
              have := List.all_eq_true.1 hu1 v (by simp)
              rw [← hun v (by simp)]; simpa using this
          subst hnn
          have hne : (if mx.isSome = true then m else cap) ≠ ll := by
            split <;> omega
          rw [if_neg hne]
          have := VR.sub (c := c) hb hun hn hl hcells (l := ll) (k := hh - ll) (cap' := (if mx.isSome = true then m else cap) - ll) (c' := (if mx.isSome then m == hh else c && hh == e.length)) (by omega) (by split <;> omega) ?_
          · simpa [addr_add] using this
          · cases hms : mx.isSome
            · simp only [Bool.false_eq_true, if_false, Bool.and_eq_true, beq_iff_eq]
              rintro ⟨g1, g2⟩
              have := hcl g1
              omega
            · simp only [if_true, beq_iff_eq]
              omega
    · cases h
  · rename_i n id off len n'
    obtain ⟨et, hut, hsz, hn0⟩ := hk
    have hu := run_underlying hut w
    have hsz' := sizeOf_run hsz w
    split at h
    · rename_i m hh ll em eh el
      split at h <;> cases h
      rename_i hc
      obtain ⟨rfl, hc⟩ := hc
      cases hx with
      | own hβ hz hl hz' hn =>
        rename_i b cap z
        have hr := bounds_run (P := P) (w := w) h1 h2 h3 hno (is := true) (len := len) (cap := cap) em eh el hc.1 hc.2.1 (by omega)
        refine ⟨_, by simp [Instr.sliceAt, Instr.slice, hu, hr, hsz']; rfl, ?_⟩
        by_cases hc0 : hh = ll ∧ (ll ≠ 0 ∨ mx.isSome = true)
        · rw [if_pos hc0]
          obtain ⟨rfl, _⟩ := hc0
          rw [Nat.sub_self]
          refine .lnil ?_
          cases hms : mx.isSome <;> simp
          omega
        · rw [if_neg hc0]
          have hM1 : mx.isSome = true → (if mx.isSome = true then m else cap) = m := fun h => if_pos h
          have hM2 : mx.isSome = false → (if mx.isSome = true then m else cap) = cap := fun h => if_neg (by simp [h])
          have hcap2 : (if mx.isSome = true then m else cap) ≤ cap := by split <;> omega
          have hcap3 : hh ≤ (if mx.isSome = true then m else cap) := by split <;> omega
          generalize (if mx.isSome = true then m else cap) = M at *
          have e1 : (if M = ll then some (⟨b, off, none⟩ : Addr) else some ((⟨b, off, none⟩ : Addr).add (ll * n))) = some ⟨b, off + ll * n, none⟩ := by
            by_cases hq : M = ll
            · rw [if_pos hq]
              have : ll = 0 := by
                apply Decidable.byContradiction
                intro hl0
                exact hc0 ⟨by omega, .inl hl0⟩
              simp [this]
            · rw [if_neg hq, addr_add]
          have := VR.own (K := K) (β := β) (id := id) (off := off + ll * n) (len := hh - ll) (n := n) (cap := M - ll) hβ hz (by omega) ?_ hn
          · simpa [e1] using this
          · have : (M - ll + ll) * n ≤ cap * n := Nat.mul_le_mul_right n (by omega)
            rw [Nat.add_mul] at this; omega
    · cases h
  · rename_i alen n id off
    obtain ⟨et, hut, hsz, hn0⟩ := hk
    have hsz' := sizeOf_run hsz w
    split at h
    · rename_i m hh ll l em eh el ep
      split at h <;> cases h
      rename_i hc
      obtain ⟨b, o, ds, hcx, hs⟩ := peek_sound hI hx ep
      cases hx with
      | ptr hβ =>
        cases hcx
        have hr := bounds_run (P := P) (w := w) h1 h2 h3 hno (is := false) (len := alen) (cap := alen) em eh el hc.1 hc.2.1 (by omega)
        have hm' : (if mx.isSome = true then m else alen) = m := by
          cases hms : mx with
          | none => subst hms; simp [natV] at em; simp [em]
          | some => simp
        rw [hm'] at hr
        have hrun : (Instr.sliceAt t (.pointer (some ⟨b, off, none⟩)) clo chi cmx).run P w = .ok (.slice (some (if m = ll then ⟨b, off, none⟩ else (⟨b, off, none⟩ : Addr).add (ll * n))) (hh - ll) (m - ll)) w := by
          rcases hut with hut | ⟨a, hut, hua⟩
          · have hu := run_underlying hut w
            simp [Instr.sliceAt, hu, Instr.sureAddr, hr, hsz']
          · have hu := run_underlying hut w
            have hu2 := run_underlying hua w
            simp [Instr.sliceAt, Instr.slice, hu, hu2, asAddr, hr, hsz']
        refine ⟨_, hrun, ?_⟩
        by_cases hc0 : hh = ll
        · rw [if_pos hc0, hc0, Nat.sub_self]
          refine .lnil ?_
          simp; omega
        · rw [if_neg hc0, if_neg (by omega), addr_add]
          obtain ⟨z, hz, hle⟩ : ∃ z, K.size b = some z ∧ off + alen * n ≤ z := by
            have hp : peek H (alen * n) (.ptr id off) = some l := ep
            simp only [peek] at hp
            cases ho : H[id]? with
            | none => rw [ho] at hp; cases hp
            | some ob =>
              have hob := hI.obj id ob ho
              cases ob <;> simp only [ho] at hp <;> try (cases hp; done)
              · obtain ⟨b', cs, e, g1, g2, g3, g4, g5⟩ := hob
                rw [hβ] at g1; cases g1
                split at hp <;> cases hp
                exact ⟨_, g3, by have := g5.1; omega⟩
              · obtain ⟨b', cs, e, fr, g1, g2, g3, g5⟩ := hob
                rw [hβ] at g1; cases g1
                split at hp <;> cases hp
                exact ⟨_, g3, by have := g5.1; omega⟩
          refine .own hβ hz (by omega) ?_ hn0
          have : (m - ll + ll) * n ≤ alen * n := Nat.mul_le_mul_right n (by omega)
          rw [Nat.add_mul] at this; omega
    · cases h
  · cases h
end Fz
namespace Fz
open Go
structure AppArg (P : Program) (K : Kn) (β : Bi) (w : World) (n bytes : Nat) (uT : TypeId) (e : TypeId) (cx : Value) (xs : List V) (k : Nat) : Prop where
  size : xs.length = k * n
  arg : ∃ d, P.underlying uT = some d ∧
    ((∀ kk, d ≠ .int kk) ∧ (Builtin.lenOf cx).run P w = .ok k w ∧ (∃ ds : List Value, (∀ w', Drew w w' → (Builtin.firstCells n k cx).run P w' = .ok ds.toArray w') ∧ LR K β xs ds)
     ∨ (∃ kk, d = .int kk) ∧ (∃ (kk : IntKind) (l : Int), cx = .int kk l ∧ 0 ≤ l ∧ l.toNat = k ∧ IntKind.i64.wrap l = l ∧ l * bytes ≤ 2 ^ 47) ∧ ∃ zc : Value, (∀ w, (zeroValue e).run P w = .ok zc w) ∧ zc.cells.size = n ∧ LR K β xs (Builtin.zeroCells zc.cells k).toList)
theorem vr_slice {K : Kn} {β : Bi} {l : List V} {c : Bool} {cs : Value} (h : VR K β (.list l c) cs) : ∃ a cap, cs = .slice a l.length cap ∧ l.length ≤ cap ∧ (c = true → cap = l.length) := by
  cases h with
  | lnil hc => exact ⟨_, _, rfl, Nat.zero_le _, hc⟩
  | list hb hu hn hl hc hcl h => exact ⟨_, _, rfl, hc, hcl⟩
theorem append_none {P : Program} {K : Kn} {β : Bi} {w : World} {sT uT ty e : TypeId} {n bytes : Nat} {i : TypeInfo} (hu : P.underlying sT = some (.slice e)) (hi : P.info? e = some i) (hn : i.size = n) (hb : i.bytes = bytes)
    {a : Option Addr} {len cap : Nat} (hlc : len ≤ cap) {cx : Value} {xs : List V} (ha : AppArg P K β w n bytes uT e cx xs 0) :
    (Builtin.append_ #[sT, uT] ty #[.slice a len cap, cx]).run P w = .ok (.slice a len cap) w := by
  have h1 := run_underlying hu w
  have h2 : (Go.sizeOf e).run P w = .ok n w := by simp [Go.sizeOf, typeInfo, hi, hn]
  have h3 : (typeInfo e).run P w = .ok i w := by simp [typeInfo, hi]
  obtain ⟨hsz, d, hd, hh⟩ := ha
  have h4 := run_underlying hd w
  rcases hh with ⟨hnint, hl, ds, hds, hr⟩ | ⟨⟨kk, rfl⟩, ⟨k2, l, rfl, g1, g2, g3, g4⟩, zc, hz, hzs, hr⟩
  · have hnil : ds = [] := List.eq_nil_of_length_eq_zero (by rw [← hr.1, hsz]; simp)
    subst hnil
    have hds := hds w (Drew.refl w)
    have hm : (d matches .int _) = false := by
      cases d <;> first | rfl | exact absurd rfl (hnint _)
    cases a <;> simp [Builtin.append_, h1, h2, h4, hm, hl, hlc, hds, storeCells]
  · have hl0 : l = 0 := by omega
    subst hl0
    have hw : IntKind.i64.wrap 0 = 0 := by decide
    cases a <;> simp [Builtin.append_, h1, h2, h3, h4, asInt, asIntOf, hw, hlc, storeCells]
theorem append_grows {P : Program} {K : Kn} {β : Bi} {w : World} {sT uT ty e : TypeId} {n bytes : Nat} {i : TypeInfo} (hu : P.underlying sT = some (.slice e)) (hi : P.info? e = some i) (hn : i.size = n) (hb : i.bytes = bytes) (hz0 : (i.zero.map fun z => z.cells.size) = some n)
    {a : Option Addr} {len cap k : Nat} (hlc : cap < len + k) {cx : Value} {xs : List V} (ha : AppArg P K β w n bytes uT e cx xs k)
    (hcap : capOk (len + k) bytes = true) {os : List Value} (hos : ∀ w', Drew w w' → (Builtin.firstCells n len (.slice a len cap)).run P w' = .ok os.toArray w') :
    ∃ (newCap : Nat) (ds rest : List Value) (w1 : World), len + k ≤ newCap ∧ Drew w w1 ∧ LR K β xs ds ∧ (os.length = len * n → ds.length = k * n → (os ++ ds ++ rest).length = newCap * n) ∧
      (Builtin.append_ #[sT, uT] ty #[.slice a len cap, cx]).run P w = .ok (.slice (some ⟨w1.heap.size, 0, none⟩) (len + k) newCap) (w1.alloc (.cells (os ++ ds ++ rest).toArray e)) := by
  have h1 := run_underlying hu w
  have h2 : (Go.sizeOf e).run P w = .ok n w := by simp [Go.sizeOf, typeInfo, hi, hn]
  have h3 : ∀ w, (typeInfo e).run P w = .ok i w := fun w => by simp [typeInfo, hi]
  obtain ⟨zc, hzc, hzsz⟩ := Option.map_eq_some_iff.1 hz0
  have h5 : ∀ w, (zeroValue e).run P w = .ok zc w := fun w => by simp [zeroValue, typeInfo, hi, hzc]
  obtain ⟨hsz, d, hd, hh⟩ := ha
  have h4 := run_underlying hd w
  have hno := cap_ok hlc hcap
  have hle : len + k ≤ 2 ^ 62 := by unfold capOk at hcap; simp at hcap; omega
  have hcut : ∀ t, len + k ≤ (Question.appendCap (len + k) cap e).cut t := fun t => by simp [Question.cut]
  have hq : (Question.appendCap (len + k) cap e).forced = false := rfl
  have hneed : ¬ len + k ≤ cap := by omega
  have hmax : ¬ ((9223372036854775807 : Int) < (len : Int) + (k : Int)) := by omega
  have hos' := hos w.drew ⟨rfl, rfl, rfl, rfl⟩
  have hzl : ∀ m, (Builtin.zeroCells zc.cells m).size = m * n := fun m => by simp [Builtin.zeroCells, hzsz]
  have hcut' := hcut (w.tape w.drawn (.appendCap (len + k) cap e))
  have hlast : ∀ ds : List Value, os.length = len * n → ds.length = k * n →
      (os ++ ds ++ (Builtin.zeroCells zc.cells ((Question.appendCap (len + k) cap e).cut (w.tape w.drawn (.appendCap (len + k) cap e)) - (len + k))).toList).length =
        (Question.appendCap (len + k) cap e).cut (w.tape w.drawn (.appendCap (len + k) cap e)) * n := by
    intro ds g1 g2
    simp only [List.length_append, g1, g2, Array.length_toList, hzl]
    generalize (Question.appendCap (len + k) cap e).cut (w.tape w.drawn (.appendCap (len + k) cap e)) = q at *
    obtain ⟨r, rfl⟩ : ∃ r, q = len + k + r := ⟨q - (len + k), by omega⟩
    rw [show len + k + r - (len + k) = r from by omega, Nat.add_mul, Nat.add_mul]
  have harr : ∀ (ds : List Value) (z : Array Value), os.toArray ++ (ds.toArray ++ z) = (os ++ ds ++ z.toList).toArray := fun ds z => by apply Array.ext'; simp
  rcases hh with ⟨hnint, hl, ds, hds, hr⟩ | ⟨⟨kk, rfl⟩, ⟨k2, l, rfl, g1, g2, g3, g4⟩, zc', hz, hzs, hr⟩
  · have hm : (d matches .int _) = false := by
      cases d <;> first | rfl | exact absurd rfl (hnint _)
    refine ⟨_, ds, _, w.drew, hcut', ⟨rfl, rfl, rfl, rfl⟩, hr, hlast ds, ?_⟩
    have hds' := hds w.drew ⟨rfl, rfl, rfl, rfl⟩
    simp [Builtin.append_, h1, h2, h4, hm, hl, hneed, h3, h5, hn, hb, hno, hq, hos', hds', newRow, hmax, harr]
  · have hzz : zc' = zc := by
      have := hz w; rw [h5 w] at this; injection this with this; exact this.symm
    subst hzz
    refine ⟨_, _, _, w.drew, hcut', ⟨rfl, rfl, rfl, rfl⟩, hr, hlast _, ?_⟩
    have g5 : ¬ l < 0 := by omega
    have g6 : ¬ (281474976710656 : Int) < l * bytes := by omega
    have g7 : ¬ (9223372036854775807 : Int) < len + max l 0 := by omega
    have harr' : ∀ (ds z : Array Value), os.toArray ++ (ds ++ z) = (os ++ ds.toList ++ z.toList).toArray := fun ds z => by apply Array.ext'; simp
    have harr2 : ∀ z : Array Value, os.toArray ++ z = (os ++ z.toList).toArray := fun z => by apply Array.ext'; simp
    by_cases hkn : k * n = 0
    · have e0 : Builtin.zeroCells zc'.cells k = #[] := Array.eq_empty_of_size_eq_zero (by rw [hzl, hkn])
      simp [Builtin.append_, h1, h2, h4, asInt, asIntOf, g3, g2, g5, g6, hneed, h3, h5, hn, hb, hno, hq, hos', newRow, hmax, hkn, e0, harr2, g7]
    · simp [Builtin.append_, h1, h2, h4, asInt, asIntOf, g3, g2, g5, g6, hneed, h3, h5, hn, hb, hno, hq, hos', newRow, hmax, hkn, harr', g7]
theorem append_fits {P : Program} {K : Kn} {β : Bi} {w : World} {sT uT ty e : TypeId} {n bytes : Nat} {i : TypeInfo} (hu : P.underlying sT = some (.slice e)) (hi : P.info? e = some i) (hn : i.size = n) (hb : i.bytes = bytes)
    {b len cap k : Nat} (hlc : len + k ≤ cap) {cx : Value} {xs : List V} (ha : AppArg P K β w n bytes uT e cx xs k) (hk : k * n ≠ 0) :
    ∃ ds : List Value, LR K β xs ds ∧ ∀ w', (storeCells (⟨b, 0 + len * n, none⟩ : Addr) ds).run P w = .ok () w' →
      (Builtin.append_ #[sT, uT] ty #[.slice (some ⟨b, 0, none⟩) len cap, cx]).run P w = .ok (.slice (some ⟨b, 0, none⟩) (len + k) cap) w' := by
  have h1 := run_underlying hu w
  have h2 : (Go.sizeOf e).run P w = .ok n w := by simp [Go.sizeOf, typeInfo, hi, hn]
  have h3 : ∀ w, (typeInfo e).run P w = .ok i w := fun w => by simp [typeInfo, hi]
  obtain ⟨hsz, d, hd, hh⟩ := ha
  have h4 := run_underlying hd w
  rcases hh with ⟨hnint, hl, ds, hds, hr⟩ | ⟨⟨kk, rfl⟩, ⟨k2, l, rfl, g1, g2, g3, g4⟩, zc', hz, hzs, hr⟩
  · have hm : (d matches .int _) = false := by
      cases d <;> first | rfl | exact absurd rfl (hnint _)
    refine ⟨ds, hr, fun w' hw' => ?_⟩
    have hds' := hds w (Drew.refl w)
    rw [← addr_add] at hw'
    simp [Builtin.append_, h1, h2, h4, hm, hl, hlc, hds', hw']
  · refine ⟨_, hr, fun w' hw' => ?_⟩
    have g5 : ¬ l < 0 := by omega
    have g6 : ¬ (281474976710656 : Int) < l * bytes := by omega
    rw [← addr_add] at hw'
    simp [Builtin.append_, h1, h2, h3, h4, asInt, asIntOf, g3, g2, g5, g6, hb, hlc, hk, hz w, hw']
theorem appendV_sound {P : Program} {K : Kn} {β : Bi} {H H' : List Ob} {w : World} (hI : Inv K β H w) {sT uT ty e : TypeId} {n bytes : Nat} {i : TypeInfo} (hu : P.underlying sT = some (.slice e)) (hi : P.info? e = some i) (hn : i.size = n) (hb : i.bytes = bytes)
    (hz0 : (i.zero.map fun z => z.cells.size) = some n) (hn0 : n ≠ 0) {s v : V} {cs cx : Value} (hs : VR K β s cs) {xs : List V} {k : Nat} (ha : AppArg P K β w n bytes uT e cx xs k) (h : appendV H n bytes s xs k = some (v, H')) :
    ∃ c w' K' β', (Builtin.append_ #[sT, uT] ty #[cs, cx]).run P w = .ok c w' ∧ VR K' β' v c ∧ Inv K' β' H' w' ∧ Ev K β H w K' β' H' w' := by
  have grow : ∀ {a : Option Addr} {len cap : Nat} {H1 : List Ob} {os : List Value} {old : List V}, cs = .slice a len cap → cap < len + k → capOk (len + k) bytes = true → LR K β old os → old.length = len * n → Inv K β H1 w → Ev K β H w K β H1 w →
      (∀ w', Drew w w' → (Builtin.firstCells n len (.slice a len cap)).run P w' = .ok os.toArray w') →
      ∃ c w' K' β', (Builtin.append_ #[sT, uT] ty #[cs, cx]).run P w = .ok c w' ∧ VR K' β' (.own H1.length 0 (len + k) n) c ∧ Inv K' β' (H1 ++ [.live (old ++ xs)]) w' ∧ Ev K β H w K' β' (H1 ++ [.live (old ++ xs)]) w' := by
    intro a len cap H1 os old hcs hlt hcap hold holdl hI1 hE1 hos
    obtain ⟨newCap, ds, rest, w1, g1, g2, g3, g4, g5⟩ := append_grows (ty := ty) hu hi hn hb hz0 hlt ha hcap hos
    have hI2 : Inv K β H1 w1 := hI1.drawn g2.1
    have hE2 : Ev K β H1 w K β H1 w1 := .drawn g2.1 g2.2.1 g2.2.2.1 g2.2.2.2
    have hlen := g4 (by rw [← hold.1, holdl]) (by rw [← g3.1, ha.size])
    have hcr : CsR K β (old ++ xs) (os ++ ds ++ rest).toArray := by
      have := hold.append g3
      refine ⟨by rw [this.1]; simp, fun j u hj => ?_⟩
      obtain ⟨c, hc, hv⟩ := this.get hj
      have hj' : (os ++ ds ++ rest)[j]? = some c := by rw [List.getElem?_append_left (List.getElem?_eq_some_iff.1 hc).1]; exact hc
      simp only [List.append_assoc] at hj'
      simpa [Array.getD_eq_getD_getElem?, hj'] using hv
    obtain ⟨e1, e2, e3, e4, e5, e6⟩ := hI2.new (w' := w1.alloc (.cells (os ++ ds ++ rest).toArray e)) hcr rfl rfl rfl rfl
    refine ⟨_, _, _, _, by rw [hcs]; exact g5, ?_, e5, (hE1.trans hE2).trans e6⟩
    refine .own e3 e4 g1 ?_ hn0
    rw [Nat.zero_add, ← hlen]; simp
  unfold appendV at h
  split at h
  · rename_i l c
    split at h
    · cases h
      rename_i hk; subst hk
      obtain ⟨a, cap, rfl, g1, g2⟩ := vr_slice hs
      exact ⟨_, w, K, β, append_none hu hi hn hb g1 ha, hs, hI, .refl K β H w⟩
    · split at h
      · rename_i hk hc
        simp only [Option.some.injEq, Prod.mk.injEq] at h
        obtain ⟨rfl, rfl⟩ := h
        simp only [Bool.and_eq_true, beq_iff_eq] at hc
        obtain ⟨⟨⟨hc1, hc2⟩, hc3⟩, hc4⟩ := hc
        obtain ⟨a, cap, rfl, g1, g2⟩ := vr_slice hs
        have he : elems H n (.list l c) = some (flat l, l.length) := by simp [elems, hc2]
        have hel := elems_sound (P := P) hI hs he
        obtain ⟨os, ho1, ho2⟩ := hel.first l.length (Nat.le_refl _)
        rw [← hel.size, List.take_length] at ho2
        exact grow rfl (by have := g2 hc1; omega) hc4 ho2 hel.size hI (.refl K β H w) fun w' hd => ho1 w' hd.1
      · cases h
  · rename_i id len m
    split at h
    · cases h
      rename_i hk; subst hk
      cases hs with
      | own hβ hz hl hz' hnn => exact ⟨_, w, K, β, append_none hu hi hn hb hl ha, .own hβ hz hl hz' hnn, hI, .refl K β H w⟩
    · rename_i hk
      split at h
      · rename_i l ho
        split at h
        · rename_i hc
          simp only [Option.some.injEq, Prod.mk.injEq] at h
          obtain ⟨rfl, rfl⟩ := h
          obtain ⟨rfl, hc2, hc3, hc4⟩ := hc
          cases hs with
          | own hβ hz hl hz' hnn =>
            rename_i b cap z
            obtain ⟨b', ccs, et, g1, g2, g3, g4, g5⟩ := hI.obj id _ ho
            rw [hβ] at g1; cases g1
            have hp : peek H (len * m) (.ptr id 0) = some (l.take (len * m)) := by
              simp [peek, ho, hc2]
            have he : elems H m (.own id 0 len m) = some (l.take (len * m), len) := by simp [elems, hp]
            have hel := elems_sound (P := P) hI (.own hβ hz hl hz' hnn) he
            have hklen : k * m ≠ 0 := Nat.mul_ne_zero hk hnn
            by_cases hfit : len + k ≤ cap
            · obtain ⟨ds, hd1, hd2⟩ := append_fits (ty := ty) hu hi hn hb (b := b) hfit ha hklen
              have hzz : z = ccs.size := by rw [hz] at g3; exact Option.some.inj g3
              have hle : (len + k) * m ≤ cap * m := Nat.mul_le_mul_right m hfit
              rw [Nat.add_mul] at hle
              have hdl : ds.length = k * m := by rw [← hd1.1, ha.size]
              have hst := run_storeCells_at P b (len * m) et ds 0 ccs w g4 (by omega) (hd1.oneCell hc3)
              have hrow : LR K β (l.take (len * m) ++ xs) (ccs.toList.take (len * m) ++ ds) := by
                refine LR.append ?_ hd1
                have hbase : LR K β l (ccs.toList.take l.length) := by
                  refine ⟨by have := g5.1; simp; omega, fun i v hv => ?_⟩
                  have hil : i < l.length := (List.getElem?_eq_some_iff.1 hv).1
                  have := g5.2 i v hv
                  simpa [List.getD, List.getElem?_take, hil, Array.getD_eq_getD_getElem?] using this
                have := hbase.take (len * m)
                rwa [List.take_take, Nat.min_eq_left hc2] at this
              have hsz : ((ccs.toList.take (len * m + 0) ++ ds ++ ccs.toList.drop (len * m + 0 + ds.length)).toArray).size = ccs.size := by simp; omega
              have hcr : CsR K β (l.take (len * m) ++ xs) (ccs.toList.take (len * m + 0) ++ ds ++ ccs.toList.drop (len * m + 0 + ds.length)).toArray := by
                refine ⟨by rw [hsz, hrow.1]; simp; omega, fun j u hj => ?_⟩
                obtain ⟨c, hc', hv⟩ := hrow.get hj
                have hj' : (ccs.toList.take (len * m + 0) ++ ds ++ ccs.toList.drop (len * m + 0 + ds.length))[j]? = some c := by
                  rw [List.getElem?_append_left (by have := (List.getElem?_eq_some_iff.1 hc').1; simpa using this)]; exact hc'
                simp only [List.append_assoc, Nat.add_zero] at hj'
                simpa [Array.getD_eq_getD_getElem?, hj'] using hv
              obtain ⟨m1, m2, m3, m4⟩ := hI.moved (l' := l.take (len * m) ++ xs) (w' := w.setRow b (ccs.toList.take (len * m + 0) ++ ds ++ ccs.toList.drop (len * m + 0 + ds.length)).toArray) ho hβ g4 hsz hcr (setRow_all w g4) (by simp) rfl rfl rfl
              exact ⟨_, _, K, _, hd2 _ (by simpa using hst), .own m2 hz hfit (by omega) hnn, m3, m4⟩
            · obtain ⟨os, ho1, ho2⟩ := hel.first len (Nat.le_refl _)
              rw [List.take_take, Nat.min_self] at ho2
              obtain ⟨k1, k2⟩ := hI.kill id
              have := grow (H1 := H.set id .dead) rfl (by omega) hc4 ho2 hel.size k1 k2 fun w' hd => ho1 w' hd.1
              simpa using this
        · cases h
      · cases h
  · cases h
end Fz
namespace Fz
open Go
theorem execOp_v {P : Program} {w : World} {s : Sem Value} {c : Value} {w' : World} (h : s.run P w = .ok c w') : (do pure (.value (← s)) : Sem Next).run P w = .ok (.value c) w' := by
  rw [Sem.run_bind, h]; rfl
theorem execOp_u {P : Program} {w : World} {s : Sem Unit} {w' : World} (h : s.run P w = .ok () w') : (do s; pure .skip : Sem Next).run P w = .ok .skip w' := by
  rw [Sem.run_bind, h]; rfl
theorem cOOpd_R {K : Kn} {β : Bi} {nt : Nat} {e : Env} {a : Act} (hE : ER K β nt e a) {x : Option Operand} {y : Option Opd} (h : cOOpd x = some y) : OptR K β (y.map (evO e)) (x.map a.eval) := by
  cases x with
  | none => simp [cOOpd] at h; subst h; trivial
  | some x =>
    simp only [cOOpd, Option.map_eq_some_iff] at h
    obtain ⟨z, hz, rfl⟩ := h
    exact hE.opd hz
theorem opds_LR {K : Kn} {β : Bi} {nt : Nat} {e : Env} {a : Act} (hE : ER K β nt e a) : ∀ {l : List Operand} {x : List Opd}, mapOpt cOpd l = some x → LR K β (x.map (evO e)) (l.map a.eval)
  | [], x, h => by simp [mapOpt] at h; subst h; exact .nil K β
  | o :: l, x, h => by
    simp only [mapOpt] at h
    cases ho : cOpd o with
    | none => simp [ho] at h
    | some y =>
      cases hl : mapOpt cOpd l with
      | none => simp [ho, hl] at h
      | some r =>
        simp [ho, hl] at h; subst h
        exact .cons (hE.opd ho) (opds_LR hE hl)
theorem parts_R {P : Program} {K : Kn} {β : Bi} {nt : Nat} {e : Env} {a : Act} (hE : ER K β nt e a) {place : Nat → Option (Nat × Nat)} : ∀ {ps : List (Nat × Operand)} {qs : List (Nat × Nat × Opd)}, cParts P place ps = some qs →
    (ps.map fun p => (p.1, a.eval p.2)).length = (qs.map fun q => (q.1, q.2.1, evO e q.2.2)).length ∧
    ∀ (i : Nat) (p : Nat × Value) (q : Nat × Nat × V), (ps.map fun p => (p.1, a.eval p.2))[i]? = some p → (qs.map fun q => (q.1, q.2.1, evO e q.2.2))[i]? = some q → place p.1 = some (q.1, q.2.1) ∧ VR K β q.2.2 p.2
  | [], qs, h => by simp [cParts] at h; subst h; exact ⟨rfl, fun i p q hp => by simp at hp⟩
  | (j, x) :: ps, qs, h => by
    simp only [cParts] at h
    split at h <;> cases h
    rename_i off n y l hpl hx hr
    obtain ⟨g1, g2⟩ := parts_R hE hr
    refine ⟨by simpa using g1, fun i p q hp hq => ?_⟩
    cases i with
    | zero =>
      simp at hp hq
      subst hp; subst hq
      exact ⟨hpl, hE.opd hx⟩
    | succ i => exact g2 i p q (by simpa using hp) (by simpa using hq)
theorem maxF_sound {P : Program} {K : Kn} {β : Bi} {w : World} : ∀ {l : List V} {cs : List Value} {v r : V} {c : Value}, VR K β v c → LR K β l cs → maxF v l = some r → ∃ d, (cs.foldlM Builtin.max2 c).run P w = .ok d w ∧ VR K β r d
  | [], cs, v, r, c, hv, hl, h => by
    have : cs = [] := List.eq_nil_of_length_eq_zero hl.1.symm
    subst this
    cases v <;> simp [maxF] at h <;> subst h <;> exact ⟨c, rfl, hv⟩
  | u :: l, cs, v, r, c, hv, hl, h => by
    obtain ⟨d, ds, rfl, hd, hr⟩ := hl.head
    unfold maxF at h
    split at h <;> try (cases h; done)
    · rename_i heq; cases heq
    · rename_i heq; cases heq
      split at h
      · rename_i hk; subst hk
        cases hv; cases hd
        obtain ⟨x, hx, hvx⟩ := maxF_sound (.int _ _) hr h
        exact ⟨x, by simp only [List.foldlM_cons, Sem.run_bind, Builtin.max2]; exact hx, hvx⟩
      · cases h
theorem minF_sound {P : Program} {K : Kn} {β : Bi} {w : World} : ∀ {l : List V} {cs : List Value} {v r : V} {c : Value}, VR K β v c → LR K β l cs → minF v l = some r → ∃ d, (cs.foldlM Builtin.min2 c).run P w = .ok d w ∧ VR K β r d
  | [], cs, v, r, c, hv, hl, h => by
    have : cs = [] := List.eq_nil_of_length_eq_zero hl.1.symm
    subst this
    cases v <;> simp [minF] at h <;> subst h <;> exact ⟨c, rfl, hv⟩
  | u :: l, cs, v, r, c, hv, hl, h => by
    obtain ⟨d, ds, rfl, hd, hr⟩ := hl.head
    unfold minF at h
    split at h <;> try (cases h; done)
    · rename_i heq; cases heq
    · rename_i heq; cases heq
      split at h
      · rename_i hk; subst hk
        cases hv; cases hd
        obtain ⟨x, hx, hvx⟩ := minF_sound (.int _ _) hr h
        exact ⟨x, by simp only [List.foldlM_cons, Sem.run_bind, Builtin.min2]; exact hx, hvx⟩
      · cases h
theorem b2s_sound {P : Program} {K : Kn} {β : Bi} {H : List Ob} {w : World} (hI : Inv K β H w) {src dst et : TypeId} (h1 : P.underlying src = some (.slice et)) (h2 : P.underlying et = some (.int .u8)) (h3 : P.underlying dst = some .string)
    {v : V} {c : Value} (hv : VR K β v c) (hsl : ∃ a l cap, c = .slice a l cap) {xs : List V} {k : Nat} (he : elems H 1 v = some (xs, k)) (ha : (xs.all fun v => match v with | .int .u8 n => decide (0 ≤ n) && decide (n < 256) | _ => false) = true) :
    (convert src dst c).run P w = .ok (.string ⟨(xs.map fun v => match v with | .int _ n => n.toNat.toUInt8 | _ => 0).toArray⟩) w := by
  obtain ⟨a, l, cap, rfl⟩ := hsl
  have hel := elems_sound (P := P) hI hv he
  have hlk : l = k := by have := hel.len; simp [Builtin.lenOf] at this; exact this
  subst hlk
  rw [run_convert_bytes_string w src dst et a l cap h1 h2 h3]
  obtain ⟨ds, hd1, hd2⟩ := hel.first l (Nat.le_refl _)
  rw [← hel.size, List.take_length] at hd2
  have hd1 := hd1 w rfl
  have key : ∀ {xs : List V} {ds : List Value}, LR K β xs ds → (xs.all fun v => match v with | .int .u8 n => decide (0 ≤ n) && decide (n < 256) | _ => false) = true →
      ∃ ns : List Int, ds = ns.map (Value.int .u8) ∧ xs.map (fun v => match v with | .int _ n => n.toNat.toUInt8 | _ => 0) = ns.map fun n => UInt8.ofNat n.toNat := by
    intro xs
    induction xs with
    | nil => intro ds h _; exact ⟨[], List.eq_nil_of_length_eq_zero h.1.symm, rfl⟩
    | cons x xs ih =>
      intro ds h ha
      obtain ⟨d, r, rfl, g1, g2⟩ := h.head
      simp only [List.all_cons, Bool.and_eq_true] at ha
      obtain ⟨ns, rfl, e2⟩ := ih g2 ha.2
      have hx := ha.1
      split at hx
      · rename_i n
        cases g1
        exact ⟨n :: ns, rfl, by simp only [List.map_cons, e2]⟩
      · cases hx
  obtain ⟨ns, rfl, e2⟩ := key hd2 ha
  have fold : ∀ (ns : List Int) (s : ByteArray), ns.foldl (fun r n => r.push (UInt8.ofNat n.toNat)) s = ⟨s.data ++ (ns.map fun n => UInt8.ofNat n.toNat).toArray⟩ := by
    intro ns
    induction ns with
    | nil => intro s; simp
    | cons n ns ih =>
      intro s
      simp only [List.foldl_cons, ih, List.map_cons]
      congr 1
      apply Array.ext'
      simp [ByteArray.push]
  cases a with
  | none =>
    have : ns = [] := by
      have := hd1
      simp [Builtin.firstCells] at this
      cases ns with
      | nil => rfl
      | cons => simp at this
    subst this
    rw [e2]; rfl
  | some a =>
    rw [run_bytesToString w a l cap ns (by simpa [Builtin.firstCells] using hd1), fold, e2]
    simp
end Fz
namespace Fz
open Go
theorem places_run {P : Program} {fs : Array Field} {pl : List (Nat × Nat)} (h : mapOpt (fun f => (tSize P f.type).map fun s => (f.offset, s)) fs.toList = some pl) (w : World) :
    (fs.mapM fun f => do pure (f.offset, ← Go.sizeOf f.type) : Sem (Array (Nat × Nat))).run P w = .ok pl.toArray w := by
  have key : ∀ (l : List Field) (pl : List (Nat × Nat)), mapOpt (fun f => (tSize P f.type).map fun s => (f.offset, s)) l = some pl →
      (l.mapM fun f => do pure (f.offset, ← Go.sizeOf f.type) : Sem (List (Nat × Nat))).run P w = .ok pl w := by
    intro l
    induction l with
    | nil => intro pl h; simp [mapOpt] at h; subst h; rfl
    | cons f l ih =>
      intro pl h
      simp only [mapOpt] at h
      split at h <;> cases h
      rename_i x y hx hy
      obtain ⟨s, hs, rfl⟩ := Option.map_eq_some_iff.1 hx
      simp only [List.mapM_cons, Sem.run_bind, sizeOf_run hs, Result.andThen_ok, Sem.run_pure, ih _ hy]
  rw [Array.mapM_eq_mapM_toList, Sem.run_map, key _ _ h]
  rfl
section
variable {P : Program} {K : Kn} {β : Bi} {H : List Ob} {w : World} {nt : Nat} {e : Env} {a : Act} (hI : Inv K β H w) (hE : ER K β nt e a)
variable {dst : Option Tmp} {ty : TypeId} {pos : String} {after : Array Edge} {guard : Option (Nat × Bool)} {op : AOp} {r : OR}
include hI hE
theorem ok_mov {x : Operand} {o : Oper} (ho : execOp a.eval o = pure (.value (a.eval x))) (hc : (cOpd x).map AOp.mov = some op) (hr : evOp (evO e) H op = some r) : OpOk P K β H w ((execOp a.eval o).run P w) r := by
  obtain ⟨y, hy, rfl⟩ := Option.map_eq_some_iff.1 hc
  simp only [evOp, Option.some.injEq] at hr; subst hr
  exact .pure hI (by rw [ho]; rfl) (hE.opd hy)
theorem ok_pick {c x y : Operand} (hc : cOp P ⟨dst, .pick c x y, ty, pos, after, guard⟩ = some op) (hr : evOp (evO e) H op = some r) : OpOk P K β H w ((execOp a.eval ⟨dst, .pick c x y, ty, pos, after, guard⟩).run P w) r := by
  simp only [cOp] at hc
  split at hc <;> cases hc
  rename_i c' x' y' h1 h2 h3
  have hv := hE.opd h1
  simp only [evOp] at hr
  split at hr <;> cases hr
  rename_i t ht
  rw [ht] at hv
  generalize hcc : a.eval c = cc at hv
  cases hv
  refine .pure (c := if t then a.eval x else a.eval y) hI ?_ ?_
  · cases t <;> simp [execOp, asBool, hcc]
  · cases t <;> simp <;> first | exact hE.opd h2 | exact hE.opd h3

omit hE in
theorem ok_alloc {t : TypeId} (hc : cOp P ⟨dst, .alloc t, ty, pos, after, guard⟩ = some op) (hr : evOp (evO e) H op = some r) : OpOk P K β H w ((execOp a.eval ⟨dst, .alloc t, ty, pos, after, guard⟩).run P w) r := by
  simp only [cOp] at hc
  obtain ⟨z, hz, rfl⟩ := Option.map_eq_some_iff.1 hc
  simp only [evOp, Option.some.injEq] at hr; subst hr
  obtain ⟨c, hc1, hc2⟩ := zero_run hz K β
  refine new_ok (w' := w.alloc (.cells c.cells t)) hI (cs := c.cells) (t := t) ?_ ?_ rfl rfl rfl rfl
  · have := hc2.csR; simpa using this
  · exact execOp_v (by simp [Instr.alloc, hc1, newVar, newRow])
theorem ok_box {t : TypeId} {x : Operand} (hc : cOp P ⟨dst, .box t x, ty, pos, after, guard⟩ = some op) (hr : evOp (evO e) H op = some r) : OpOk P K β H w ((execOp a.eval ⟨dst, .box t x, ty, pos, after, guard⟩).run P w) r := by
  simp only [cOp] at hc
  obtain ⟨y, hy, rfl⟩ := Option.map_eq_some_iff.1 hc
  simp only [evOp] at hr
  split at hr <;> cases hr
  rename_i hne
  have hvr := hE.opd hy
  have := (cells_LR hvr (by intro h; rw [h] at hne; exact hne rfl)).csR
  refine new_ok (w' := w.alloc (.cells (a.eval x).cells t)) hI (cs := (a.eval x).cells) (t := t) ?_ ?_ rfl rfl rfl rfl
  · simpa using this
  · exact execOp_v (by simp [Instr.box, newVar, newRow])
theorem ok_build {t : TypeId} {ps : Array (Nat × Operand)} (hc : cOp P ⟨dst, .build t ps, ty, pos, after, guard⟩ = some op) (hr : evOp (evO e) H op = some r) : OpOk P K β H w ((execOp a.eval ⟨dst, .build t ps, ty, pos, after, guard⟩).run P w) r := by
  simp only [cOp] at hc
  have fin : ∀ {z : List V} {place : Nat → Option (Nat × Nat)} {qs : List (Nat × Nat × Opd)}, tZero P t = some z → cParts P place ps.toList = some qs → op = .build z qs →
      (∀ (c : Value) cs, (∀ w, (zeroValue t).run P w = .ok c w) → Instr.fill place c.cells (ps.map fun (i, x) => (i, a.eval x)).toList = some cs → (Instr.build t (ps.map fun (i, x) => (i, a.eval x))).run P w = .ok (.agg cs) w) →
      OpOk P K β H w ((execOp a.eval ⟨dst, .build t ps, ty, pos, after, guard⟩).run P w) r := by
    intro z place qs hz hq hop hb
    subst hop
    simp only [evOp, ans, Option.map_eq_some_iff] at hr
    obtain ⟨v, ⟨l, hl, rfl⟩, rfl⟩ := hr
    obtain ⟨c, hc1, hc2⟩ := zero_run hz K β
    obtain ⟨g1, g2⟩ := parts_R (P := P) hE hq
    obtain ⟨cs, hf, hlr⟩ := fill_sound (K := K) (β := β) (place := place) _ _ c.cells z l g1 g2 hc2 hl
    refine .pure hI (execOp_v (hb c cs hc1 ?_)) (.agg hlr.to_arr.1 hlr.to_arr.2)
    simpa using hf
  split at hc
  · rename_i fs z hu hz
    simp only [Option.bind_eq_some_iff] at hc
    obtain ⟨pl, hpl, hc⟩ := hc
    obtain ⟨qs, hq, hop⟩ := Option.map_eq_some_iff.1 hc
    refine fin hz hq hop.symm fun c cs hc1 hf => ?_
    have h1 := run_underlying hu w
    have h2 := places_run hpl w
    simp only [Instr.build, Sem.run_bind, hc1, Result.andThen_ok, h1, h2]
    simp only [List.getElem?_toArray, hf]
    rfl
  · rename_i n et z hu hz
    simp only [Option.bind_eq_some_iff] at hc
    obtain ⟨s, hs, hc⟩ := hc
    obtain ⟨qs, hq, hop⟩ := Option.map_eq_some_iff.1 hc
    refine fin hz hq hop.symm fun c cs hc1 hf => ?_
    have h1 := run_underlying hu w
    have h2 := sizeOf_run hs w
    simp only [Instr.build, Sem.run_bind, hc1, Result.andThen_ok, h1, h2]
    simp only [hf]
    rfl
  · cases hc
theorem ok_load {t : TypeId} {x : Operand} (hc : cOp P ⟨dst, .load t x, ty, pos, after, guard⟩ = some op) (hr : evOp (evO e) H op = some r) : OpOk P K β H w ((execOp a.eval ⟨dst, .load t x, ty, pos, after, guard⟩).run P w) r := by
  simp only [cOp] at hc
  split at hc
  · rename_i g n y hg hn hy
    split at hc <;> cases hc
    simp only [evOp] at hr
    split at hr
    · rename_i l hl
      obtain ⟨b, o, hcx, h1, h2⟩ := loadVar_sound (P := P) hI (hE.opd hy) hl hg hn
      cases g with
      | true =>
        simp only [if_true, Option.some.injEq] at hr; subst hr
        obtain ⟨d, hd, hv⟩ := h1 rfl
        exact .pure hI (execOp_v (by simp [Instr.loadAt, hcx, Instr.sureAddr, hd])) hv
      | false =>
        simp only [Bool.false_eq_true, if_false] at hr
        split at hr <;> cases hr
        obtain ⟨d, hd, hv⟩ := h2 rfl _ rfl
        exact .pure hI (execOp_v (by simp [Instr.loadAt, hcx, Instr.sureAddr, hd])) hv
    · cases hr
  · cases hc
theorem ok_store {t : TypeId} {x y : Operand} (hc : cOp P ⟨dst, .store t x y, ty, pos, after, guard⟩ = some op) (hr : evOp (evO e) H op = some r) : OpOk P K β H w ((execOp a.eval ⟨dst, .store t x y, ty, pos, after, guard⟩).run P w) r := by
  simp only [cOp] at hc
  split at hc <;> cases hc
  rename_i n x' y' hn hx hy
  have hvx := hE.opd hx
  have hvy := hE.opd hy
  simp only [evOp] at hr
  split at hr
  · rename_i id off hpt
    rw [hpt] at hvx
    split at hr
    · rename_i l ho
      split at hr <;> cases hr
      rename_i hcond
      obtain ⟨g1, g2, g3⟩ := hcond
      generalize hcx : a.eval x = cx at hvx
      cases hvx with
      | ptr hβ =>
        rename_i b
        have hany : evO e y' ≠ .any := by intro h; rw [h] at g3; simp [cellsOf, storable] at g3
        have hcl := cells_LR hvy hany
        obtain ⟨w', h1, h2, h3⟩ := write_ok (P := P) hI ho hβ hcl (by rw [g1]; exact g2) g3
        refine ⟨w', K, β, execOp_u ?_, h2, h3⟩
        have hsz : (a.eval y).cells.size = n := by rw [← g1]; simpa using hcl.1.symm
        simp [Instr.storeAt, hcx, Instr.sureAddr, storeVar, sizeOf_run hn, hsz, h1]
    · cases hr
  · cases hr
theorem ok_nilCheck {x : Operand} (hc : cOp P ⟨dst, .nilCheck x, ty, pos, after, guard⟩ = some op) (hr : evOp (evO e) H op = some r) : OpOk P K β H w ((execOp a.eval ⟨dst, .nilCheck x, ty, pos, after, guard⟩).run P w) r := by
  simp only [cOp] at hc
  obtain ⟨y, hy, rfl⟩ := Option.map_eq_some_iff.1 hc
  have hv := hE.opd hy
  simp only [evOp] at hr
  split at hr <;> cases hr
  all_goals
    rename_i heq
    rw [heq] at hv
    generalize hcx : a.eval x = cx at hv
    refine .pure (c := cx) hI ?_ hv
    cases hv
    simp [execOp, hcx]
theorem ok_bin {bop : BinOp} {t yt : TypeId} {x y : Operand} (hc : cOp P ⟨dst, .binOp bop t x y yt, ty, pos, after, guard⟩ = some op) (hr : evOp (evO e) H op = some r)
    (hX : cBinX P bop t x y = some op → OpOk P K β H w ((execOp a.eval ⟨dst, .binOp bop t x y yt, ty, pos, after, guard⟩).run P w) r) : OpOk P K β H w ((execOp a.eval ⟨dst, .binOp bop t x y yt, ty, pos, after, guard⟩).run P w) r := by
  simp only [cOp] at hc
  split at hc
  · rename_i o ho
    cases hc
    exact hX ho
  split at hc <;> cases hc
  rename_i x' y' hx hy
  simp only [evOp, ans, Option.map_eq_some_iff] at hr
  obtain ⟨v, hv, rfl⟩ := hr
  obtain ⟨c, w', h1, h2, h3⟩ := bin_sound (P := P) (w := w) (ox := x) (oy := y) (hE.opd hx) (hE.opd hy) hv
  exact .drew hI h3 (execOp_v h1) h2
theorem ok_un {uop : UnOp} {t : TypeId} {x : Operand} (hc : cOp P ⟨dst, .unOp uop t x, ty, pos, after, guard⟩ = some op) (hr : evOp (evO e) H op = some r) : OpOk P K β H w ((execOp a.eval ⟨dst, .unOp uop t x, ty, pos, after, guard⟩).run P w) r := by
  simp only [cOp] at hc
  obtain ⟨y, hy, rfl⟩ := Option.map_eq_some_iff.1 hc
  simp only [evOp, ans, Option.map_eq_some_iff] at hr
  obtain ⟨v, hv, rfl⟩ := hr
  obtain ⟨c, h1, h2⟩ := un_sound (P := P) (w := w) (hE.opd hy) hv
  exact .pure hI (execOp_v h1) h2
theorem ok_convO {s d : TypeId} {x : Operand} {k : CvK} {y : Opd} (hk : cConv P s d = some k) (hy : cOpd x = some y) (n1 : ∀ j, k ≠ .float j) (n2 : ∀ j, k ≠ .f2i j) (n3 : k ≠ .i2s)
    (hr : evOp (evO e) H (.conv k y) = some r) : OpOk P K β H w ((execOp a.eval ⟨dst, .convert s d x, ty, pos, after, guard⟩).run P w) r := by
  have hv := hE.opd hy
  unfold cConv at hk
  split at hk
  · rename_i ks kd h1 h2
    cases hk
    simp only [evOp] at hr
    split at hr <;> cases hr
    rename_i heq
    rw [heq] at hv
    generalize hcx : a.eval x = cx at hv
    cases hv
    refine .pure hI (execOp_v (c := .int kd (kd.wrap _)) (by simp [convert, hcx, run_underlying h1, run_underlying h2, Conv.intToInt])) (.int _ _)
  · rename_i h1 h2
    cases hk
    simp only [evOp] at hr
    split at hr <;> cases hr
    rename_i heq
    rw [heq] at hv
    generalize hcx : a.eval x = cx at hv
    cases hv
    refine .pure hI (execOp_v (by simp [convert, hcx, run_underlying h1, run_underlying h2])) (.str _)
  · cases hk; exact absurd rfl (n1 _)
  · cases hk; exact absurd rfl (n2 _)
  · cases hk; exact absurd rfl n3
  · rename_i et h1 h2
    split at hk <;> cases hk
    rename_i h3
    simp only [evOp] at hr
    split at hr <;> try (cases hr; done)
    · rename_i l c heq
      rw [heq] at hv
      simp only [Option.bind_eq_some_iff] at hr
      obtain ⟨⟨xs, k⟩, hel, hr⟩ := hr
      split at hr <;> cases hr
      rename_i hall
      obtain ⟨a', cap, hcs, _, _⟩ := vr_slice hv
      exact .pure hI (execOp_v (b2s_sound hI h1 h3 h2 hv ⟨_, _, _, hcs⟩ hel hall)) (.str _)
    · rename_i i1 i2 i3 i4 heq
      rw [heq] at hv
      simp only [Option.bind_eq_some_iff] at hr
      obtain ⟨⟨xs, k⟩, hel, hr⟩ := hr
      split at hr <;> cases hr
      rename_i hall
      have hsl : ∃ a' l cap, a.eval x = .slice a' l cap := by
        generalize a.eval x = cx at hv
        cases hv; exact ⟨_, _, _, rfl⟩
      exact .pure hI (execOp_v (b2s_sound hI h1 h3 h2 hv hsl hel hall)) (.str _)
  · cases hk
theorem ok_conv {s d : TypeId} {x : Operand} (hc : cOp P ⟨dst, .convert s d x, ty, pos, after, guard⟩ = some op) (hr : evOp (evO e) H op = some r)
    (hB : ∀ y, cOpd x = some y → cConvB P s d y = some op → OpOk P K β H w ((execOp a.eval ⟨dst, .convert s d x, ty, pos, after, guard⟩).run P w) r) : OpOk P K β H w ((execOp a.eval ⟨dst, .convert s d x, ty, pos, after, guard⟩).run P w) r := by
  simp only [cOp] at hc
  split at hc
  · rename_i k y hk hy
    cases hc
    have hv := hE.opd hy
    simp only [evOp, ans, Option.map_eq_some_iff] at hr
    obtain ⟨u, hu, rfl⟩ := hr
    unfold cConv at hk
    split at hk <;> try (cases hk; done)
    · rename_i ks kd h1 h2
      cases hk
      generalize hw : evO e y = vy at hv hu
      generalize hcx : a.eval x = cx at hv
      simp only [List.map_cons, List.map_nil, hw, purV] at hu
      cases hv <;> try (cases hu; done)
      cases hu
      exact .pure hI (execOp_v (by simp [convert, hcx, run_underlying h1, run_underlying h2, Conv.intToFloat])) (.float _ _)
    · split at hk <;> cases hk
  · rename_i k y hk hy
    cases hc
    have hv := hE.opd hy
    simp only [evOp, ans, Option.map_eq_some_iff] at hr
    obtain ⟨u, hu, rfl⟩ := hr
    unfold cConv at hk
    split at hk <;> try (cases hk; done)
    · rename_i ks kd h1 h2
      cases hk
      generalize hw : evO e y = vy at hv hu
      generalize hcx : a.eval x = cx at hv
      simp only [List.map_cons, List.map_nil, hw, purV] at hu
      cases hv <;> try (cases hu; done)
      dsimp only at hu
      split at hu
      · rename_i n hn
        split at hu <;> cases hu
        rename_i hb
        exact .pure hI (execOp_v (by simp [convert, hcx, run_underlying h1, run_underlying h2, Conv.floatToInt, hn, hb])) (.int _ _)
      · cases hu
    · split at hk <;> cases hk
  · rename_i y hk hy
    cases hc
    have hv := hE.opd hy
    simp only [evOp, ans, Option.map_eq_some_iff] at hr
    obtain ⟨u, hu, rfl⟩ := hr
    unfold cConv at hk
    split at hk <;> try (cases hk; done)
    · rename_i ks h1 h2
      generalize hw : evO e y = vy at hv hu
      generalize hcx : a.eval x = cx at hv
      simp only [List.map_cons, List.map_nil, hw, purV] at hu
      cases hv <;> try (cases hu; done)
      cases hu
      exact .pure hI (execOp_v (by simp [convert, hcx, run_underlying h1, run_underlying h2, Conv.intToString])) (.str _)
    · split at hk <;> cases hk
  · rename_i k y n1 n2 n3 hk hy
    cases hc
    exact ok_convO hI hE hk hy n1 n2 n3 hr
  · rename_i y _ hy
    exact hB y hy hc
  · cases hc
theorem ok_makeIface {t : TypeId} {x : Operand} (hc : cOp P ⟨dst, .makeInterface t x, ty, pos, after, guard⟩ = some op) (hr : evOp (evO e) H op = some r) : OpOk P K β H w ((execOp a.eval ⟨dst, .makeInterface t x, ty, pos, after, guard⟩).run P w) r := by
  simp only [cOp] at hc
  split at hc
  · cases hc
  · cases hc
  · rename_i n1 n2
    obtain ⟨y, hy, rfl⟩ := Option.map_eq_some_iff.1 hc
    have hv := hE.opd hy
    simp only [evOp] at hr
    split at hr
    · cases hr
    · cases hr
      cases hu : P.underlying t with
      | none => exact absurd hu n2
      | some d =>
        refine .pure hI (execOp_v (c := .iface t (a.eval x)) ?_) (.iface hv)
        have := run_underlying hu w
        cases d <;> first
          | exact absurd hu (n1 _)
          | simp [Instr.makeInterface, this]
theorem ok_makeFunc {f : Fn} {x y : Array Operand} (hc : cOp P ⟨dst, .makeFunc f x y, ty, pos, after, guard⟩ = some op) (hr : evOp (evO e) H op = some r) : OpOk P K β H w ((execOp a.eval ⟨dst, .makeFunc f x y, ty, pos, after, guard⟩).run P w) r := by
  simp only [cOp] at hc
  split at hc <;> cases hc
  rename_i l m hl hm
  simp only [evOp, Option.some.injEq] at hr; subst hr
  have h1 := opds_LR hE hl
  have h2 := opds_LR hE hm
  refine .pure hI (execOp_v (c := .func f (x.map a.eval) (y.map a.eval)) rfl) (.fn ?_ ?_ ?_ ?_)
  · exact (LR.to_arr (cs := x.map a.eval) (by simpa using h1)).1
  · exact (LR.to_arr (cs := x.map a.eval) (by simpa using h1)).2
  · exact (LR.to_arr (cs := y.map a.eval) (by simpa using h2)).1
  · exact (LR.to_arr (cs := y.map a.eval) (by simpa using h2)).2
end
end Fz
namespace Fz
open Go
section
variable {P : Program} {K : Kn} {β : Bi} {H : List Ob} {w : World} {nt : Nat} {e : Env} {a : Act} (hI : Inv K β H w) (hE : ER K β nt e a)
variable {dst : Option Tmp} {ty : TypeId} {pos : String} {after : Array Edge} {guard : Option (Nat × Bool)} {op : AOp} {r : OR}
include hI hE
theorem ok_slice {t : TypeId} {x : Operand} {lo hi mx : Option Operand} (hc : cOp P ⟨dst, .slice t x lo hi mx, ty, pos, after, guard⟩ = some op) (hr : evOp (evO e) H op = some r) : OpOk P K β H w ((execOp a.eval ⟨dst, .slice t x lo hi mx, ty, pos, after, guard⟩).run P w) r := by
  simp only [cOp] at hc
  split at hc
  case h_2 => cases hc
  rename_i x' lo' hi' mx' hx hlo hhi hmx
  have fin : ∀ {k : SlK}, (match k with
      | .str => P.underlying t = some .string
      | .sl n => ∃ e, P.underlying t = some (.slice e) ∧ tSize P e = some n ∧ n ≠ 0
      | .arr len n => ∃ e, (P.underlying t = some (.array len e) ∨ ∃ a, P.underlying t = some (.pointer a) ∧ P.underlying a = some (.array len e)) ∧ tSize P e = some n ∧ n ≠ 0) →
      op = .slice k x' lo' hi' mx' → OpOk P K β H w ((execOp a.eval ⟨dst, .slice t x lo hi mx, ty, pos, after, guard⟩).run P w) r := by
    intro k hk hop
    subst hop
    simp only [evOp, ans, Option.map_eq_some_iff] at hr
    obtain ⟨v, hv, rfl⟩ := hr
    obtain ⟨c, h1, h2⟩ := slice_sound (P := P) hI hk (hE.opd hx) (cOOpd_R hE hlo) (cOOpd_R hE hhi) (cOOpd_R hE hmx) hv
    exact .pure hI (execOp_v h1) h2
  split at hc
  · rename_i hu; cases hc; exact fin (k := .str) hu rfl
  · rename_i et hu
    simp only [Option.bind_eq_some_iff] at hc
    obtain ⟨n, hn, hc⟩ := hc
    split at hc <;> cases hc
    exact fin (k := .sl n) ⟨et, hu, hn, ‹_›⟩ rfl
  · rename_i len et hu
    simp only [Option.bind_eq_some_iff] at hc
    obtain ⟨n, hn, hc⟩ := hc
    split at hc <;> cases hc
    exact fin (k := .arr len n) ⟨et, .inl hu, hn, ‹_›⟩ rfl
  · rename_i arr hu
    split at hc
    · rename_i len et hu2
      simp only [Option.bind_eq_some_iff] at hc
      obtain ⟨n, hn, hc⟩ := hc
      split at hc <;> cases hc
      exact fin (k := .arr len n) ⟨et, .inr ⟨arr, hu, hu2⟩, hn, ‹_›⟩ rfl
    · cases hc
  · cases hc

omit hI hE in
theorem ref_drop {K : Kn} {β : Bi} {l : List V} {b o : Nat} (h : VR K β (.ref l) (.pointer (some ⟨b, o, none⟩))) (n : Nat) (hn : n ≤ l.length) : VR K β (.ref (l.drop n)) (.pointer (some ⟨b, o + n, none⟩)) := by
  cases h with
  | ref hb hl h =>
    refine .ref hb (by simp; omega) fun i v hv => ?_
    simp only [List.getElem?_drop] at hv
    have := h _ v hv
    rwa [show o + (n + i) = o + n + i from by omega] at this
theorem ok_fieldAddr {t : TypeId} {x : Operand} {f : Nat} (hc : cOp P ⟨dst, .fieldAddr t x f, ty, pos, after, guard⟩ = some op) (hr : evOp (evO e) H op = some r) : OpOk P K β H w ((execOp a.eval ⟨dst, .fieldAddr t x f, ty, pos, after, guard⟩).run P w) r := by
  simp only [cOp] at hc
  split at hc
  · rename_i fs x' hu hx
    split at hc
    · rename_i fd hf
      simp only [Option.bind_eq_some_iff] at hc
      obtain ⟨s, hs, hc⟩ := hc
      split at hc <;> cases hc
      rename_i hs0
      have hv := hE.opd hx
      have h1 := run_underlying hu w
      have h2 := sizeOf_run hs w
      have run : ∀ b o, a.eval x = .pointer (some ⟨b, o, none⟩) → (Instr.fieldAt t (a.eval x) f).run P w = .ok (.pointer (some ⟨b, o + fd.offset, none⟩)) w := by
        intro b o hcx
        simp [Instr.fieldAt, h1, hf, hcx, Instr.sureAddr, fieldPlace, h2, hs0, addr_add]
      simp only [evOp] at hr
      split at hr
      · rename_i id o heq
        cases hr
        rw [heq] at hv
        generalize hcx : a.eval x = cx at hv
        cases hv with
        | ptr hβ => exact .pure hI (execOp_v (run _ _ hcx)) (.ptr hβ)
      · rename_i l heq
        split at hr <;> cases hr
        rename_i hle
        rw [heq] at hv
        have hv' := hv
        generalize hcx : a.eval x = cx at hv
        cases hv with
        | ref hb hl h =>
          rw [hcx] at hv'
          exact .pure hI (execOp_v (run _ _ hcx)) (ref_drop hv' _ hle)
      · cases hr
    · cases hc
  · cases hc

omit hI hE in
theorem part_sound {K : Kn} {β : Bi} {l : List V} {cs : Array Value} (h : LR K β l cs.toList) {t : TypeId} {g : Bool} {n off : Nat} (hg : tAgg P t = some g) (hn : tSize P t = some n) (hl : off + n ≤ l.length) :
    (g = true → ∃ c, (part t cs off).run P w = .ok c w ∧ VR K β (.agg ((l.drop off).take n)) c) ∧ (g = false → ∀ v, l[off]? = some v → ∃ c, (part t cs off).run P w = .ok c w ∧ VR K β v c) := by
  refine ⟨fun hgt => ?_, fun hgf v hv => ?_⟩
  · subst hgt
    have := (h.drop off).take n
    refine ⟨.agg (cs.extract off (off + n)), by simp [part, isAgg_run hg, sizeOf_run hn], ?_⟩
    have e1 : (cs.extract off (off + n)).toList = (cs.toList.drop off).take n := by
      simp [Array.toList_extract, List.extract_eq_take_drop]
    rw [← e1] at this
    exact .agg this.to_arr.1 this.to_arr.2
  · subst hgf
    obtain ⟨c, hc, hv⟩ := h.get hv
    refine ⟨c, ?_, hv⟩
    have : cs[off]? = some c := by simpa using hc
    simp [part, isAgg_run hg, this]
theorem ok_field {t : TypeId} {x : Operand} {f : Nat} (hc : cOp P ⟨dst, .field t x f, ty, pos, after, guard⟩ = some op) (hr : evOp (evO e) H op = some r) : OpOk P K β H w ((execOp a.eval ⟨dst, .field t x f, ty, pos, after, guard⟩).run P w) r := by
  simp only [cOp] at hc
  split at hc
  · rename_i fs x' hu hx
    split at hc
    · rename_i fd hf
      split at hc
      · rename_i g s hg hs
        split at hc <;> cases hc
        have hv := hE.opd hx
        have h1 := run_underlying hu w
        simp only [evOp] at hr
        split at hr
        · rename_i l heq
          rw [heq] at hv
          split at hr
          · rename_i hle
            generalize hcx : a.eval x = cx at hv
            cases hv with
            | agg hl h =>
              rename_i cs
              obtain ⟨p1, p2⟩ := part_sound (P := P) (w := w) (LR.of_arr hl h) hg hs hle
              cases g with
              | true =>
                simp only [if_true, Option.some.injEq] at hr; subst hr
                obtain ⟨c, hc1, hc2⟩ := p1 rfl
                exact .pure hI (execOp_v (by simp [Instr.field, h1, hf, hcx, asAgg, hc1])) hc2
              | false =>
                simp only [Bool.false_eq_true, if_false] at hr
                split at hr <;> cases hr
                obtain ⟨c, hc1, hc2⟩ := p2 rfl _ ‹_›
                exact .pure hI (execOp_v (by simp [Instr.field, h1, hf, hcx, asAgg, hc1])) hc2
          · cases hr
        · cases hr
      · cases hc
    · cases hc
  · cases hc
theorem ok_extract {x : Operand} {i : Nat} (hc : cOp P ⟨dst, .extract x i, ty, pos, after, guard⟩ = some op) (hr : evOp (evO e) H op = some r) : OpOk P K β H w ((execOp a.eval ⟨dst, .extract x i, ty, pos, after, guard⟩).run P w) r := by
  simp only [cOp] at hc
  obtain ⟨y, hy, rfl⟩ := Option.map_eq_some_iff.1 hc
  have hv := hE.opd hy
  simp only [evOp] at hr
  split at hr
  · rename_i l heq
    split at hr <;> cases hr
    rename_i hi
    rw [heq] at hv
    generalize hcx : a.eval x = cx at hv
    cases hv with
    | tuple hl h =>
      obtain ⟨c, hc, hv⟩ := (LR.of_arr hl h).get hi
      refine .pure hI (execOp_v (c := c) ?_) hv
      simp only [Array.getElem?_toList] at hc
      simp [Instr.extract, hcx, hc]
  · cases hr
theorem ok_indexAddr {t : TypeId} {x i : Operand} (hc : cOp P ⟨dst, .indexAddr t x i, ty, pos, after, guard⟩ = some op) (hr : evOp (evO e) H op = some r) : OpOk P K β H w ((execOp a.eval ⟨dst, .indexAddr t x i, ty, pos, after, guard⟩).run P w) r := by
  simp only [cOp] at hc
  split at hc
  · rename_i et x' i' hu hx hi
    simp only [Option.bind_eq_some_iff] at hc
    obtain ⟨n, hn, hc⟩ := hc
    split at hc <;> cases hc
    rename_i hn0
    have h1 := run_underlying hu w
    have h2 := sizeOf_run hn w
    have hvx := hE.opd hx
    have hvi := hE.opd hi
    simp only [evOp] at hr
    split at hr
    · rename_i k j hij
      split at hr
      · cases hr
      · rename_i hj0
        rw [hij] at hvi
        generalize hci : a.eval i = ci at hvi
        cases hvi
        split at hr
        · rename_i l c heq
          split at hr
          · rename_i v hv
            split at hr <;> cases hr
            rename_i hvn
            rw [heq] at hvx
            have hjl : j.toNat < l.length := (List.getElem?_eq_some_iff.1 hv).1
            generalize hcx : a.eval x = cx at hvx
            cases hvx with
            | lnil => simp at hv
            | list hb hun hnn hl hcap hcl h =>
              rename_i b o n' cap cs et' fr
              have hnn' : n' = n := by rw [← hun v (List.mem_of_getElem? hv), hvn]
              subst hnn'
              refine .pure hI (execOp_v (c := .pointer (some ⟨b, o + j.toNat * n', none⟩)) ?_) ?_
              · have : 0 ≤ j ∧ j < (l.length : Int) := by omega
                simp [Instr.indexAt, hci, asIntOf, h1, hcx, this, h2, addr_add]
              · have hle : (j.toNat + 1) * n' ≤ l.length * n' := Nat.mul_le_mul_right n' hjl
                rw [Nat.add_mul] at hle
                refine .ref hb (by rw [hvn]; omega) fun q u hq => ?_
                have hqn : q < n' := by rw [← hvn]; exact (List.getElem?_eq_some_iff.1 hq).1
                have hd : (flat l)[j.toNat * n' + q]? = some u := by
                  have e1 := flat_drop (n := n') j.toNat hun
                  have e2 : l.drop j.toNat = v :: l.drop (j.toNat + 1) := by
                    rw [List.drop_eq_getElem_cons hjl]
                    congr 1
                    rw [List.getElem?_eq_getElem hjl] at hv
                    exact Option.some.inj hv
                  rw [e2] at e1
                  simp only [flat, List.flatMap_cons] at e1
                  have e3 := congrArg (fun z => z[q]?) e1
                  simp only [List.getElem?_drop] at e3
                  rw [List.getElem?_append_left (by rw [hvn]; exact hqn), hq] at e3
                  exact e3.symm
                have := h _ u hd
                rwa [← Nat.add_assoc] at this
          · cases hr
        · rename_i id off len m heq
          split at hr <;> cases hr
          rename_i hcond
          obtain ⟨hjl, rfl⟩ := hcond
          rw [heq] at hvx
          generalize hcx : a.eval x = cx at hvx
          cases hvx with
          | own hβ hz hl hz' hnn =>
            refine .pure hI (execOp_v (c := .pointer (some ⟨_, off + j.toNat * m, none⟩)) ?_) (.ptr hβ)
            have : 0 ≤ j ∧ j < (len : Int) := by omega
            simp [Instr.indexAt, hci, asIntOf, h1, hcx, this, h2, addr_add]
        · cases hr
    · cases hr
  · rename_i len et x' i' hu hx hi
    simp only [Option.bind_eq_some_iff] at hc
    obtain ⟨n, hn, hc⟩ := hc
    split at hc <;> cases hc
    rename_i hn0
    have h1 := run_underlying hu w
    have h2 := sizeOf_run hn w
    have hvx := hE.opd hx
    have hvi := hE.opd hi
    simp only [evOp] at hr
    split at hr
    · rename_i k j hij
      split at hr
      · cases hr
      · rename_i hj0
        rw [hij] at hvi
        generalize hci : a.eval i = ci at hvi
        cases hvi
        split at hr
        · rename_i id off heq
          split at hr <;> cases hr
          rename_i hjl
          rw [heq] at hvx
          generalize hcx : a.eval x = cx at hvx
          cases hvx with
          | ptr hβ =>
            refine .pure hI (execOp_v (c := .pointer (some ⟨_, off + j.toNat * n, none⟩)) ?_) (.ptr hβ)
            have : 0 ≤ j ∧ j < (len : Int) := by omega
            simp [Instr.indexAt, hci, asIntOf, h1, hcx, this, h2, addr_add, Instr.sureAddr]
        · rename_i l heq
          split at hr <;> cases hr
          rename_i hcond
          rw [heq] at hvx
          have hv' := hvx
          generalize hcx : a.eval x = cx at hvx
          cases hvx with
          | ref hb hl h =>
            rw [hcx] at hv'
            refine .pure hI (execOp_v (c := .pointer (some ⟨_, _ + j.toNat * n, none⟩)) ?_) (ref_drop hv' _ hcond.2)
            have : 0 ≤ j ∧ j < (len : Int) := by omega
            simp [Instr.indexAt, hci, asIntOf, h1, hcx, this, h2, addr_add, Instr.sureAddr]
        · cases hr
    · cases hr
  · cases hc
theorem ok_index {t : TypeId} {x i : Operand} (hc : cOp P ⟨dst, .index t x i, ty, pos, after, guard⟩ = some op) (hr : evOp (evO e) H op = some r) : OpOk P K β H w ((execOp a.eval ⟨dst, .index t x i, ty, pos, after, guard⟩).run P w) r := by
  simp only [cOp] at hc
  split at hc
  · rename_i x' i' hu hx hi
    cases hc
    have h1 := run_underlying hu w
    have hvx := hE.opd hx
    have hvi := hE.opd hi
    simp only [evOp] at hr
    split at hr
    · rename_i k j s hij hxs
      split at hr
      · cases hr
      · rename_i hj0
        split at hr <;> cases hr
        rename_i b hb
        rw [hij] at hvi; rw [hxs] at hvx
        generalize hci : a.eval i = ci at hvi
        generalize hcx : a.eval x = cx at hvx
        cases hvi; cases hvx
        refine .pure hI (execOp_v ?_) (.int _ _)
        have hjs : j.toNat < s.size := by have := (List.getElem?_eq_some_iff.1 hb).1; simpa using this
        have hb' : s[j.toNat]? = some b := by
          simp at hb
          rw [getElem?_pos s j.toNat hjs]
          have := (Array.getElem?_eq_some_iff.1 hb).2
          exact congrArg some this
        have : 0 ≤ j := by omega
        simp [Instr.index, hci, asIntOf, h1, hcx, this, hb']
    · cases hr
  · rename_i len et x' i' hu hx hi
    split at hc
    · rename_i g n hg hn
      split at hc <;> cases hc
      have h1 := run_underlying hu w
      have h2 := sizeOf_run hn w
      have hvx := hE.opd hx
      have hvi := hE.opd hi
      simp only [evOp] at hr
      split at hr
      · rename_i k j l hij hxs
        split at hr
        · rename_i hcond
          rw [hij] at hvi; rw [hxs] at hvx
          generalize hci : a.eval i = ci at hvi
          generalize hcx : a.eval x = cx at hvx
          cases hvi
          cases hvx with
          | agg hl h =>
            rename_i cs
            obtain ⟨p1, p2⟩ := part_sound (P := P) (w := w) (LR.of_arr hl h) hg hn hcond.2.2
            have h3 : 0 ≤ j ∧ j < (len : Int) := ⟨hcond.1, hcond.2.1⟩
            cases g with
            | true =>
              simp only [if_true, Option.some.injEq] at hr; subst hr
              obtain ⟨c, hc1, hc2⟩ := p1 rfl
              exact .pure hI (execOp_v (by simp [Instr.index, hci, asIntOf, h1, hcx, h2, h3, hc1])) hc2
            | false =>
              simp only [Bool.false_eq_true, if_false] at hr
              split at hr <;> cases hr
              obtain ⟨c, hc1, hc2⟩ := p2 rfl _ ‹_›
              exact .pure hI (execOp_v (by simp [Instr.index, hci, asIntOf, h1, hcx, h2, h3, hc1])) hc2
        · cases hr
      · cases hr
    · cases hc
  · cases hc
end
end Fz
namespace Fz
open Go
section
variable {P : Program} {K : Kn} {β : Bi} {H : List Ob} {w : World} {nt : Nat} {e : Env} {a : Act} (hI : Inv K β H w) (hE : ER K β nt e a)
variable {dst : Option Tmp} {ty : TypeId} {pos : String} {after : Array Edge} {guard : Option (Nat × Bool)} {op : AOp} {r : OR}
include hI hE
theorem ok_makeSlice {t : TypeId} {l c : Operand} (hc : cOp P ⟨dst, .makeSlice t l c, ty, pos, after, guard⟩ = some op) (hr : evOp (evO e) H op = some r) : OpOk P K β H w ((execOp a.eval ⟨dst, .makeSlice t l c, ty, pos, after, guard⟩).run P w) r := by
  simp only [cOp] at hc
  split at hc
  · rename_i et hu
    split at hc <;> cases hc
    rename_i i z l' c' hi hz hl hcc
    have h1 := run_underlying hu w
    have h3 : (typeInfo et).run P w = .ok i w := by simp [typeInfo, hi]
    have h4 : (Go.sizeOf et).run P w = .ok i.size w := by simp [Go.sizeOf, typeInfo, hi]
    have hvl := hE.opd hl
    have hvc := hE.opd hcc
    obtain ⟨zc, hz1, hz2⟩ := zero_run hz K β
    simp only [evOp] at hr
    split at hr
    · rename_i k1 n1 k2 n2 e1 e2
      split at hr
      · rename_i hcond
        obtain ⟨g1, g2, g3, g4, g5, g6⟩ := hcond
        rw [e1] at hvl; rw [e2] at hvc
        generalize hcl : a.eval l = cl at hvl
        generalize hccc : a.eval c = cc at hvc
        cases hvl; cases hvc
        have w1 : IntKind.i64.wrap n1 = n1 := by
          unfold IntKind.wrap; simp [IntKind.signed, IntKind.bits]; omega
        have w2 : IntKind.i64.wrap n2 = n2 := by
          unfold IntKind.wrap; simp [IntKind.signed, IntKind.bits]; omega
        have t1 : ∀ n : Int, 0 ≤ n → n ≤ n2 → (decide (n < 0) || decide ((i.bytes : Int) * n > 2 ^ 48)) = false := by
          intro n h0 h1
          have : (i.bytes : Int) * n ≤ i.bytes * n2 := Int.mul_le_mul_of_nonneg_left h1 (by omega)
          have e3 : n2 * (i.bytes : Int) = i.bytes * n2 := Int.mul_comm _ _
          simp; omega
        have hzs : zc.cells.size = i.size := by rw [← g5]; simpa using hz2.1.symm
        have hrow := zeros_LR hz2 (by rw [g5]; exact g6) n2.toNat
        rw [hzs] at hrow
        by_cases hc0 : n2 = 0
        · subst hc0
          have hn1 : n1 = 0 := by omega
          subst hn1
          simp only [if_true, Option.some.injEq] at hr; subst hr
          refine ⟨.slice (some ⟨w.heap.size, 0, none⟩) 0 0, w.alloc (.cells #[] et), K, β, ?_, .lnil fun _ => rfl, ?_, ?_⟩
          · refine execOp_v ?_
            simp [Instr.makeSlice, h1, hcl, hccc, asInt, asIntOf, h3, h4, w1, newRow]
            congr 2
            apply Array.ext'; simp
          · have hget : ∀ b, b < w.heap.size → (w.alloc (.cells #[] et)).heap[b]? = w.heap[b]? := fun b hb => push_get hb
            refine ⟨fun b o hf => ?_, fun b z hz => ?_, hI.dom, fun id o ho => ?_, hI.inj⟩
            · have := hI.fixed b o hf; rw [hget b (heap_lt this)]; exact this
            · obtain ⟨cs, e', fr, q1, q2⟩ := hI.size b z hz
              exact ⟨cs, e', fr, by rw [hget b (heap_lt q1)]; exact q1, q2⟩
            · refine (hI.obj id o ho).mono K.le_refl (fun _ _ h => h) fun b hl hb hf => ⟨hf, hget b ?_⟩
              obtain ⟨b', q1, q2, _⟩ := (hI.obj id o ho).lt hl
              rw [hb] at q1; cases q1; exact q2
          · exact ⟨K.le_refl, fun _ _ h => h, Nat.le_refl _, fun x hx _ => push_get hx, by simp, rfl, rfl, rfl, fun _ h => .inl h, fun _ _ h => .inl h, fun _ _ => rfl⟩
        · rw [if_neg hc0] at hr
          simp only [Option.some.injEq] at hr; subst hr
          have hn0 : ¬ n2.toNat * i.size = 0 := Nat.mul_ne_zero (by omega) g6
          refine newSlice_ok (w' := w.alloc (.cells ((Array.range (n2.toNat * i.size)).map fun j => zc.cells[j % i.size]!) et)) (cap := n2.toNat) (t := et) hI (cs := (Array.range (n2.toNat * i.size)).map fun j => zc.cells[j % i.size]!) ?_ ?_ rfl rfl rfl rfl (by omega) (by simp) g6
          · have := hrow.csR; rwa [Array.toArray_toList] at this
          · refine execOp_v ?_
            have q1 := t1 n2 (by omega) (Int.le_refl _)
            simp only [Bool.or_eq_false_iff, decide_eq_false_iff_not] at q1
            have q2 : ¬ (281474976710656 : Int) < (i.bytes : Int) * n2 := by have := q1.2; omega
            have q3 : ¬ n2 < 0 := q1.1
            have q4 : ¬ n1 < 0 := by omega
            have q5 : ¬ n2 < n1 := by omega
            have q6 : ¬ n2 ≤ 0 := by omega
            simp [Instr.makeSlice, h1, hcl, hccc, asInt, asIntOf, h3, h4, w1, w2, newRow, q2, q3, q4, q5, q6, g6, hz1, hzs]
            exact fun h0 => absurd h0 hn0
      · cases hr
    · cases hr
  · cases hc
theorem ok_len {xs : Array Operand} {ats : Array TypeId} (hc : cOp P ⟨dst, .call ⟨.builtin .len, xs, ats⟩, ty, pos, after, guard⟩ = some op) (hr : evOp (evO e) H op = some r) : OpOk P K β H w ((execOp a.eval ⟨dst, .call ⟨.builtin .len, xs, ats⟩, ty, pos, after, guard⟩).run P w) r := by
  simp only [cOp] at hc
  split at hc
  · rename_i x t hx ht
    have hxs : xs = #[x] := Array.ext' (by simpa using hx)
    have hts : ats = #[t] := Array.ext' (by simpa using ht)
    subst hxs; subst hts
    have run : ∀ {c : Value}, (Builtin.len_ #[t] ty #[a.eval x]).run P w = .ok c w → (execOp a.eval ⟨dst, .call ⟨.builtin .len, #[x], #[t]⟩, ty, pos, after, guard⟩).run P w = .ok (.value c) w := by
      intro c hc
      simp [execOp, resolve, invoke, builtin, hc]
    split at hc <;> cases hc
    · rename_i n et y hu hy
      have h1 := run_underlying hu w
      simp only [evOp, Option.some.injEq] at hr; subst hr
      exact .pure hI (run (by simp [Builtin.len_, h1, goInt])) (.int _ _)
    · rename_i y hu hy
      have h1 := run_underlying hu w
      have hv := hE.opd hy
      simp only [evOp] at hr
      split at hr <;> cases hr
      rename_i heq; rw [heq] at hv
      generalize hcx : a.eval x = cx at hv
      cases hv
      exact .pure hI (run (by simp [Builtin.len_, h1, goInt, hcx])) (.int _ _)
    · rename_i et y hu hy
      have h1 := run_underlying hu w
      have hv := hE.opd hy
      simp only [evOp] at hr
      split at hr <;> cases hr
      · rename_i heq; rw [heq] at hv
        obtain ⟨a', cap, hcx, _⟩ := vr_slice hv
        exact .pure hI (run (by simp [Builtin.len_, h1, goInt, hcx])) (.int _ _)
      · rename_i heq; rw [heq] at hv
        generalize hcx : a.eval x = cx at hv
        cases hv
        exact .pure hI (run (by simp [Builtin.len_, h1, goInt, hcx])) (.int _ _)
  · cases hc
theorem ok_cap {xs : Array Operand} {ats : Array TypeId} (hc : cOp P ⟨dst, .call ⟨.builtin .cap, xs, ats⟩, ty, pos, after, guard⟩ = some op) (hr : evOp (evO e) H op = some r) : OpOk P K β H w ((execOp a.eval ⟨dst, .call ⟨.builtin .cap, xs, ats⟩, ty, pos, after, guard⟩).run P w) r := by
  simp only [cOp] at hc
  split at hc
  · rename_i x t hx ht
    have hxs : xs = #[x] := Array.ext' (by simpa using hx)
    have hts : ats = #[t] := Array.ext' (by simpa using ht)
    subst hxs; subst hts
    split at hc <;> cases hc
    rename_i et y hu hy
    have h1 := run_underlying hu w
    have hv := hE.opd hy
    simp only [evOp] at hr
    split at hr <;> cases hr
    rename_i heq; rw [heq] at hv
    obtain ⟨a', cap, hcx, _, h2⟩ := vr_slice hv
    have h2 := h2 rfl
    subst h2
    refine .pure (c := goInt _) hI ?_ (.int _ _)
    simp [execOp, resolve, invoke, builtin, Builtin.cap_, h1, goInt, hcx]
  · cases hc
theorem ok_max {xs : Array Operand} {ats : Array TypeId} (hc : cOp P ⟨dst, .call ⟨.builtin .max, xs, ats⟩, ty, pos, after, guard⟩ = some op) (hr : evOp (evO e) H op = some r) : OpOk P K β H w ((execOp a.eval ⟨dst, .call ⟨.builtin .max, xs, ats⟩, ty, pos, after, guard⟩).run P w) r := by
  simp only [cOp] at hc
  obtain ⟨l, hl, rfl⟩ := Option.map_eq_some_iff.1 hc
  have hlr := opds_LR hE hl
  simp only [evOp, ans, Option.map_eq_some_iff] at hr
  obtain ⟨v, hv, rfl⟩ := hr
  have hm : (xs.map a.eval).toList = xs.toList.map a.eval := by simp
  cases hx : xs.toList.map a.eval with
  | nil =>
    rw [hx] at hlr
    have := List.eq_nil_of_length_eq_zero hlr.1
    rw [this] at hv; simp [maxV] at hv
  | cons c cs =>
    cases hll : l.map (evO e) with
    | nil => rw [hll] at hv; simp [maxV] at hv
    | cons u us =>
      rw [hx, hll] at hlr
      obtain ⟨d, ds, e1, h1, h2⟩ := hlr.head
      cases e1
      rw [hll] at hv
      obtain ⟨q, hq, hvq⟩ := maxF_sound (P := P) (w := w) h1 h2 hv
      refine .pure (c := q) hI ?_ hvq
      simp [execOp, resolve, invoke, builtin, Builtin.max_, hm, hx, hq]
theorem ok_min {xs : Array Operand} {ats : Array TypeId} (hc : cOp P ⟨dst, .call ⟨.builtin .min, xs, ats⟩, ty, pos, after, guard⟩ = some op) (hr : evOp (evO e) H op = some r) : OpOk P K β H w ((execOp a.eval ⟨dst, .call ⟨.builtin .min, xs, ats⟩, ty, pos, after, guard⟩).run P w) r := by
  simp only [cOp] at hc
  obtain ⟨l, hl, rfl⟩ := Option.map_eq_some_iff.1 hc
  have hlr := opds_LR hE hl
  simp only [evOp, ans, Option.map_eq_some_iff] at hr
  obtain ⟨v, hv, rfl⟩ := hr
  have hm : (xs.map a.eval).toList = xs.toList.map a.eval := by simp
  cases hx : xs.toList.map a.eval with
  | nil =>
    rw [hx] at hlr
    have := List.eq_nil_of_length_eq_zero hlr.1
    rw [this] at hv; simp [minV] at hv
  | cons c cs =>
    cases hll : l.map (evO e) with
    | nil => rw [hll] at hv; simp [minV] at hv
    | cons u us =>
      rw [hx, hll] at hlr
      obtain ⟨d, ds, e1, h1, h2⟩ := hlr.head
      cases e1
      rw [hll] at hv
      obtain ⟨q, hq, hvq⟩ := minF_sound (P := P) (w := w) h1 h2 hv
      refine .pure (c := q) hI ?_ hvq
      simp [execOp, resolve, invoke, builtin, Builtin.min_, hm, hx, hq]
theorem panic_run {x : Operand} {y : Opd} (hy : cOpd x = some y) (hr : evOp (evO e) H (.panic y) = some r) {res : Result Next} (hres : res = (do pure (.value (← Instr.panic (a.eval x))) : Sem Next).run P w) : OpOk P K β H w res r := by
  have hv := hE.opd hy
  simp only [evOp] at hr
  split at hr <;> cases hr
  rename_i heq; rw [heq] at hv
  refine ⟨a.eval x, w, K, β, ?_, hv, hI, .refl K β H w⟩
  generalize a.eval x = cx at *
  cases hv
  rw [hres]; simp [Instr.panic]
theorem ok_panicB {xs : Array Operand} {ats : Array TypeId} (hc : cOp P ⟨dst, .call ⟨.builtin .panic, xs, ats⟩, ty, pos, after, guard⟩ = some op) (hr : evOp (evO e) H op = some r) : OpOk P K β H w ((execOp a.eval ⟨dst, .call ⟨.builtin .panic, xs, ats⟩, ty, pos, after, guard⟩).run P w) r := by
  simp only [cOp] at hc
  split at hc
  · rename_i x hx
    have hxs : xs = #[x] := Array.ext' (by simpa using hx)
    subst hxs
    obtain ⟨y, hy, rfl⟩ := Option.map_eq_some_iff.1 hc
    exact panic_run hI hE hy hr (by simp [execOp, resolve, invoke, builtin])
  · cases hc
theorem ok_panic {x : Operand} (hc : cOp P ⟨dst, .panic x, ty, pos, after, guard⟩ = some op) (hr : evOp (evO e) H op = some r) : OpOk P K β H w ((execOp a.eval ⟨dst, .panic x, ty, pos, after, guard⟩).run P w) r := by
  simp only [cOp] at hc
  obtain ⟨y, hy, rfl⟩ := Option.map_eq_some_iff.1 hc
  exact panic_run hI hE hy hr rfl

omit hI in
theorem ok_callF {f : FuncId} {xs : Array Operand} {ats : Array TypeId} (hc : cOp P ⟨dst, .call ⟨.value (.func f), xs, ats⟩, ty, pos, after, guard⟩ = some op) (hr : evOp (evO e) H op = some r) : OpOk P K β H w ((execOp a.eval ⟨dst, .call ⟨.value (.func f), xs, ats⟩, ty, pos, after, guard⟩).run P w) r := by
  simp only [cOp] at hc
  split at hc
  · cases hc
  rename_i hf
  obtain ⟨l, hl, rfl⟩ := Option.map_eq_some_iff.1 hc
  simp only [evOp, Option.some.injEq] at hr; subst hr
  refine ⟨xs.map a.eval, ?_, by simpa using opds_LR hE hl⟩
  rw [callG_fn hf]
  simp [execOp, resolve, Act.eval, Deferred.ofValue, invoke]

omit hI in
theorem ok_callV {g : Operand} {y : Opd} {l : List Opd} {xs : Array Operand} {ats : Array TypeId} (hg : cOpd g = some y) (hl : mapOpt cOpd xs.toList = some l) (hr : evOp (evO e) H (.callv y l) = some r) :
    OpOk P K β H w ((execOp a.eval ⟨dst, .call ⟨.value g, xs, ats⟩, ty, pos, after, guard⟩).run P w) r := by
  simp only [evOp] at hr
  have hv := hE.opd hg
  split at hr
  · rename_i f first captured heq
    split at hr <;> cases hr
    rename_i hf
    rw [heq] at hv
    generalize hcg : a.eval g = cg at hv
    cases hv with
    | fn h1 h2 h3 h4 =>
      rename_i cs ds
      refine ⟨cs ++ xs.map a.eval ++ ds, ?_, ?_⟩
      · rw [callG_fn hf]; simp [execOp, resolve, hcg, Deferred.ofValue, invoke]
      · have := ((LR.of_arr h1 h2).append (opds_LR hE hl)).append (LR.of_arr h3 h4)
        simpa using this
  · rename_i id heq
    cases hr
    rw [heq] at hv
    generalize hcg : a.eval g = cg at hv
    cases hv with
    | yld hb =>
      rename_i b
      refine ⟨#[.func (.yield b) #[] #[]] ++ xs.map a.eval, ?_, ?_⟩
      · have hx : (List.map a.eval xs.toList).toArray = xs.map a.eval := Array.ext' (by rw [Array.toList_map])
        simp [execOp, resolve, hcg, Deferred.ofValue, invoke, callG, hx]
      · have := LR.cons (.yld hb) (opds_LR hE hl)
        simpa using this
  · cases hr
end
end Fz
