/- An abstract interpreter for the translated program: values as data, heap objects by number. Definitions alone. -/
import GoSem.Step
import Derived.LoopN
import Derived.Defers
namespace Fz
open Go

/-- Values as data. 'ref': a pointer to cells that stay; 'list': a slice whose cells stay; 'ptr', 'own': into an object of the abstract heap. -/
inductive V where
  | bool (b : Bool)
  | int (k : IntKind) (n : Int)
  | float (k : FloatKind) (bits : Nat)
  | fnan (k : FloatKind)
  | str (s : ByteArray)
  | nilp
  | ptr (id off : Nat)
  | ref (l : List V)
  | list (l : List V) (clip : Bool)
  | own (id off len n : Nat)
  | agg (l : List V)
  | tuple (l : List V)
  | fn (f : Fn) (first captured : List V)
  | nilfn
  | iface (t : TypeId) (v : V)
  | niliface
  | nilmap
  | mref (id : Nat)
  | map (ks vs : List V)
  | any
deriving Inhabited

/-- Objects of the abstract heap. -/
inductive Ob where
  | live (l : List V)
  | fixed (l : List V)
  | dead
  | mlive (ks vs : List V)
  | iter (s : ByteArray) (pos : Nat)
deriving Inhabited

/-- What a temporary holds ahead of its first writing. -/
def uv : V := .tuple []

def cellsOf : V → List V
  | .agg l => l
  | v => [v]

def isAny : V → Bool
  | .any => true
  | _ => false

/-- May stand in one cell of memory. -/
def storable : V → Bool
  | .agg _ => false
  | .tuple _ => false
  | .any => false
  | _ => true

mutual
/-- Are two values the same? -/
def veq : V → V → Bool
  | .bool a, .bool b => a == b
  | .int j a, .int k b => j == k && a == b
  | .float j a, .float k b => j == k && a == b
  | .fnan j, .fnan k => j == k
  | .str a, .str b => a.data == b.data
  | .nilp, .nilp => true
  | .ptr i a, .ptr j b => i == j && a == b
  | .ref a, .ref b => veqL a b
  | .list a c, .list b d => c == d && veqL a b
  | .own a b c d, .own e f g h => a == e && b == f && c == g && d == h
  | .agg a, .agg b => veqL a b
  | .tuple a, .tuple b => veqL a b
  | .fn f a b, .fn g c d => f == g && veqL a c && veqL b d
  | .nilfn, .nilfn => true
  | .iface t a, .iface u b => t == u && veq a b
  | .niliface, .niliface => true
  | .nilmap, .nilmap => true
  | .mref a, .mref b => a == b
  | .map a b, .map c d => veqL a c && veqL b d
  | .any, .any => true
  | _, _ => false
def veqL : List V → List V → Bool
  | [], [] => true
  | a :: x, b :: y => veq a b && veqL x y
  | _, _ => false
end

mutual
/-- The objects that a value names. -/
def refs : V → List Nat
  | .ptr i _ => [i]
  | .own i _ _ _ => [i]
  | .mref i => [i]
  | .ref l => refsL l
  | .list l _ => refsL l
  | .agg l => refsL l
  | .tuple l => refsL l
  | .fn _ a b => refsL a ++ refsL b
  | .iface _ v => refs v
  | .map a b => refsL a ++ refsL b
  | _ => []
def refsL : List V → List Nat
  | [] => []
  | v :: l => refs v ++ refsL l
end

mutual
/-- A value, its objects' numbers told anew. -/
def ren (g : Nat → Nat) : V → V
  | .ptr i o => .ptr (g i) o
  | .own i a b c => .own (g i) a b c
  | .mref i => .mref (g i)
  | .ref l => .ref (renL g l)
  | .list l c => .list (renL g l) c
  | .agg l => .agg (renL g l)
  | .tuple l => .tuple (renL g l)
  | .fn f a b => .fn f (renL g a) (renL g b)
  | .iface t v => .iface t (ren g v)
  | .map a b => .map (renL g a) (renL g b)
  | v => v
def renL (g : Nat → Nat) : List V → List V
  | [] => []
  | v :: l => ren g v :: renL g l
end

mutual
/-- A value, its slices' room forgotten. -/
def nrm : V → V
  | .list l _ => .list (nrmL l) false
  | .agg l => .agg (nrmL l)
  | .tuple l => .tuple (nrmL l)
  | .iface t v => .iface t (nrm v)
  | v => v
def nrmL : List V → List V
  | [] => []
  | v :: l => nrm v :: nrmL l
end

/-- The objects that an object names. -/
def refsOb : Ob → List Nat
  | .live l => refsL l
  | .fixed l => refsL l
  | .mlive a b => refsL a ++ refsL b
  | _ => []
def renOb (g : Nat → Nat) : Ob → Ob
  | .live l => .live (renL g l)
  | .fixed l => .fixed (renL g l)
  | .mlive a b => .mlive (renL g a) (renL g b)
  | o => o

/-- Groups of n cells, each as a value. -/
def chunks (n : Nat) : Nat → List V → List V
  | 0, _ => []
  | k + 1, l => .agg (l.take n) :: chunks n k (l.drop n)
def chunk (n len : Nat) (l : List V) : List V := if n = 1 then l.take len else chunks n len l

def flat (l : List V) : List V := l.flatMap cellsOf
/-- Does each element have n cells? -/
def uni (n : Nat) (l : List V) : Bool := l.all fun v => (cellsOf v).length == n

def mapOpt {α β : Type} (f : α → Option β) : List α → Option (List β)
  | [] => some []
  | v :: l => match f v, mapOpt f l with
    | some a, some b => some (a :: b)
    | _, _ => none

def mapS {σ : Type} (f : V → σ → Option (V × σ)) : List V → σ → Option (List V × σ)
  | [], s => some ([], s)
  | v :: l, s => match f v s with
    | none => none
    | some (v', s1) => match mapS f l s1 with
      | none => none
      | some (l', s2) => some (v' :: l', s2)

def leafy : V → Bool
  | .agg _ => false
  | _ => true

/-- A value whose slices of own objects are made slices that stay. -/
def freezeV : Nat → V → List Ob → Option (V × List Ob)
  | 0, _, _ => none
  | k + 1, v, H => match v with
    | .own id off len n => match H[id]? with
      | some (.live l) => if off + len * n ≤ l.length ∧ n ≠ 0 then match mapS (freezeV k) ((l.drop off).take (len * n)) (H.set id (.fixed l)) with
          | some (x, H') => if n ≠ 1 ∨ x.all leafy = true then some (.list (chunk n len x) false, H') else none
          | none => none
        else none
      | some (.fixed l) => if off + len * n ≤ l.length ∧ n ≠ 0 then match mapS (freezeV k) ((l.drop off).take (len * n)) H with
          | some (x, H') => if n ≠ 1 ∨ x.all leafy = true then some (.list (chunk n len x) false, H') else none
          | none => none
        else none
      | _ => none
    | .mref id => match H[id]? with
      | some (.mlive ks vs) => some (.map ks vs, H.set id .dead)
      | _ => none
    | .agg l => (mapS (freezeV k) l H).map fun x => (.agg x.1, x.2)
    | .tuple l => (mapS (freezeV k) l H).map fun x => (.tuple x.1, x.2)
    | v => some (v, H)

/-- Operands: a temporary, a constant. -/
inductive Opd where
  | t (n : Nat)
  | c (v : V)
deriving Inhabited

/-- What a slice is taken of. -/
inductive SlK where
  | str
  | sl (n : Nat)
  | arr (len n : Nat)
deriving Inhabited

/-- How values are compared, where they are no numbers and no texts. -/
inductive EqK where
  | no
  | bool
  | ptr
  | func
deriving Inhabited

inductive CvK where
  | int (k : IntKind)
  | float (k : FloatKind)
  | f2i (k : IntKind)
  | s2b
  | b2s
  | s2s
  | i2s
deriving Inhabited

/-- How keys of maps are compared. -/
inductive KyK where
  | int
  | str
deriving Inhabited

/-- Operations on values alone. -/
inductive PK where
  | i2f (k : FloatKind)
  | f2i (k : IntKind)
  | i2s
  | assert (t : TypeId) (zero : Option V)
deriving Inhabited
/-- Those that read the heap. -/
inductive RK where
  | lookup (kk : KyK) (zero : V) (ok : Bool)
deriving Inhabited
/-- Those that change it. -/
inductive MK where
  | makeMap
  | mapPut (kk : KyK)
  | range
  | next
deriving Inhabited

inductive AOp where
  | pur (k : PK) (l : List Opd)
  | rd (k : RK) (l : List Opd)
  | mem (k : MK) (l : List Opd)
  | mov (x : Opd)
  | pick (c a b : Opd)
  | alloc (zero : List V)
  | box (x : Opd)
  | build (zero : List V) (parts : List (Nat × Nat × Opd))
  | buildSlice (n len : Nat) (zero : List V) (parts : List (Nat × Nat × Opd))
  | load (agg : Bool) (n : Nat) (x : Opd)
  | store (n : Nat) (a x : Opd)
  | nilCheck (x : Opd)
  | bin (op : BinOp) (k : EqK) (x y : Opd)
  | un (op : UnOp) (x : Opd)
  | conv (k : CvK) (x : Opd)
  | makeIface (t : TypeId) (x : Opd)
  | makeFunc (f : Fn) (first captured : List Opd)
  | makeSlice (n bytes : Nat) (zero : List V) (len cap : Opd)
  | slice (k : SlK) (x : Opd) (lo hi mx : Option Opd)
  | fieldAddr (off : Nat) (x : Opd)
  | field (agg : Bool) (off n : Nat) (x : Opd)
  | indexSl (n : Nat) (x i : Opd)
  | indexPA (len n : Nat) (x i : Opd)
  | indexArr (len n : Nat) (agg : Bool) (x i : Opd)
  | indexStr (x i : Opd)
  | extract (i : Nat) (x : Opd)
  | lenC (n : Nat)
  | lenS (x : Opd)
  | len (x : Opd)
  | cap (x : Opd)
  | append (n bytes : Nat) (zeros : Option (List V)) (s x : Opd)
  | copy (n : Nat) (d s : Opd)
  | clear (zero : List V) (n : Nat) (x : Opd)
  | max (l : List Opd)
  | min (l : List Opd)
  | panic (x : Opd)
  | call (f : FuncId) (args : List Opd)
  | callv (f : Opd) (args : List Opd)
deriving Inhabited

structure AO where
  dst : Option Nat
  op : AOp
  guard : Option (Nat × Bool)
  after : List Nat
  eff : Bool
deriving Inhabited

/-- What matters where the order is not open. -/
def AO.bare (o : AO) : AO := { o with after := [], eff := false }
/-- Short names. -/
abbrev mv (d s : Nat) : AO := ⟨some d, .mov (.t s), none, [], false⟩
abbrev ao (d : Nat) (op : AOp) : AO := ⟨some d, op, none, [], false⟩
abbrev ag (d : Nat) (op : AOp) (t : Nat) (b : Bool) : AO := ⟨some d, op, some (t, b), [], false⟩
abbrev an (op : AOp) : AO := ⟨none, op, none, [], false⟩

inductive ACode where
  | skip
  | region (ops : List AO) (draw : Bool)
  | seq (a b : ACode)
  | cond (c : Opd) (thn els : ACode)
  | block (id : Nat) (body : ACode)
  | loop (body : ACode)
  | exit (id : Nat)
  | ret
  | fix (t : Option Nat) (body : ACode)
deriving Inhabited

structure AFun where
  nt : Nat
  results : List (Nat × Option (Bool × Nat))
  code : ACode
deriving Inhabited

abbrev Env := Nat → V
def upd (e : Env) (d : Nat) (v : V) : Env := fun i => if i = d then v else e i
def putE (e : Env) (d : Option Nat) (v : V) : Env := match d with | some t => upd e t v | none => e
def evO (e : Env) : Opd → V
  | .t n => e n
  | .c v => v

/-- What comes of a call. -/
inductive CR where
  | ret (v : V)
  | panic (v : V)
inductive X where
  | normal
  | exit (id : Nat)
  | ret
  | panic (v : V)
deriving Inhabited

/-- What comes of one operation: a value, nothing, a panic, a call. -/
inductive OR where
  | val (v : V) (H : List Ob)
  | skip (H : List Ob)
  | panic (v : V) (H : List Ob)
  | call (f : FuncId) (args : List V)

def asI : V → Option (IntKind × Int)
  | .int k n => some (k, n)
  | _ => none

/-- Cells of what a pointer leads to, n of them from there on. -/
def peek (H : List Ob) (n : Nat) : V → Option (List V)
  | .ref l => if n ≤ l.length then some (l.take n) else none
  | .ptr id off => match H[id]? with
    | some (.live l) => if off + n ≤ l.length then some ((l.drop off).take n) else none
    | some (.fixed l) => if off + n ≤ l.length then some ((l.drop off).take n) else none
    | _ => none
  | _ => none

def splice (l : List V) (off : Nat) (x : List V) : List V := l.take off ++ x ++ l.drop (off + x.length)

def fillV (cells : List V) : List (Nat × Nat × V) → Option (List V)
  | [] => some cells
  | (off, n, v) :: r => if (cellsOf v).length = n ∧ off + n ≤ cells.length ∧ isAny v = false then fillV (splice cells off (cellsOf v)) r else none

def zeros (zero : List V) : Nat → List V
  | 0 => []
  | n + 1 => zero ++ zeros zero n

/-- The elements that a slice or a string has, as cells; how many. -/
def elems (H : List Ob) (n : Nat) : V → Option (List V × Nat)
  | .list l _ => if uni n l then some (flat l, l.length) else none
  | .own id off len m => if m = n then (peek H (len * n) (.ptr id off)).map fun x => (x, len) else none
  | .str s => if n = 1 then some (s.data.toList.map fun b => V.int .u8 b.toNat, s.size) else none
  | _ => none

def bitsInt (op : BinOp) (k : IntKind) (x y : Int) : Option Int :=
  match op with
  | .and => some (k.wrap (BitVec.ofInt k.bits x &&& BitVec.ofInt k.bits y).toNat)
  | .or => some (k.wrap (BitVec.ofInt k.bits x ||| BitVec.ofInt k.bits y).toNat)
  | .xor => some (k.wrap (BitVec.ofInt k.bits x ^^^ BitVec.ofInt k.bits y).toNat)
  | .andNot => some (k.wrap (BitVec.ofInt k.bits x &&& ~~~BitVec.ofInt k.bits y).toNat)
  | _ => none

def cmpInt (op : BinOp) (x y : Int) : Option Bool :=
  match op with
  | .eql => some (x == y)
  | .neq => some (x != y)
  | .lss => some (decide (x < y))
  | .leq => some (decide (x ≤ y))
  | .gtr => some (decide (x > y))
  | .geq => some (decide (x ≥ y))
  | _ => none

def eqB : V → V → Option Bool
  | .bool a, .bool b => some (a == b)
  | _, _ => none
def eqP : V → V → Option Bool
  | .nilp, .nilp => some true
  | .nilp, .ptr _ _ => some false
  | .ptr _ _, .nilp => some false
  | .nilp, .ref _ => some false
  | .ref _, .nilp => some false
  | _, _ => none
def eqF : V → V → Option Bool
  | .nilfn, .nilfn => some true
  | .nilfn, .fn _ _ _ => some false
  | .fn _ _ _, .nilfn => some false
  | _, _ => none
def eqV : EqK → V → V → Option Bool
  | .no, _, _ => none
  | .bool, x, y => eqB x y
  | .ptr, x, y => eqP x y
  | .func, x, y => eqF x y

def floatV (k : FloatKind) (r : Option Nat) : V := match r with | some b => .float k b | none => .fnan k

def ordV : V → V → Option (FloatKind × Option Ordering)
  | .float k a, .float k' b => if k = k' then some (k, k.format.order a b) else none
  | .fnan k, .float k' _ => if k = k' then some (k, none) else none
  | .float k _, .fnan k' => if k = k' then some (k, none) else none
  | .fnan k, .fnan k' => if k = k' then some (k, none) else none
  | _, _ => none

def cmpF (op : BinOp) (c : Option Ordering) : Option Bool :=
  match op with
  | .eql => some (c == some .eq)
  | .neq => some (c != some .eq)
  | .lss => some (c == some .lt)
  | .leq => some (c == some .lt || c == some .eq)
  | .gtr => some (c == some .gt)
  | .geq => some (c == some .gt || c == some .eq)
  | _ => none

def binV (op : BinOp) (ek : EqK) (x y : V) : Option V :=
  match op, x, y with
  | .shl, .int k a, .int _ b => if b < 0 then none else some (.int k (k.wrap (a * 2 ^ (min b.toNat k.bits))))
  | .shr, .int k a, .int _ b => if b < 0 then none else some (.int k (a.fdiv (2 ^ (min b.toNat k.bits))))
  | op, .int k a, .int k' b =>
    if k = k' then
      match op with
      | .add => some (.int k (k.wrap (a + b)))
      | .sub => some (.int k (k.wrap (a - b)))
      | .mul => some (.int k (k.wrap (a * b)))
      | .quo => if b = 0 then none else some (.int k (k.wrap (a.tdiv b)))
      | .rem => if b = 0 then none else some (.int k (a.tmod b))
      | .and | .or | .xor | .andNot => (bitsInt op k a b).map (V.int k)
      | op => (cmpInt op a b).map V.bool
    else none
  | op, .str a, .str b =>
    match op with
    | .add => if a.size + b.size ≤ 9223372036854775807 then some (.str (a ++ b)) else none
    | .eql => some (.bool (a.data.toList == b.data.toList))
    | .neq => some (.bool (!(a.data.toList == b.data.toList)))
    | _ => none
  | op, .float k a, .float k' b =>
    if k = k' then
      match op with
      | .add => some (floatV k (k.format.add a b))
      | .sub => some (floatV k (k.format.sub a b))
      | .mul => some (floatV k (k.format.mul a b))
      | .quo => some (floatV k (k.format.div a b))
      | op => (cmpF op (k.format.order a b)).map V.bool
    else none
  | op, .fnan k, .fnan k' => if k = k' then (cmpF op none).map V.bool else none
  | .eql, x, y => (eqV ek x y).map V.bool
  | .neq, x, y => (eqV ek x y).map fun b => V.bool (!b)
  | _, _, _ => none

def unV (op : UnOp) (x : V) : Option V :=
  match op, x with
  | .neg, .int k n => some (.int k (k.wrap (0 - n)))
  | .xor, .int k n => (bitsInt .xor k (if k.signed then -1 else k.max) n).map (V.int k)
  | .not, .bool b => some (.bool (!b))
  | .neg, .float k b => some (.float k (Op.negFloat k b))
  | _, _ => none

def natV : Option V → Nat → Option Nat
  | none, d => some d
  | some (.int _ i), _ => if 0 ≤ i then some i.toNat else none
  | _, _ => none

/-- A slice of a slice: of elements that stay, or of an object's. -/
def sliceV (H : List Ob) (k : SlK) (x : V) (lo hi mx : Option V) : Option V :=
  if mx.isSome && hi.isNone then none else
  match k, x with
  | .str, .str s => if mx.isSome then none else match natV hi s.size, natV lo 0 with
    | some h, some l => if l ≤ h ∧ h ≤ s.size then some (.str (s.extract l h)) else none
    | _, _ => none
  | .sl n, .list e c => if uni n e = false then none else match natV mx e.length, natV hi e.length, natV lo 0 with
    | some m, some h, some l =>
      if l ≤ h ∧ h ≤ m ∧ m ≤ e.length then
        some (.list ((e.drop l).take (h - l)) (if mx.isSome then m == h else c && h == e.length)) else none
    | _, _, _ => none
  | .sl n, .own id off len n' => match natV mx len, natV hi len, natV lo 0 with
    | some m, some h, some l =>
      if n = n' ∧ l ≤ h ∧ h ≤ m ∧ m ≤ len then
        some (if h = l ∧ (l ≠ 0 ∨ mx.isSome = true) then .list [] (mx.isSome && m == h) else .own id (off + l * n) (h - l) n) else none
    | _, _, _ => none
  | .arr alen n, .ptr id off => match natV mx alen, natV hi alen, natV lo 0, peek H (alen * n) (.ptr id off) with
    | some m, some h, some l, some _ =>
      if l ≤ h ∧ h ≤ m ∧ m ≤ alen then
        some (if h = l then .list [] (m == h) else .own id (off + l * n) (h - l) n) else none
    | _, _, _, _ => none
  | _, _ => none

def capOk (need bytes : Nat) : Bool := decide ((2 * need + 1000) * bytes ≤ 2 ^ 48) && decide (need ≤ 2 ^ 62)

/-- Behind an append: the slice, and the heap. -/
def appendV (H : List Ob) (n bytes : Nat) (s : V) (xs : List V) (k : Nat) : Option (V × List Ob) :=
  match s with
  | .list l c =>
    if k = 0 then some (s, H)
    else if c && uni n l && xs.length == k * n && capOk (l.length + k) bytes then
      some (.own H.length 0 (l.length + k) n, H ++ [.live (flat l ++ xs)])
    else none
  | .own id 0 len m =>
    if k = 0 then some (s, H)
    else match H[id]? with
      | some (.live l) =>
        if m = n ∧ len * n ≤ l.length ∧ xs.all storable = true ∧ capOk (len + k) bytes = true then
          some (.own H.length 0 (len + k) n, H.set id .dead ++ [.live (l.take (len * n) ++ xs)])
        else none
      | _ => none
  | _ => none

def maxF : V → List V → Option V
  | v, [] => some v
  | .int k a, .int k' b :: r => if k = k' then maxF (.int k (if b > a then b else a)) r else none
  | _, _ => none
def minF : V → List V → Option V
  | v, [] => some v
  | .int k a, .int k' b :: r => if k = k' then minF (.int k (if b < a then b else a)) r else none
  | _, _ => none
def maxV : List V → Option V
  | [] => none
  | v :: r => maxF v r
def minV : List V → Option V
  | [] => none
  | v :: r => minF v r

def ans (H : List Ob) (v : Option V) : Option OR := v.map fun v => .val v H

def keyEq : KyK → V → V → Option Bool
  | .int, .int k a, .int k' b => if k = k' then some (a == b) else none
  | .str, .str a, .str b => some (a.data.toList == b.data.toList)
  | _, _, _ => none
/-- Where a key stands. -/
def findV (kk : KyK) (k : V) : List V → Nat → Option (Option Nat)
  | [], _ => some none
  | e :: es, i => match keyEq kk k e with
    | some true => some (some i)
    | some false => findV kk k es (i + 1)
    | none => none
def purV : PK → List V → Option V
  | .i2f k, [.int _ n] => some (.float k (k.nearest n))
  | .f2i k, [.float j b] => match (j.decode b).toInt .zero with
    | some n => if k.min ≤ n ∧ n ≤ k.max then some (.int k n) else none
    | none => none
  | .i2s, [.int _ n] => some (.str (Utf8.encode n))
  | .assert t none, [.iface u v] => if u = t then some v else none
  | .assert t (some z), [.iface u v] => some (if u = t then .tuple [v, .bool true] else .tuple [z, .bool false])
  | .assert _ (some z), [.niliface] => some (.tuple [z, .bool false])
  | _, _ => none
/-- A map's keys, and values. -/
def mapOf (H : List Ob) : V → Option (List V × List V)
  | .nilmap => some ([], [])
  | .map ks vs => some (ks, vs)
  | .mref id => match H[id]? with
    | some (.mlive ks vs) => some (ks, vs)
    | _ => none
  | _ => none
def rdV (H : List Ob) : RK → List V → Option V
  | .lookup kk zero ok, [m, k] => match mapOf H m with
    | some (ks, vs) => match findV kk k ks 0 with
      | some (some i) => match vs[i]? with
        | some v => some (if ok then .tuple [v, .bool true] else v)
        | none => none
      | some none => some (if ok then .tuple [zero, .bool false] else zero)
      | none => none
    | none => none
  | _, _ => none
def memV (H : List Ob) : MK → List V → Option OR
  | .makeMap, [] => some (.val (.mref H.length) (H ++ [.mlive [] []]))
  | .makeMap, [.int _ _] => some (.val (.mref H.length) (H ++ [.mlive [] []]))
  | .mapPut kk, [.mref id, k, v] => match H[id]? with
    | some (.mlive ks vs) => match findV kk k ks 0 with
      | some none => some (.skip (H.set id (.mlive (ks ++ [k]) (vs ++ [v]))))
      | _ => none
    | _ => none
  | .range, [.str s] => some (.val (.ptr H.length 0) (H ++ [.iter s 0]))
  | .next, [.ptr id 0] => match H[id]? with
    | some (.iter s pos) => if pos < s.size then
        some (.val (.tuple [.bool true, .int .i64 pos, .int .i32 (Utf8.decode s pos).1]) (H.set id (.iter s (pos + (Utf8.decode s pos).2))))
      else some (.val (.tuple [.bool false]) H)
    | _ => none
  | _, _ => none

/-- One operation. -/
def evOp (ρ : Opd → V) (H : List Ob) : AOp → Option OR
  | .pur k l => ans H (purV k (l.map ρ))
  | .rd k l => ans H (rdV H k (l.map ρ))
  | .mem k l => memV H k (l.map ρ)
  | .mov x => some (.val (ρ x) H)
  | .pick c a b => match ρ c with
    | .bool t => some (.val (if t then ρ a else ρ b) H)
    | _ => none
  | .alloc zero => some (.val (.ptr H.length 0) (H ++ [.live zero]))
  | .box x => if isAny (ρ x) = true then none else some (.val (.ptr H.length 0) (H ++ [.live (cellsOf (ρ x))]))
  | .build zero parts => ans H ((fillV zero (parts.map fun p => (p.1, p.2.1, ρ p.2.2))).map V.agg)
  | .buildSlice n len zero parts =>
    match fillV (zeros zero len) (parts.map fun p => (p.1, p.2.1, ρ p.2.2)) with
    | some cells => if len = 0 then some (.val (.list [] true) H) else some (.val (.own H.length 0 len n) (H ++ [.live cells]))
    | none => none
  | .load agg n x => match peek H n (ρ x) with
    | some l => if agg then some (.val (.agg l) H) else match l with
      | [v] => some (.val v H)
      | _ => none
    | none => none
  | .store n a x => match ρ a with
    | .ptr id off => match H[id]? with
      | some (.live l) =>
        if (cellsOf (ρ x)).length = n ∧ off + n ≤ l.length ∧ (cellsOf (ρ x)).all storable = true then
          some (.skip (H.set id (.live (splice l off (cellsOf (ρ x)))))) else none
      | _ => none
    | _ => none
  | .nilCheck x => match ρ x with
    | .ptr i o => some (.val (.ptr i o) H)
    | .ref l => some (.val (.ref l) H)
    | .fn (.func f) a b => some (.val (.fn (.func f) a b) H)
    | _ => none
  | .bin op k x y => ans H (binV op k (ρ x) (ρ y))
  | .un op x => ans H (unV op (ρ x))
  | .conv (.int k) x => match ρ x with
    | .int _ n => some (.val (.int k (k.wrap n)) H)
    | _ => none
  | .conv .s2s x => match ρ x with
    | .str s => some (.val (.str s) H)
    | _ => none
  | .conv .b2s x => match ρ x with
    | .list l c => (elems H 1 (.list l c)).bind fun p =>
      if p.1.all (fun v => match v with | .int .u8 n => decide (0 ≤ n) && decide (n < 256) | _ => false) then
        some (.val (.str ⟨(p.1.map fun v => match v with | .int _ n => n.toNat.toUInt8 | _ => 0).toArray⟩) H) else none
    | .own a b c d => (elems H 1 (.own a b c d)).bind fun p =>
      if p.1.all (fun v => match v with | .int .u8 n => decide (0 ≤ n) && decide (n < 256) | _ => false) then
        some (.val (.str ⟨(p.1.map fun v => match v with | .int _ n => n.toNat.toUInt8 | _ => 0).toArray⟩) H) else none
    | _ => none
  | .conv _ _ => none
  | .makeIface t x => if isAny (ρ x) = true then none else some (.val (.iface t (ρ x)) H)
  | .makeFunc f first captured => some (.val (.fn f (first.map ρ) (captured.map ρ)) H)
  | .makeSlice n bytes zero len cap => match ρ len, ρ cap with
    | .int _ l, .int _ c =>
      if 0 ≤ l ∧ l ≤ c ∧ c * bytes ≤ 2 ^ 47 ∧ c ≤ 2 ^ 47 ∧ (zero.length = n ∧ n ≠ 0) then
        (if c = 0 then some (.val (.list [] true) H) else some (.val (.own H.length 0 l.toNat n) (H ++ [.live (zeros zero c.toNat)]))) else none
    | _, _ => none
  | .slice k x lo hi mx => ans H (sliceV H k (ρ x) (lo.map ρ) (hi.map ρ) (mx.map ρ))
  | .fieldAddr off x => match ρ x with
    | .ptr id o => some (.val (.ptr id (o + off)) H)
    | .ref l => if off ≤ l.length then some (.val (.ref (l.drop off)) H) else none
    | _ => none
  | .field agg off n x => match ρ x with
    | .agg l => if off + n ≤ l.length then
        (if agg then some (.val (.agg ((l.drop off).take n)) H) else match l[off]? with | some v => some (.val v H) | none => none) else none
    | _ => none
  | .indexSl n x i => match ρ i with
    | .int _ j => if j < 0 then none else match ρ x with
      | .list l _ => match l[j.toNat]? with
        | some v => if (cellsOf v).length = n then some (.val (.ref (cellsOf v)) H) else none
        | none => none
      | .own id off len m => if j < len ∧ m = n then some (.val (.ptr id (off + j.toNat * n)) H) else none
      | _ => none
    | _ => none
  | .indexPA alen n x i => match ρ i with
    | .int _ j => if j < 0 then none else match ρ x with
      | .ptr id off => if j < alen then some (.val (.ptr id (off + j.toNat * n)) H) else none
      | .ref l => if j < alen ∧ j.toNat * n ≤ l.length then some (.val (.ref (l.drop (j.toNat * n))) H) else none
      | _ => none
    | _ => none
  | .indexArr alen n agg x i => match ρ i, ρ x with
    | .int _ j, .agg l => if 0 ≤ j ∧ j < alen ∧ j.toNat * n + n ≤ l.length then
        (if agg then some (.val (.agg ((l.drop (j.toNat * n)).take n)) H) else match l[j.toNat * n]? with | some v => some (.val v H) | none => none) else none
    | _, _ => none
  | .indexStr x i => match ρ i, ρ x with
    | .int _ j, .str s => if j < 0 then none else match s.data.toList[j.toNat]? with
      | some b => some (.val (.int .u8 b.toNat) H)
      | none => none
    | _, _ => none
  | .extract i x => match ρ x with
    | .tuple l => match l[i]? with
      | some v => some (.val v H)
      | none => none
    | _ => none
  | .lenC n => some (.val (.int .i64 n) H)
  | .lenS x => match ρ x with
    | .str s => some (.val (.int .i64 s.size) H)
    | _ => none
  | .len x => match ρ x with
    | .list l _ => some (.val (.int .i64 l.length) H)
    | .own _ _ len _ => some (.val (.int .i64 len) H)
    | _ => none
  | .cap x => match ρ x with
    | .list l true => some (.val (.int .i64 l.length) H)
    | _ => none
  | .append n bytes zs s x => match zs with
    | none => match elems H n (ρ x) with
      | some (xs, k) => match appendV H n bytes (ρ s) xs k with
        | some (v, H') => some (.val v H')
        | none => none
      | none => none
    | some zero => match ρ x with
      | .int _ l => if 0 ≤ l ∧ l ≤ 2 ^ 47 ∧ l * bytes ≤ 2 ^ 47 ∧ zero.length = n then match appendV H n bytes (ρ s) (zeros zero l.toNat) l.toNat with
          | some (v, H') => some (.val v H')
          | none => none
        else none
      | _ => none
  | .copy n d s => match ρ d, elems H n (ρ s) with
    | .list [] _, some _ => some (.val (.int .i64 0) H)
    | .own id off len m, some (xs, k) => match H[id]? with
      | some (.live l) => if m = n ∧ off + len * n ≤ l.length ∧ (xs.take (Nat.min k len * n)).all storable = true then
          some (.val (.int .i64 (Nat.min k len : Nat)) (H.set id (.live (splice l off (xs.take (Nat.min k len * n)))))) else none
      | _ => none
    | _, _ => none
  | .clear zero n x => match ρ x with
    | .list [] _ => some (.val uv H)
    | .own id off len m => match H[id]? with
      | some (.live l) => if m = n ∧ zero.length = n ∧ off + len * n ≤ l.length ∧ zero.all storable = true then
          some (.val uv (H.set id (.live (splice l off (zeros zero len))))) else none
      | _ => none
    | _ => none
  | .max l => ans H (maxV (l.map ρ))
  | .min l => ans H (minV (l.map ρ))
  | .panic x => match ρ x with
    | .iface t v => some (.panic (.iface t v) H)
    | _ => none
  | .call f args => some (.call f (args.map ρ))
  | .callv f args => match ρ f with
    | .fn (.func g) first captured => some (.call g (first ++ args.map ρ ++ captured))
    | _ => none

/-- The objects that can be come to, in turn. -/
def reach (H : List Ob) : Nat → List Nat → List Nat → Option (List Nat)
  | 0, _, _ => none
  | _ + 1, [], seen => some seen
  | k + 1, i :: todo, seen =>
    if seen.contains i then reach H k todo seen
    else match H[i]? with
      | some o => reach H k (todo ++ refsOb o) (seen ++ [i])
      | none => none

def depthF : Nat := 12

abbrev CallT := FuncId → List V → List Ob → Option (CR × List Ob)

def freezeObs : Nat → List Ob → List Ob → Option (List Ob)
  | _, [], H => some H
  | i, .live l :: r, H => match mapS (freezeV depthF) l H with
    | some (l', H') => match H'[i]? with
      | some (.live _) => freezeObs (i + 1) r (H'.set i (.live l'))
      | _ => freezeObs (i + 1) r H'
    | none => none
  | i, _ :: r, H => freezeObs (i + 1) r H

/-- What is handed out of a call is made to stay, but by the calls of the library that are as if written in place. -/
def settleR (m : Nat) (r : CR) (H : List Ob) : Option (CR × List Ob) :=
  match freezeObs 0 (H.take m) H with
  | none => none
  | some H1 => match r with
    | .ret v => (freezeV depthF v H1).map fun x => (.ret (nrm x.1), x.2)
    | .panic v => some (.panic v, H1)

def crV : CR → V
  | .ret v => v
  | .panic v => v
def renR (g : Nat → Nat) : CR → CR
  | .ret v => .ret (ren g v)
  | .panic v => .panic (ren g v)

def setAll (H : List Ob) : List Nat → List Ob → List Ob
  | i :: is, o :: os => setAll (H.set i o) is os
  | _, _ => H

/-- A call, by the objects that can be come to from its arguments alone. -/
def doCall (call : CallT) (inl : FuncId → Bool) (f : FuncId) (args : List V) (H : List Ob) : Option (CR × List Ob) :=
  match (if inl f then some (args, H) else (mapS (freezeV depthF) args H).map fun x => (x.1.map nrm, x.2)) with
  | none => none
  | some (args, H) =>
    match reach H 1000 (refsL args) [] with
    | none => none
    | some ids =>
      let g (i : Nat) : Nat := ids.idxOf i
      match call f (renL g args) ((ids.map fun i => renOb g (H[i]?.getD .dead))) with
      | none => none
      | some (r, Hl) =>
        match (if inl f then some (r, Hl) else settleR ids.length r Hl) with
        | none => none
        | some (r, Hl) =>
          let back (j : Nat) : Nat := if j < ids.length then ids[j]?.getD 0 else H.length + (j - ids.length)
          let old := Hl.take ids.length
          if ids.length ≤ Hl.length then
            let H' := setAll H ids (old.map (renOb back))
            if (refs (crV r) ++ old.flatMap refsOb).any (fun j => ids.length ≤ j) then
              some (renR back r, H' ++ (Hl.drop ids.length).map (renOb back))
            else some (renR back r, H')
          else none

/-- Operations in turn. -/
def runOps (call : CallT) (inl : FuncId → Bool) : List AO → Env → List Ob → Option (X × Env × List Ob)
  | [], e, H => some (.normal, e, H)
  | o :: r, e, H =>
    let go (_ : Unit) := match evOp (evO e) H o.op with
      | none => none
      | some (.val v H') => runOps call inl r (putE e o.dst v) H'
      | some (.skip H') => runOps call inl r (putE e o.dst uv) H'
      | some (.panic v H') => some (.panic v, e, H')
      | some (.call f args) => match doCall call inl f args H with
        | none => none
        | some (.ret v, H') => runOps call inl r (putE e o.dst v) H'
        | some (.panic v, H') => some (.panic v, e, H')
    match o.guard with
    | none => go ()
    | some (t, want) => match e t with
      | .bool b => if b = want then go () else runOps call inl r (putE e o.dst uv) H
      | .tuple [] => runOps call inl r (putE e o.dst uv) H
      | _ => none
end Fz
