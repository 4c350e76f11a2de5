import Derived.Test.YtophcnbabhigmaaFzHA
import Derived.Test.YtophcnbabhigmaaFzAH
set_option maxRecDepth 100000
namespace Fz.H
open Go
def lk : List (Nat × AFun) → FuncId → Option AFun
  | [], _ => none
  | (i, a) :: r, f => if f = i then some a else lk r f
def isInl (f : FuncId) : Bool := f == 29 || f == 31
def p : AP := { fn := lk tab, prim := fun _ => none, inl := isInl }
@[simp] theorem inl_eq (f : FuncId) : p.inl f = (f == 29 || f == 31) := rfl
def byV (b : List Int) : V := .list (b.map (V.int .u8)) false
@[simp] theorem byV.gd (b : List Int) : ground (byV b) = true := by simp [byV]
@[simp] theorem byV.gk (b : List Int) (k : Nat) : gk (k + 1) (byV b) = true := by simp [byV]
@[simp] theorem byV.nr (b : List Int) : nrm (byV b) = byV b := by simp [byV]
@[simp] theorem byV.nrc : nrm ∘ byV = byV := funext fun x => byV.nr x
@[simp] theorem byV.nm (b : List Int) : nm (byV b) = true := by simp [byV]
@[simp] theorem byV.any (b : List Int) : isAny (byV b) = false := rfl
@[simp] theorem byV.cells (b : List Int) : cellsOf (byV b) = [byV b] := rfl
@[simp] theorem byV.st (b : List Int) : storable (byV b) = true := rfl
@[simp] theorem byV.lf (b : List Int) : leafy (byV b) = true := rfl
@[simp] theorem byV.uni (l : List (List Int)) : uni 1 (l.map byV) = true := uni_map fun _ => rfl
@[simp] theorem byV.flat (l : List (List Int)) : flat (l.map byV) = l.map byV := flat_one fun _ => rfl
@[simp] theorem byV.sl (b : List Int) (L : List V → Bool → Prop) (O : Nat → Nat → Nat → Nat → Prop) : wSl (byV b) L O = L (b.map (V.int .u8)) false := (rfl)
@[simp] theorem byV.el (b : List Int) (H : List Ob) (n : Nat) (K : List V → Nat → Prop) : xElems H n (byV b) K = xElems H n (.list (b.map (V.int .u8)) false) K := (rfl)
@[simp] theorem byV.xs (b : List Int) (H : List Ob) (n : Nat) (lo hi mx : Option V) (K : V → Prop) : xSlice H (.sl n) (byV b) lo hi mx K = xSlice H (.sl n) (.list (b.map (V.int .u8)) false) lo hi mx K := (rfl)
structure Sn where
  n : Int
  b : List Int
deriving Inhabited
def snV (s : Sn) : V := .agg [.int .i64 s.n, byV s.b]
@[simp] theorem snV.gd (s : Sn) : ground (snV s) = true := by simp [snV]
@[simp] theorem snV.gk (s : Sn) (k : Nat) : gk (k + 2) (snV s) = true := by simp [snV]
@[simp] theorem snV.nr (s : Sn) : nrm (snV s) = snV s := by simp [snV]
@[simp] theorem snV.nrc : nrm ∘ snV = snV := funext fun x => snV.nr x
@[simp] theorem snV.nm (s : Sn) : nm (snV s) = true := by simp [snV]
@[simp] theorem snV.any (s : Sn) : isAny (snV s) = false := rfl
@[simp] theorem snV.cells (s : Sn) : cellsOf (snV s) = [.int .i64 s.n, byV s.b] := rfl
@[simp] theorem snV.uni (l : List (Sn)) : uni 2 (l.map snV) = true := uni_map fun _ => rfl
@[simp] theorem snV.flat (l : List (Sn)) : flat (l.map snV) = l.flatMap fun s => [.int .i64 s.n, byV s.b] := by rw [flat_map]; rfl
def recsV (l : List (List Int)) : V := .list (l.map byV) false
@[simp] theorem recsV.gd (l : List (List Int)) : ground (recsV l) = true := by simp [recsV]
@[simp] theorem recsV.gk (l : List (List Int)) (k : Nat) : gk (k + 1) (recsV l) = true := by simp [recsV]
@[simp] theorem recsV.nr (l : List (List Int)) : nrm (recsV l) = recsV l := by simp [recsV]
@[simp] theorem recsV.nrc : nrm ∘ recsV = recsV := funext fun x => recsV.nr x
@[simp] theorem recsV.nm (l : List (List Int)) : nm (recsV l) = true := by simp [recsV]
@[simp] theorem recsV.any (l : List (List Int)) : isAny (recsV l) = false := rfl
@[simp] theorem recsV.cells (l : List (List Int)) : cellsOf (recsV l) = [recsV l] := rfl
@[simp] theorem recsV.st (l : List (List Int)) : storable (recsV l) = true := rfl
@[simp] theorem recsV.lf (l : List (List Int)) : leafy (recsV l) = true := rfl
@[simp] theorem recsV.uni (l : List (List (List Int))) : uni 1 (l.map recsV) = true := uni_map fun _ => rfl
@[simp] theorem recsV.flat (l : List (List (List Int))) : flat (l.map recsV) = l.map recsV := flat_one fun _ => rfl
@[simp] theorem recsV.sl (l : List (List Int)) (L : List V → Bool → Prop) (O : Nat → Nat → Nat → Nat → Prop) : wSl (recsV l) L O = L (l.map byV) false := (rfl)
@[simp] theorem recsV.el (l : List (List Int)) (H : List Ob) (n : Nat) (K : List V → Nat → Prop) : xElems H n (recsV l) K = xElems H n (.list (l.map byV) false) K := (rfl)
@[simp] theorem recsV.xs (l : List (List Int)) (H : List Ob) (n : Nat) (lo hi mx : Option V) (K : V → Prop) : xSlice H (.sl n) (recsV l) lo hi mx K = xSlice H (.sl n) (.list (l.map byV) false) lo hi mx K := (rfl)
def snapsV (l : List Sn) : V := .list (l.map snV) false
@[simp] theorem snapsV.gd (l : List Sn) : ground (snapsV l) = true := by simp [snapsV]
@[simp] theorem snapsV.gk (l : List Sn) (k : Nat) : gk (k + 1) (snapsV l) = true := by simp [snapsV]
@[simp] theorem snapsV.nr (l : List Sn) : nrm (snapsV l) = snapsV l := by simp [snapsV]
@[simp] theorem snapsV.nrc : nrm ∘ snapsV = snapsV := funext fun x => snapsV.nr x
@[simp] theorem snapsV.nm (l : List Sn) : nm (snapsV l) = true := by simp [snapsV]
@[simp] theorem snapsV.any (l : List Sn) : isAny (snapsV l) = false := rfl
@[simp] theorem snapsV.cells (l : List Sn) : cellsOf (snapsV l) = [snapsV l] := rfl
@[simp] theorem snapsV.st (l : List Sn) : storable (snapsV l) = true := rfl
@[simp] theorem snapsV.lf (l : List Sn) : leafy (snapsV l) = true := rfl
@[simp] theorem snapsV.uni (l : List (List Sn)) : uni 1 (l.map snapsV) = true := uni_map fun _ => rfl
@[simp] theorem snapsV.flat (l : List (List Sn)) : flat (l.map snapsV) = l.map snapsV := flat_one fun _ => rfl
@[simp] theorem snapsV.sl (l : List Sn) (L : List V → Bool → Prop) (O : Nat → Nat → Nat → Nat → Prop) : wSl (snapsV l) L O = L (l.map snV) false := (rfl)
@[simp] theorem snapsV.el (l : List Sn) (H : List Ob) (n : Nat) (K : List V → Nat → Prop) : xElems H n (snapsV l) K = xElems H n (.list (l.map snV) false) K := (rfl)
@[simp] theorem snapsV.xs (l : List Sn) (H : List Ob) (n : Nat) (lo hi mx : Option V) (K : V → Prop) : xSlice H (.sl n) (snapsV l) lo hi mx K = xSlice H (.sl n) (.list (l.map snV) false) lo hi mx K := (rfl)
structure Hi where
  bud : Int
  per : Int
  lo : Int
  top : Int
  recs : List (List Int)
  snaps : List Sn
deriving Inhabited
def hiV (h : Hi) : V := .agg [.int .i64 h.bud, .int .i64 h.per, .int .i64 h.lo, .int .i64 h.top, recsV h.recs, snapsV h.snaps]
@[simp] theorem hiV.gd (h : Hi) : ground (hiV h) = true := by simp [hiV]
@[simp] theorem hiV.gk (h : Hi) (k : Nat) : gk (k + 2) (hiV h) = true := by simp [hiV]
@[simp] theorem hiV.nr (h : Hi) : nrm (hiV h) = hiV h := by simp [hiV]
@[simp] theorem hiV.nrc : nrm ∘ hiV = hiV := funext fun x => hiV.nr x
@[simp] theorem hiV.nm (h : Hi) : nm (hiV h) = true := by simp [hiV]
@[simp] theorem hiV.any (h : Hi) : isAny (hiV h) = false := rfl
@[simp] theorem hiV.cells (h : Hi) : cellsOf (hiV h) = [.int .i64 h.bud, .int .i64 h.per, .int .i64 h.lo, .int .i64 h.top, recsV h.recs, snapsV h.snaps] := rfl
@[simp] theorem hiV.uni (l : List (Hi)) : uni 6 (l.map hiV) = true := uni_map fun _ => rfl
@[simp] theorem hiV.flat (l : List (Hi)) : flat (l.map hiV) = l.flatMap fun h => [.int .i64 h.bud, .int .i64 h.per, .int .i64 h.lo, .int .i64 h.top, recsV h.recs, snapsV h.snaps] := by rw [flat_map]; rfl
end Fz.H
