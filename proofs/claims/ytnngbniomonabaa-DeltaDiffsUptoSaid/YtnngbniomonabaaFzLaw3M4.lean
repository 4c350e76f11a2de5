/- Delta: the Go types' values. -/
import Derived.Test.YtnngbniomonabaaFzLaw3M3
import Derived.RangeFuncRecord
set_option linter.all false
set_option linter.unusedVariables false
set_option linter.unusedSimpArgs false
set_option linter.unnecessarySimpa false
set_option maxRecDepth 100000
namespace Fz.D
open Go
def byV (b : List Int) : V := .list (b.map (V.int .u8)) false
@[simp] theorem byV.gd (b : List Int) : ground (byV b) = true := by simp [byV]
@[simp] theorem byV.gk (b : List Int) (k : Nat) : gk (k + 1) (byV b) = true := by simp [byV]
@[simp] theorem byV.nr (b : List Int) : nrm (byV b) = byV b := by simp [byV]
@[simp] theorem byV.nrc : nrm ∘ byV = byV := funext fun x => byV.nr x
@[simp] theorem byV.nm (b : List Int) : nm (byV b) = true := by simp [byV]
@[simp] theorem byV.any (b : List Int) : isAny (byV b) = false := rfl
@[simp] theorem byV.cells (b : List Int) : cellsOf (byV b) = [byV b] := rfl
@[simp] theorem byV.st (b : List Int) : storable (byV b) = true := rfl
@[simp] theorem byV.lf (b : List Int) : leafy (byV b) = true := rfl
@[simp] theorem byV.uni (l : List (List Int)) : uni 1 (l.map byV) = true := uni_map fun _ => rfl
@[simp] theorem byV.flat (l : List (List Int)) : flat (l.map byV) = l.map byV := flat_one fun _ => rfl
@[simp] theorem byV.sl (b : List Int) (L : List V → Bool → Prop) (O : Nat → Nat → Nat → Nat → Prop) : wSl (byV b) L O = L (b.map (V.int .u8)) false := (rfl)
@[simp] theorem byV.el (b : List Int) (H : List Ob) (n : Nat) (K : List V → Nat → Prop) : xElems H n (byV b) K = xElems H n (.list (b.map (V.int .u8)) false) K := (rfl)
@[simp] theorem byV.xs (b : List Int) (H : List Ob) (n : Nat) (lo hi mx : Option V) (K : V → Prop) : xSlice H (.sl n) (byV b) lo hi mx K = xSlice H (.sl n) (.list (b.map (V.int .u8)) false) lo hi mx K := (rfl)
def inV (b : List Int) : V := .list (b.map (V.int .i64)) false
@[simp] theorem inV.gd (b : List Int) : ground (inV b) = true := by simp [inV]
@[simp] theorem inV.gk (b : List Int) (k : Nat) : gk (k + 1) (inV b) = true := by simp [inV]
@[simp] theorem inV.nr (b : List Int) : nrm (inV b) = inV b := by simp [inV]
@[simp] theorem inV.nrc : nrm ∘ inV = inV := funext fun x => inV.nr x
@[simp] theorem inV.nm (b : List Int) : nm (inV b) = true := by simp [inV]
@[simp] theorem inV.any (b : List Int) : isAny (inV b) = false := rfl
@[simp] theorem inV.cells (b : List Int) : cellsOf (inV b) = [inV b] := rfl
@[simp] theorem inV.st (b : List Int) : storable (inV b) = true := rfl
@[simp] theorem inV.lf (b : List Int) : leafy (inV b) = true := rfl
@[simp] theorem inV.uni (l : List (List Int)) : uni 1 (l.map inV) = true := uni_map fun _ => rfl
@[simp] theorem inV.flat (l : List (List Int)) : flat (l.map inV) = l.map inV := flat_one fun _ => rfl
@[simp] theorem inV.sl (b : List Int) (L : List V → Bool → Prop) (O : Nat → Nat → Nat → Nat → Prop) : wSl (inV b) L O = L (b.map (V.int .i64)) false := (rfl)
@[simp] theorem inV.el (b : List Int) (H : List Ob) (n : Nat) (K : List V → Nat → Prop) : xElems H n (inV b) K = xElems H n (.list (b.map (V.int .i64)) false) K := (rfl)
@[simp] theorem inV.xs (b : List Int) (H : List Ob) (n : Nat) (lo hi mx : Option V) (K : V → Prop) : xSlice H (.sl n) (inV b) lo hi mx K = xSlice H (.sl n) (.list (b.map (V.int .i64)) false) lo hi mx K := (rfl)
structure Slo where
  v : Int
  call : Bool
deriving Inhabited, DecidableEq
structure Wor where
  name : ByteArray
  code : Int
  now : Bool
  hid : Bool
deriving Inhabited
structure Spo where
  addr : Int
  at_ : Int
deriving Inhabited, DecidableEq
structure Rn where
  at_ : Int
  b : List Int
deriving Inhabited, DecidableEq
def sloV (s : Slo) : V := .agg [.int .i64 s.v, .bool s.call]
@[simp] theorem sloV.gd (s : Slo) : ground (sloV s) = true := by simp [sloV]
@[simp] theorem sloV.gk (s : Slo) (k : Nat) : gk (k + 2) (sloV s) = true := by simp [sloV]
@[simp] theorem sloV.nr (s : Slo) : nrm (sloV s) = sloV s := by simp [sloV]
@[simp] theorem sloV.nrc : nrm ∘ sloV = sloV := funext fun x => sloV.nr x
@[simp] theorem sloV.nm (s : Slo) : nm (sloV s) = true := by simp [sloV]
@[simp] theorem sloV.any (s : Slo) : isAny (sloV s) = false := rfl
@[simp] theorem sloV.cells (s : Slo) : cellsOf (sloV s) = [.int .i64 s.v, .bool s.call] := rfl
@[simp] theorem sloV.uni (l : List (Slo)) : uni 2 (l.map sloV) = true := uni_map fun _ => rfl
@[simp] theorem sloV.flat (l : List (Slo)) : flat (l.map sloV) = l.flatMap fun s => [.int .i64 s.v, .bool s.call] := by rw [flat_map]; rfl
def worV (s : Wor) : V := .agg [.str s.name, .int .i64 s.code, .bool s.now, .bool s.hid]
@[simp] theorem worV.gd (s : Wor) : ground (worV s) = true := by simp [worV]
@[simp] theorem worV.gk (s : Wor) (k : Nat) : gk (k + 2) (worV s) = true := by simp [worV]
@[simp] theorem worV.nr (s : Wor) : nrm (worV s) = worV s := by simp [worV]
@[simp] theorem worV.nrc : nrm ∘ worV = worV := funext fun x => worV.nr x
@[simp] theorem worV.nm (s : Wor) : nm (worV s) = true := by simp [worV]
@[simp] theorem worV.any (s : Wor) : isAny (worV s) = false := rfl
@[simp] theorem worV.cells (s : Wor) : cellsOf (worV s) = [.str s.name, .int .i64 s.code, .bool s.now, .bool s.hid] := rfl
@[simp] theorem worV.uni (l : List (Wor)) : uni 4 (l.map worV) = true := uni_map fun _ => rfl
@[simp] theorem worV.flat (l : List (Wor)) : flat (l.map worV) = l.flatMap fun s => [.str s.name, .int .i64 s.code, .bool s.now, .bool s.hid] := by rw [flat_map]; rfl
def spoV (s : Spo) : V := .agg [.int .i64 s.addr, .int .i64 s.at_]
@[simp] theorem spoV.gd (s : Spo) : ground (spoV s) = true := by simp [spoV]
@[simp] theorem spoV.gk (s : Spo) (k : Nat) : gk (k + 2) (spoV s) = true := by simp [spoV]
@[simp] theorem spoV.nr (s : Spo) : nrm (spoV s) = spoV s := by simp [spoV]
@[simp] theorem spoV.nrc : nrm ∘ spoV = spoV := funext fun x => spoV.nr x
@[simp] theorem spoV.nm (s : Spo) : nm (spoV s) = true := by simp [spoV]
@[simp] theorem spoV.any (s : Spo) : isAny (spoV s) = false := rfl
@[simp] theorem spoV.cells (s : Spo) : cellsOf (spoV s) = [.int .i64 s.addr, .int .i64 s.at_] := rfl
@[simp] theorem spoV.uni (l : List (Spo)) : uni 2 (l.map spoV) = true := uni_map fun _ => rfl
@[simp] theorem spoV.flat (l : List (Spo)) : flat (l.map spoV) = l.flatMap fun s => [.int .i64 s.addr, .int .i64 s.at_] := by rw [flat_map]; rfl
def runV (s : Rn) : V := .agg [.int .i64 s.at_, byV s.b]
@[simp] theorem runV.gd (s : Rn) : ground (runV s) = true := by simp [runV]
@[simp] theorem runV.gk (s : Rn) (k : Nat) : gk (k + 2) (runV s) = true := by simp [runV]
@[simp] theorem runV.nr (s : Rn) : nrm (runV s) = runV s := by simp [runV]
@[simp] theorem runV.nrc : nrm ∘ runV = runV := funext fun x => runV.nr x
@[simp] theorem runV.nm (s : Rn) : nm (runV s) = true := by simp [runV]
@[simp] theorem runV.any (s : Rn) : isAny (runV s) = false := rfl
@[simp] theorem runV.cells (s : Rn) : cellsOf (runV s) = [.int .i64 s.at_, byV s.b] := rfl
@[simp] theorem runV.uni (l : List (Rn)) : uni 2 (l.map runV) = true := uni_map fun _ => rfl
@[simp] theorem runV.flat (l : List (Rn)) : flat (l.map runV) = l.flatMap fun s => [.int .i64 s.at_, byV s.b] := by rw [flat_map]; rfl
def slosV (l : List Slo) : V := .list (l.map sloV) false
@[simp] theorem slosV.gd (l : List Slo) : ground (slosV l) = true := by simp [slosV]
@[simp] theorem slosV.gk (l : List Slo) (k : Nat) : gk (k + 1) (slosV l) = true := by simp [slosV]
@[simp] theorem slosV.nr (l : List Slo) : nrm (slosV l) = slosV l := by simp [slosV]
@[simp] theorem slosV.nrc : nrm ∘ slosV = slosV := funext fun x => slosV.nr x
@[simp] theorem slosV.nm (l : List Slo) : nm (slosV l) = true := by simp [slosV]
@[simp] theorem slosV.any (l : List Slo) : isAny (slosV l) = false := rfl
@[simp] theorem slosV.cells (l : List Slo) : cellsOf (slosV l) = [slosV l] := rfl
@[simp] theorem slosV.st (l : List Slo) : storable (slosV l) = true := rfl
@[simp] theorem slosV.lf (l : List Slo) : leafy (slosV l) = true := rfl
@[simp] theorem slosV.uni (l : List (List Slo)) : uni 1 (l.map slosV) = true := uni_map fun _ => rfl
@[simp] theorem slosV.flat (l : List (List Slo)) : flat (l.map slosV) = l.map slosV := flat_one fun _ => rfl
@[simp] theorem slosV.sl (l : List Slo) (L : List V → Bool → Prop) (O : Nat → Nat → Nat → Nat → Prop) : wSl (slosV l) L O = L (l.map sloV) false := (rfl)
@[simp] theorem slosV.el (l : List Slo) (H : List Ob) (n : Nat) (K : List V → Nat → Prop) : xElems H n (slosV l) K = xElems H n (.list (l.map sloV) false) K := (rfl)
@[simp] theorem slosV.xs (l : List Slo) (H : List Ob) (n : Nat) (lo hi mx : Option V) (K : V → Prop) : xSlice H (.sl n) (slosV l) lo hi mx K = xSlice H (.sl n) (.list (l.map sloV) false) lo hi mx K := (rfl)
def worsV (l : List Wor) : V := .list (l.map worV) false
@[simp] theorem worsV.gd (l : List Wor) : ground (worsV l) = true := by simp [worsV]
@[simp] theorem worsV.gk (l : List Wor) (k : Nat) : gk (k + 1) (worsV l) = true := by simp [worsV]
@[simp] theorem worsV.nr (l : List Wor) : nrm (worsV l) = worsV l := by simp [worsV]
@[simp] theorem worsV.nrc : nrm ∘ worsV = worsV := funext fun x => worsV.nr x
@[simp] theorem worsV.nm (l : List Wor) : nm (worsV l) = true := by simp [worsV]
@[simp] theorem worsV.any (l : List Wor) : isAny (worsV l) = false := rfl
@[simp] theorem worsV.cells (l : List Wor) : cellsOf (worsV l) = [worsV l] := rfl
@[simp] theorem worsV.st (l : List Wor) : storable (worsV l) = true := rfl
@[simp] theorem worsV.lf (l : List Wor) : leafy (worsV l) = true := rfl
@[simp] theorem worsV.uni (l : List (List Wor)) : uni 1 (l.map worsV) = true := uni_map fun _ => rfl
@[simp] theorem worsV.flat (l : List (List Wor)) : flat (l.map worsV) = l.map worsV := flat_one fun _ => rfl
@[simp] theorem worsV.sl (l : List Wor) (L : List V → Bool → Prop) (O : Nat → Nat → Nat → Nat → Prop) : wSl (worsV l) L O = L (l.map worV) false := (rfl)
@[simp] theorem worsV.el (l : List Wor) (H : List Ob) (n : Nat) (K : List V → Nat → Prop) : xElems H n (worsV l) K = xElems H n (.list (l.map worV) false) K := (rfl)
@[simp] theorem worsV.xs (l : List Wor) (H : List Ob) (n : Nat) (lo hi mx : Option V) (K : V → Prop) : xSlice H (.sl n) (worsV l) lo hi mx K = xSlice H (.sl n) (.list (l.map worV) false) lo hi mx K := (rfl)
def sposV (l : List Spo) : V := .list (l.map spoV) false
@[simp] theorem sposV.gd (l : List Spo) : ground (sposV l) = true := by simp [sposV]
@[simp] theorem sposV.gk (l : List Spo) (k : Nat) : gk (k + 1) (sposV l) = true := by simp [sposV]
@[simp] theorem sposV.nr (l : List Spo) : nrm (sposV l) = sposV l := by simp [sposV]
@[simp] theorem sposV.nrc : nrm ∘ sposV = sposV := funext fun x => sposV.nr x
@[simp] theorem sposV.nm (l : List Spo) : nm (sposV l) = true := by simp [sposV]
@[simp] theorem sposV.any (l : List Spo) : isAny (sposV l) = false := rfl
@[simp] theorem sposV.cells (l : List Spo) : cellsOf (sposV l) = [sposV l] := rfl
@[simp] theorem sposV.st (l : List Spo) : storable (sposV l) = true := rfl
@[simp] theorem sposV.lf (l : List Spo) : leafy (sposV l) = true := rfl
@[simp] theorem sposV.uni (l : List (List Spo)) : uni 1 (l.map sposV) = true := uni_map fun _ => rfl
@[simp] theorem sposV.flat (l : List (List Spo)) : flat (l.map sposV) = l.map sposV := flat_one fun _ => rfl
@[simp] theorem sposV.sl (l : List Spo) (L : List V → Bool → Prop) (O : Nat → Nat → Nat → Nat → Prop) : wSl (sposV l) L O = L (l.map spoV) false := (rfl)
@[simp] theorem sposV.el (l : List Spo) (H : List Ob) (n : Nat) (K : List V → Nat → Prop) : xElems H n (sposV l) K = xElems H n (.list (l.map spoV) false) K := (rfl)
@[simp] theorem sposV.xs (l : List Spo) (H : List Ob) (n : Nat) (lo hi mx : Option V) (K : V → Prop) : xSlice H (.sl n) (sposV l) lo hi mx K = xSlice H (.sl n) (.list (l.map spoV) false) lo hi mx K := (rfl)
def runsV (l : List Rn) : V := .list (l.map runV) false
@[simp] theorem runsV.gd (l : List Rn) : ground (runsV l) = true := by simp [runsV]
@[simp] theorem runsV.gk (l : List Rn) (k : Nat) : gk (k + 1) (runsV l) = true := by simp [runsV]
@[simp] theorem runsV.nr (l : List Rn) : nrm (runsV l) = runsV l := by simp [runsV]
@[simp] theorem runsV.nrc : nrm ∘ runsV = runsV := funext fun x => runsV.nr x
@[simp] theorem runsV.nm (l : List Rn) : nm (runsV l) = true := by simp [runsV]
@[simp] theorem runsV.any (l : List Rn) : isAny (runsV l) = false := rfl
@[simp] theorem runsV.cells (l : List Rn) : cellsOf (runsV l) = [runsV l] := rfl
@[simp] theorem runsV.st (l : List Rn) : storable (runsV l) = true := rfl
@[simp] theorem runsV.lf (l : List Rn) : leafy (runsV l) = true := rfl
@[simp] theorem runsV.uni (l : List (List Rn)) : uni 1 (l.map runsV) = true := uni_map fun _ => rfl
@[simp] theorem runsV.flat (l : List (List Rn)) : flat (l.map runsV) = l.map runsV := flat_one fun _ => rfl
@[simp] theorem runsV.sl (l : List Rn) (L : List V → Bool → Prop) (O : Nat → Nat → Nat → Nat → Prop) : wSl (runsV l) L O = L (l.map runV) false := (rfl)
@[simp] theorem runsV.el (l : List Rn) (H : List Ob) (n : Nat) (K : List V → Nat → Prop) : xElems H n (runsV l) K = xElems H n (.list (l.map runV) false) K := (rfl)
@[simp] theorem runsV.xs (l : List Rn) (H : List Ob) (n : Nat) (lo hi mx : Option V) (K : V → Prop) : xSlice H (.sl n) (runsV l) lo hi mx K = xSlice H (.sl n) (.list (l.map runV) false) lo hi mx K := (rfl)
structure St where
  mem : List Int
  data : List Int
  ret : List Slo
  ctl : List Int
  words : List Wor
  spots : List Spo
  out : List Int
  ip : Int
  here : Int
  at_ : Int
  tok : Int
  in_ : Int
  err : Int
  comp : Bool
  halt : Bool
deriving Inhabited
structure De where
  mem : List Rn
  dk : Int
  dt : List Int
  rk : Int
  rt : List Slo
  ck : Int
  ct : List Int
  wk : Int
  wt : List Wor
  sk : Int
  st : List Spo
  out : Int
  r0 : Int
  r1 : Int
  r2 : Int
  r3 : Int
  r4 : Int
  r5 : Int
  comp : Bool
  halt : Bool
deriving Inhabited
def stV (s : St) : V := .agg [byV s.mem, inV s.data, slosV s.ret, inV s.ctl, worsV s.words, sposV s.spots, byV s.out, .int .i64 s.ip, .int .i64 s.here, .int .i64 s.at_, .int .i64 s.tok, .int .i64 s.in_, .int .i64 s.err, .bool s.comp, .bool s.halt]
@[simp] theorem stV.gd (s : St) : ground (stV s) = true := by simp [stV]
@[simp] theorem stV.gk (s : St) (k : Nat) : gk (k + 2) (stV s) = true := by simp [stV]
@[simp] theorem stV.nr (s : St) : nrm (stV s) = stV s := by simp [stV]
@[simp] theorem stV.nrc : nrm ∘ stV = stV := funext fun x => stV.nr x
@[simp] theorem stV.nm (s : St) : nm (stV s) = true := by simp [stV]
@[simp] theorem stV.any (s : St) : isAny (stV s) = false := rfl
@[simp] theorem stV.cells (s : St) : cellsOf (stV s) = [byV s.mem, inV s.data, slosV s.ret, inV s.ctl, worsV s.words, sposV s.spots, byV s.out, .int .i64 s.ip, .int .i64 s.here, .int .i64 s.at_, .int .i64 s.tok, .int .i64 s.in_, .int .i64 s.err, .bool s.comp, .bool s.halt] := rfl
@[simp] theorem stV.uni (l : List (St)) : uni 15 (l.map stV) = true := uni_map fun _ => rfl
@[simp] theorem stV.flat (l : List (St)) : flat (l.map stV) = l.flatMap fun s => [byV s.mem, inV s.data, slosV s.ret, inV s.ctl, worsV s.words, sposV s.spots, byV s.out, .int .i64 s.ip, .int .i64 s.here, .int .i64 s.at_, .int .i64 s.tok, .int .i64 s.in_, .int .i64 s.err, .bool s.comp, .bool s.halt] := by rw [flat_map]; rfl
def deV (d : De) : V := .agg [runsV d.mem, .int .i64 d.dk, inV d.dt, .int .i64 d.rk, slosV d.rt, .int .i64 d.ck, inV d.ct, .int .i64 d.wk, worsV d.wt, .int .i64 d.sk, sposV d.st, .int .i64 d.out, .int .i64 d.r0, .int .i64 d.r1, .int .i64 d.r2, .int .i64 d.r3, .int .i64 d.r4, .int .i64 d.r5, .bool d.comp, .bool d.halt]
@[simp] theorem deV.gd (d : De) : ground (deV d) = true := by simp [deV]
@[simp] theorem deV.gk (d : De) (k : Nat) : gk (k + 2) (deV d) = true := by simp [deV]
@[simp] theorem deV.nr (d : De) : nrm (deV d) = deV d := by simp [deV]
@[simp] theorem deV.nrc : nrm ∘ deV = deV := funext fun x => deV.nr x
@[simp] theorem deV.nm (d : De) : nm (deV d) = true := by simp [deV]
@[simp] theorem deV.any (d : De) : isAny (deV d) = false := rfl
@[simp] theorem deV.cells (d : De) : cellsOf (deV d) = [runsV d.mem, .int .i64 d.dk, inV d.dt, .int .i64 d.rk, slosV d.rt, .int .i64 d.ck, inV d.ct, .int .i64 d.wk, worsV d.wt, .int .i64 d.sk, sposV d.st, .int .i64 d.out, .int .i64 d.r0, .int .i64 d.r1, .int .i64 d.r2, .int .i64 d.r3, .int .i64 d.r4, .int .i64 d.r5, .bool d.comp, .bool d.halt] := rfl
@[simp] theorem deV.uni (l : List (De)) : uni 20 (l.map deV) = true := uni_map fun _ => rfl
@[simp] theorem deV.flat (l : List (De)) : flat (l.map deV) = l.flatMap fun d => [runsV d.mem, .int .i64 d.dk, inV d.dt, .int .i64 d.rk, slosV d.rt, .int .i64 d.ck, inV d.ct, .int .i64 d.wk, worsV d.wt, .int .i64 d.sk, sposV d.st, .int .i64 d.out, .int .i64 d.r0, .int .i64 d.r1, .int .i64 d.r2, .int .i64 d.r3, .int .i64 d.r4, .int .i64 d.r5, .bool d.comp, .bool d.halt] := by rw [flat_map]; rfl
end Fz.D
set_option maxRecDepth 100000
namespace Fz.D
open Go
def i64 (a : Int) : Prop := -9223372036854775808 ≤ a ∧ a ≤ 9223372036854775807
/-- A number's size. -/
def zz (n : Int) : Int := if 0 ≤ n then 2 * n else -2 * n - 1
theorem zz_le {n : Int} (h : i64 n) : 0 ≤ zz n ∧ zz n < 18446744073709551616 := by
  unfold i64 at h; unfold zz; split <;> omega
theorem u64 {a : Int} (h0 : 0 ≤ a) (h1 : a < 18446744073709551616) : IntKind.u64.wrap a = a := by
  show a % 18446744073709551616 = a
  omega
theorem size_s {n : Int} (h : i64 n) : Comes p 84 [.int .i64 n] (.int .u64 (zz n)) := by
  refine Comes_of w84 rfl rfl k84 ?_ ?_ ?_ ?_
  · simp
  · simp
  · simp
  · have h' := h
    unfold i64 at h'
    by_cases h0 : 0 ≤ n
    · simp -dsimp [w84, wFix_by, h0, isInl]
      rw [u64 h0 (by omega), u64 (by omega) (by omega)]; unfold zz; rw [if_pos h0]
    · simp -dsimp [w84, wFix_by, h0, isInl]
      have e1 : IntKind.i64.wrap (n + 1) = n + 1 := Fz.w64 (by omega) (by omega)
      have e2 : IntKind.i64.wrap (-(n + 1)) = -(n + 1) := Fz.w64 (by omega) (by omega)
      have e3 : IntKind.u64.wrap (-(n + 1)) = -(n + 1) := u64 (by omega) (by omega)
      have e4 : IntKind.u64.wrap (2 * -(n + 1)) = 2 * -(n + 1) := u64 (by omega) (by omega)
      rw [e1, e2, e3, e4, u64 (by omega) (by omega)]; unfold zz; rw [if_neg h0]; omega

/-- Groups that others follow. -/
def numC (x : Nat) : List Int := if h : x = 0 then [] else numC (x / 128) ++ [((x % 128 : Nat) : Int) + 128]
termination_by x
decreasing_by omega
/-- A number as bytes. -/
def numB (x : Nat) : List Int := numC (x / 128) ++ [((x % 128 : Nat) : Int)]
theorem numC_zero : numC 0 = [] := by rw [numC]; simp
theorem numC_pos {x : Nat} (h : x ≠ 0) : numC x = numC (x / 128) ++ [((x % 128 : Nat) : Int) + 128] := by rw [numC]; simp [h]

theorem refNum_s {n : Int} (h : i64 n) : Comes p 45 [.int .i64 n] (byV (numB (zz n).toNat)) := by
  obtain ⟨z0, z1⟩ := zz_le h
  refine Comes_of w45 rfl rfl k45 ?_ ?_ ?_ ?_
  · simp
  · simp
  · simp
  · obtain ⟨x, hx⟩ : ∃ x : Nat, zz n = x := ⟨(zz n).toNat, by omega⟩
    have hs := size_s h
    rw [hx] at hs
    rw [hx] at z1
    simp -dsimp [w45, wFix_by, isInl, call_by hs, hx]
    have t0 : ((x : Int).tmod 128) = (x : Int) % 128 := Int.tmod_eq_emod_of_nonneg (by omega)
    have t1 : IntKind.u64.wrap ((x : Int) / 128) = (x : Int) / 128 := u64 (by omega) (by omega)
    have t2 : IntKind.u8.wrap ((x : Int) % 128) = (x : Int) % 128 := Fz.w8 (by omega) (by omega)
    refine xL_by (by kernel_rfl) (fun k e H => ∃ (l : List Int) (id : Nat), e 3 = .int .u64 (k : Nat) ∧ e 4 = .own id 0 l.length 1 ∧ H[id]? = some (.live (l.map (V.int .u8))) ∧ numC k ++ l = numB x ∧ l ≠ [] ∧ k < 18446744073709551616 ∧ k * 2 ^ l.length < 18446744073709551616) (x / 128) ?_ ?_
    · refine ⟨[((x % 128 : Nat) : Int)], 0, ?_⟩
      simp -dsimp [t0, t1, t2, numB]
      omega
    · rintro k e H ⟨l, id, h3, h4, hl, hR, hne, hk, hpow⟩
      have u0 : ((k : Int).tmod 128) = (k : Int) % 128 := Int.tmod_eq_emod_of_nonneg (by omega)
      have u1 : IntKind.u64.wrap ((k : Int) / 128) = (k : Int) / 128 := u64 (by omega) (by omega)
      have u2 : IntKind.u64.wrap ((k : Int) % 128 + 128) = (k : Int) % 128 + 128 := u64 (by omega) (by omega)
      have u3 : IntKind.u8.wrap ((k : Int) % 128 + 128) = (k : Int) % 128 + 128 := Fz.w8 (by omega) (by omega)
      simp -dsimp [h3, h4, wFix_by, isInl, u0, u1, u2, u3]
      split
      · rename_i hk0
        have hlen : l.length < 64 := by
          rcases Nat.lt_or_ge l.length 64 with h | h
          · exact h
          · have h1 := Nat.pow_le_pow_right (show 0 < 2 by omega) h
            have h2 : 1 * 2 ^ l.length ≤ k * 2 ^ l.length := Nat.mul_le_mul_right _ hk0
            have h3 : (2 : Nat) ^ 64 = 18446744073709551616 := by decide
            omega
        rw [wLive_app hl]
        simp -dsimp [wAppend_own, capOk, hne, h3, u0, u1, u2, u3]
        refine ⟨⟨by omega, by omega⟩, ?_⟩
        refine ⟨k / 128, by omega, (((k % 128 : Nat) : Int) + 128) :: l, H.length + 1, ?_⟩
        have hp : k / 128 * 2 ^ (l.length + 1) < 18446744073709551616 := by
          have e1 : k / 128 * 2 ^ (l.length + 1) = k / 128 * 2 * 2 ^ l.length := by rw [Nat.pow_succ]; rw [Nat.mul_assoc, Nat.mul_comm 2]
          have e2 : k / 128 * 2 * 2 ^ l.length ≤ k * 2 ^ l.length := Nat.mul_le_mul_right _ (by omega)
          omega
        rw [numC_pos (by omega)] at hR
        simp -dsimp at hR ⊢
        refine ⟨by omega, hR, by omega, hp⟩
      · rename_i hk0
        have hk1 : k = 0 := by omega
        subst hk1
        rw [numC_zero, List.nil_append] at hR
        rw [wOb_at hl]
        simp -dsimp [byV, hR]
end Fz.D
set_option maxRecDepth 100000
namespace Fz.D
open Go
theorem reach_one {H : List Ob} {i : Nat} {l : List V} (hi : H[i]? = some (.live l)) (hl : refsL l = []) : reach H 1000 [i] [] = some [i] := by
  show reach H (998 + 1 + 1) [i] [] = _
  rw [reach]
  rw [if_neg (by simp), hi]
  dsimp only
  rw [show refsOb (.live l) = [] from hl]
  rfl
@[simp] theorem refs_ints {k : IntKind} (l : List Int) : refsL (l.map (V.int k)) = [] := by
  induction l with
  | nil => rfl
  | cons a l ih => rw [List.map_cons, refsL, ih]; rfl
@[simp] theorem ren_ints {g : Nat → Nat} {k : IntKind} (l : List Int) : renL g (l.map (V.int k)) = l.map (V.int k) := by
  induction l with
  | nil => rfl
  | cons a l ih => rw [List.map_cons, renL, ih]; rfl
theorem set_same {α : Type} {H : List α} {i : Nat} {x : α} (h : H[i]? = some x) : H.set i x = H := by
  apply List.ext_getElem?
  intro j
  rw [List.getElem?_set]
  split
  · rename_i e; subst e; rw [h]; simp [(List.getElem?_eq_some_iff.1 h).1]
  · rfl
@[simp] theorem back_z {id n : Nat} : backK [id] n 0 = id := by simp [backK]
@[simp] theorem back_s {id n j : Nat} : backK [id] n (j + 1) = n + j := by simp [backK]
/-- A copy of an object's bytes. -/
theorem clone_own {H : List Ob} {id off len : Nat} {l : List Int} {Q : CR → List Ob → Prop} (hl : H[id]? = some (.live (l.map (V.int .u8)))) (hb : off + len ≤ l.length) (h0 : len ≠ 0) (hc : len ≤ 1000000)
    (hq : Q (.ret (.own H.length 0 len 1)) (H ++ [.live (((l.drop off).take len).map (V.int .u8))])) : WCall p 49 [.own id off len 1] H Q := by
  have hr : reach H 1000 (refsL [.own id off len 1]) [] = some [id] := reach_one hl (refs_ints l)
  refine WCall_inl (by kernel_rfl) hr ?_
  refine WFun_of w49 rfl rfl k49 ?_
  have e1 : ([id] : List Nat).idxOf id = 0 := by simp
  simp -dsimp [w49, hl, renL, ren, e1, renOb]
  refine ⟨hb, ?_⟩
  rw [if_neg h0]
  refine ⟨⟨by omega, by simp [capOk]; omega⟩, ?_⟩
  have e2 : backK [id] H.length 1 = H.length := by simp [backK]
  have e3 : backH [id] (CR.ret (V.own 1 0 len 1)) [Ob.live (List.map (V.int IntKind.u8) l), Ob.live (List.take len (List.drop off (List.map (V.int IntKind.u8) l)))] H = H ++ [.live (((l.drop off).take len).map (V.int .u8))] := by
    unfold backH
    rw [if_pos (by simp [crV, refs])]
    simp only [List.length_singleton, List.take_succ_cons, List.take_zero, List.drop_succ_cons, List.drop_zero, List.map_cons, List.map_nil, setAll, renOb, ren_ints, set_same hl]
    rw [← List.map_drop, ← List.map_take, ren_ints]
  rw [e3]
  simpa [renR, ren, e2] using hq
end Fz.D
namespace Fz.D
open Go
theorem xor_ones {a : Nat} (h : a < 18446744073709551616) : a ^^^ 18446744073709551615 = 18446744073709551615 - a := by
  have h1 : (BitVec.ofNat 64 a ^^^ BitVec.allOnes 64).toNat = (~~~(BitVec.ofNat 64 a)).toNat := by rw [BitVec.xor_allOnes]
  rw [BitVec.toNat_xor, BitVec.toNat_not, BitVec.toNat_allOnes, BitVec.toNat_ofNat, Nat.mod_eq_of_lt (by omega)] at h1
  have e : (2 : Nat) ^ 64 - 1 = 18446744073709551615 := by decide
  rw [e] at h1
  exact h1
theorem zz_bits {n : Int} (h : i64 n) : IntKind.u64.wrap ((((IntKind.u64.wrap (IntKind.u64.wrap n * 2 ^ min 1 IntKind.u64.bits) % 2 ^ IntKind.u64.bits).toNat ^^^ (IntKind.u64.wrap (n.fdiv (2 ^ min 63 IntKind.i64.bits)) % 2 ^ IntKind.u64.bits).toNat : Nat)) : Int) = zz n := by
  unfold i64 at h
  unfold zz
  have b1 : (2 : Int) ^ min 1 IntKind.u64.bits = 2 := by decide
  have b2 : (2 : Int) ^ IntKind.u64.bits = 18446744073709551616 := by decide
  have b3 : (2 : Int) ^ min 63 IntKind.i64.bits = 9223372036854775808 := by decide
  rw [b1, b2, b3]
  have w : ∀ a : Int, IntKind.u64.wrap a = a % 18446744073709551616 := fun a => rfl
  have f : n.fdiv 9223372036854775808 = n / 9223372036854775808 := Int.fdiv_eq_ediv_of_nonneg _ (by omega)
  simp only [w, f]
  by_cases h0 : 0 ≤ n
  · have e1 : (n % 18446744073709551616 * 2 % 18446744073709551616 % 18446744073709551616).toNat = (2 * n).toNat := by omega
    have e2 : (n / 9223372036854775808 % 18446744073709551616 % 18446744073709551616).toNat = 0 := by omega
    rw [e1, e2, Nat.xor_zero, if_pos h0]; omega
  · have e1 : (n % 18446744073709551616 * 2 % 18446744073709551616 % 18446744073709551616).toNat = (18446744073709551616 + 2 * n).toNat := by omega
    have e2 : (n / 9223372036854775808 % 18446744073709551616 % 18446744073709551616).toNat = 18446744073709551615 := by omega
    rw [e1, e2, xor_ones (by omega), if_neg h0]; omega
theorem or_128 (k : Nat) : IntKind.u8.wrap (((((k : Int) % 128 % 2 ^ IntKind.u8.bits).toNat ||| 128 % 2 ^ IntKind.u8.bits : Nat)) : Int) = (k : Int) % 128 + 128 := by
  have b : (2 : Int) ^ IntKind.u8.bits = 256 := by decide
  have c : 128 % 2 ^ IntKind.u8.bits = 128 := by decide
  rw [b, c]
  have e1 : ((k : Int) % 128 % 256).toNat = k % 128 := by omega
  have e2 : k % 128 ||| 128 = k % 128 + 128 := by
    have := Nat.two_pow_add_eq_or_of_lt (i := 7) (b := k % 128) (by omega) 1
    rw [Nat.or_comm]
    simp at this
    omega
  rw [e1, e2, Fz.w8 (by omega) (by omega)]; omega
theorem num_s {n : Int} (h : i64 n) : Comes p 32 [.int .i64 n] (byV (numB (zz n).toNat)) := by
  obtain ⟨z0, z1⟩ := zz_le h
  refine Comes_of w32 rfl rfl k32 ?_ ?_ ?_ ?_
  · simp
  · simp
  · simp
  · obtain ⟨x, hx⟩ : ∃ x : Nat, zz n = x := ⟨(zz n).toNat, by omega⟩
    have hb := zz_bits h
    rw [hx] at hb z1
    simp -dsimp [w32, wFix_by, isInl, hx, hb]
    have t0 : ((x : Int).tmod 128) = (x : Int) % 128 := Int.tmod_eq_emod_of_nonneg (by omega)
    have t1 : IntKind.u64.wrap ((x : Int) / 128) = (x : Int) / 128 := u64 (by omega) (by omega)
    have t2 : IntKind.u8.wrap ((x : Int) % 128) = (x : Int) % 128 := Fz.w8 (by omega) (by omega)
    refine xL_by (by kernel_rfl) (fun k e H => ∃ (i : Nat) (cs : List Int), e 3 = .int .u64 (k : Nat) ∧ e 4 = .ptr 0 0 ∧ e 5 = .int .i64 (i : Nat) ∧ H = [.live (cs.map (V.int .u8))] ∧ cs.length = 10 ∧ i ≤ 9 ∧ numC k ++ cs.drop i = numB x ∧ k < 128 ^ i ∧ k < 18446744073709551616) (x / 128) ?_ ?_
    · refine ⟨9, [0, 0, 0, 0, 0, 0, 0, 0, 0, ((x % 128 : Nat) : Int)], ?_⟩
      simp -dsimp [t0, t1, t2, numB]
      omega
    · rintro k e H ⟨i, cs, h3, h4, h5, rfl, hcs, hi, hR, hk, hk2⟩
      have u0 : ((k : Int).tmod 128) = (k : Int) % 128 := Int.tmod_eq_emod_of_nonneg (by omega)
      have u1 : IntKind.u64.wrap ((k : Int) / 128) = (k : Int) / 128 := u64 (by omega) (by omega)
      have u3 : IntKind.u8.wrap ((k : Int) % 128) = (k : Int) % 128 := Fz.w8 (by omega) (by omega)
      simp -dsimp [h3, h4, h5, wFix_by, isInl, u0, u1, u3]
      split
      · rename_i hk0
        have hi0 : i ≠ 0 := by
          rintro rfl
          simp at hk; omega
        have e1 : IntKind.i64.wrap ((i : Int) - 1) = ((i - 1 : Nat) : Int) := by rw [Fz.w64 (by omega) (by omega)]; omega
        have u5 := or_128 k
        simp only [e1, u5]
        refine ⟨by omega, by omega, by simp; omega, k / 128, by omega, i - 1, cs.take (i - 1) ++ (((k % 128 : Nat) : Int) + 128) :: cs.drop i, ?_⟩
        have hp : k / 128 < 128 ^ (i - 1) := by
          rw [Nat.div_lt_iff_lt_mul (by omega), ← Nat.pow_succ, show (i - 1).succ = i from by omega]; exact hk
        have hi1 : i - 1 + 1 = i := by omega
        rw [numC_pos (by omega)] at hR
        simp -dsimp [h4, hi1] at hR ⊢
        refine ⟨e1, ?_, by omega, by omega, ?_, hp, by omega⟩
        · rw [e1, u5, Int.toNat_natCast, hi1]
        · rw [List.drop_append_of_le_length (by simp; omega)]
          simp [hR]
      · rename_i hk0
        have hk1 : k = 0 := by omega
        subst hk1
        rw [numC_zero, List.nil_append] at hR
        refine ⟨by omega, by omega, ?_⟩
        rw [if_neg (by omega)]
        refine clone_own (l := cs) (by simp) (by omega) (by omega) (by omega) ?_
        have e5 : (cs.drop i).take (10 - i) = cs.drop i := List.take_of_length_le (by simp; omega)
        have hlen : 10 - i = (numB x).length := by rw [← hR, List.length_drop, hcs]
        rw [e5, hR, hlen]
        simp -dsimp [wFix_by, isInl, byV]
end Fz.D
set_option maxRecDepth 100000
namespace Fz.D
open Go
theorem zeros_one (n : Nat) (z : V) : zeros [z] n = List.replicate n z := by
  induction n with
  | zero => rfl
  | succ n ih => rw [zeros, ih]; rfl
theorem grow_b {n : Int} {H : List Ob} {Q : CR → List Ob → Prop} (h0 : 0 ≤ n) (h1 : n ≤ 100000000) (hq : ∀ v J, Ac 1 H.length J v [] → Q (.ret v) (H ++ J)) : WCall p 83 [.list [] true, .int .i64 n] H Q := by
  have hr : reach H 1000 (refsL [.list [] true, .int .i64 n]) [] = some [] := rfl
  refine WCall_inl (by kernel_rfl) hr ?_
  refine WFun_of w83 rfl rfl k83 ?_
  have e0 : IntKind.i64.wrap n = n := Fz.w64 (by omega) (by omega)
  have z0 : IntKind.i64.wrap 0 = 0 := Fz.w64 (by omega) (by omega)
  have none : Q (renR (backK [] H.length) (CR.ret (V.list [] true))) (backH [] (CR.ret (V.list [] true)) [] H) := by
    have := hq (.list [] true) [] (ac_nil (by decide))
    simpa [renR, ren, renL, backH, crV, refs, refsL, setAll] using this
  by_cases hn : n = 0
  · subst hn
    simp -dsimp [w83, renL, ren]
    have e1 : IntKind.i64.wrap (-IntKind.i64.wrap 0) = 0 := by rw [z0]; exact z0
    rw [e1, if_neg (by omega)]
    exact none
  · have hp : 0 < n := by omega
    have hz : ¬ n < 0 := by omega
    simp -dsimp [w83, renL, ren, e0, hp, hz]
    have e1 : IntKind.i64.wrap (n - IntKind.i64.wrap 0) = n := by rw [z0, Int.sub_zero]; exact e0
    rw [e1, if_pos hp, if_neg (by omega)]
    refine ⟨⟨h0, by omega⟩, by simp [capOk]; omega, ?_⟩
    have := hq (.own H.length 0 0 1) [.live (List.replicate n.toNat (V.int .u8 0))] ⟨rfl, by decide, .inr ⟨0, _, rfl, rfl, by simp, by simp [flat]⟩⟩
    have e2 : renOb (backK [] H.length) (.live (List.replicate n.toNat (V.int .u8 0))) = .live (List.replicate n.toNat (V.int .u8 0)) := by
      rw [renOb, renL_eq, List.map_replicate]; rfl
    simpa [renR, ren, renL, backH, crV, refs, refsL, setAll, e2, backK] using this
end Fz.D
set_option maxRecDepth 100000
namespace Fz.D
open Go
def tot (ls : List (List Int)) : Nat := (ls.map List.length).sum
theorem tot_take (ls : List (List Int)) (i : Nat) : tot (ls.take i) ≤ tot ls := by
  unfold tot
  conv => rhs; rw [← List.take_append_drop i ls]
  rw [List.map_append, List.sum_append]; omega
theorem tot_succ (ls : List (List Int)) (i : Nat) (h : i < ls.length) : tot (ls.take (i + 1)) = tot (ls.take i) + ls[i].length := by
  unfold tot
  rw [List.take_succ_eq_append_getElem h, List.map_append, List.sum_append]; simp
/-- All in turn. -/
def cat (ls : List (List Int)) : List Int := ls.flatten
theorem flat_tot (ls : List (List Int)) : (cat ls).length = tot ls := by
  unfold tot cat; rw [List.length_flatten]
theorem cat_succ (ls : List (List Int)) (i : Nat) (h : i < ls.length) : cat (ls.take (i + 1)) = cat (ls.take i) ++ ls[i] := by
  unfold cat; rw [List.take_succ_eq_append_getElem h, List.flatten_append]; simp
@[simp] theorem cat_nil : cat [] = [] := rfl
theorem concat_own {ls : List (List Int)} (ht : tot ls ≤ 100000000) (hl : ls.length ≤ 1000000) {Q : CR → List Ob → Prop} (hq : ∀ v J, Ac 1 1 J v ((cat ls).map (V.int .u8)) → Q (.ret v) (.live (ls.map byV) :: J)) :
    WFun p 33 [.own 0 0 ls.length 1] [.live (ls.map byV)] Q := by
  refine WFun_of w33 rfl rfl k33 ?_
  simp -dsimp [w33]
  refine xL_by (by kernel_rfl) (fun k e H => ∃ i : Nat, i ≤ ls.length ∧ k = ls.length - i ∧ e 0 = .own 0 0 ls.length 1 ∧ e 9 = .own 0 0 ls.length 1 ∧ e 10 = .int .i64 ls.length ∧ e 11 = .int .i64 i ∧ e 3 = .int .i64 (tot (ls.take i)) ∧ H = [.live (ls.map byV)]) ls.length ?_ ?_
  · exact ⟨0, by simp [tot]⟩
  · rintro k e H ⟨i, hi, hk, h0, h9, h10, h11, h3, rfl⟩
    have t1 := tot_take ls i
    simp -dsimp [h0, h9, h10, h11, h3]
    split
    · rename_i hlt
      have t2 := tot_succ ls i hlt
      have t3 := tot_take ls (i + 1)
      have d1 : List.take 1 (List.drop i (ls.map byV)) = [byV ls[i]] := by
        rw [List.drop_eq_getElem_cons (by simpa using hlt)]; simp
      have w1 : IntKind.i64.wrap (((tot (ls.take i) : Nat) : Int) + ((ls[i].length : Nat) : Int)) = ((tot (ls.take (i + 1)) : Nat) : Int) := by rw [Fz.w64 (by omega) (by omega)]; omega
      have w2 : IntKind.i64.wrap ((i : Int) + 1) = ((i + 1 : Nat) : Int) := by rw [Fz.w64 (by omega) (by omega)]; omega
      refine ⟨hlt, by omega, ?_⟩
      rw [d1]
      simp -dsimp [h0, h9, h10, h11, h3, w1, w2]
      refine ⟨ls.length - (i + 1), by omega, i + 1, by omega, rfl, ?_⟩
      simp -dsimp [h0, h9, h10]
    · rename_i hge
      have hii : i = ls.length := by omega
      subst hii
      rw [List.take_length] at h3 ⊢
      refine grow_b (by omega) (by omega) fun v J hac => ?_
      simp -dsimp [h0, h9, h10, h11, h3]
      refine xL_by (by kernel_rfl) (fun k e H => ∃ (i : Nat) (v : V) (J : List Ob), i ≤ ls.length ∧ k = ls.length - i ∧ e 25 = .own 0 0 ls.length 1 ∧ e 26 = .int .i64 ls.length ∧ e 27 = .int .i64 i ∧ e 6 = v ∧ Ac 1 1 J v ((cat (ls.take i)).map (V.int .u8)) ∧ H = .live (ls.map byV) :: J) ls.length ?_ ?_
      · exact ⟨0, v, J, by simp [h0]; exact hac⟩
      · rintro k e H ⟨i, v, J, hi, hk, h25, h26, h27, h6, hac, rfl⟩
        simp -dsimp [h25, h26, h27, h6]
        split
        · rename_i hlt
          have d1 : List.take 1 (List.drop i (ls.map byV)) = [byV ls[i]] := by
            rw [List.drop_eq_getElem_cons (by simpa using hlt)]; simp
          refine ⟨hlt, by omega, ?_⟩
          rw [d1]
          simp -dsimp [h25, h26, h27, h6]
          have t2 := tot_succ ls i hlt
          have t3 := tot_take ls (i + 1)
          have t4 : (cat (ls.take i)).length = tot (ls.take i) := flat_tot _
          have e1 := cat_succ ls i hlt
          refine app_ac 1 (m := ls[i].map (V.int .u8)) (by simpa using hac) (by simp) (by simp) (by simp) (by simp) (by simp [storable]) (by rw [List.length_map, List.length_map, t4]; simp [capOk]; omega) fun v' J' hac' => ?_
          have w2 : IntKind.i64.wrap ((i : Int) + 1) = ((i + 1 : Nat) : Int) := by rw [Fz.w64 (by omega) (by omega)]; omega
          simp -dsimp [h25, h26, h27, w2]
          refine ⟨ls.length - (i + 1), by omega, i + 1, v', J', by omega, rfl, ?_⟩
          simp -dsimp [h25, h26]
          rw [e1, List.map_append]
          exact hac'
        · rename_i hge
          have hii : i = ls.length := by omega
          subst hii
          rw [List.take_length] at hac
          exact hq _ _ hac
theorem concat_list {ls : List (List Int)} {c : Bool} (ht : tot ls ≤ 100000000) (hl : ls.length ≤ 1000000) {Q : CR → List Ob → Prop} (hq : ∀ v J, Ac 1 0 J v ((cat ls).map (V.int .u8)) → Q (.ret v) (J)) :
    WFun p 33 [.list (ls.map byV) c] [] Q := by
  refine WFun_of w33 rfl rfl k33 ?_
  simp -dsimp [w33]
  refine xL_by (by kernel_rfl) (fun k e H => ∃ i : Nat, i ≤ ls.length ∧ k = ls.length - i ∧ e 0 = .list (ls.map byV) c ∧ e 9 = .list (ls.map byV) c ∧ e 10 = .int .i64 ls.length ∧ e 11 = .int .i64 i ∧ e 3 = .int .i64 (tot (ls.take i)) ∧ H = []) ls.length ?_ ?_
  · exact ⟨0, by simp [tot]⟩
  · rintro k e H ⟨i, hi, hk, h0, h9, h10, h11, h3, rfl⟩
    have t1 := tot_take ls i
    simp -dsimp [h0, h9, h10, h11, h3]
    split
    · rename_i hlt
      have t2 := tot_succ ls i hlt
      have t3 := tot_take ls (i + 1)
      have w1 : IntKind.i64.wrap (((tot (ls.take i) : Nat) : Int) + ((ls[i].length : Nat) : Int)) = ((tot (ls.take (i + 1)) : Nat) : Int) := by rw [Fz.w64 (by omega) (by omega)]; omega
      have w2 : IntKind.i64.wrap ((i : Int) + 1) = ((i + 1 : Nat) : Int) := by rw [Fz.w64 (by omega) (by omega)]; omega
      have g : ls[i]?.getD default = ls[i] := by simp [hlt]
      refine ⟨hlt, ?_⟩
      rw [g, w1, if_neg (by omega)]
      refine ⟨ls.length - (i + 1), by omega, i + 1, by omega, rfl, ?_⟩
      simp -dsimp [h0, h9, h10]
      rw [w2]; omega
    · rename_i hge
      have hii : i = ls.length := by omega
      subst hii
      rw [List.take_length] at h3 ⊢
      refine grow_b (by omega) (by omega) fun v J hac => ?_
      simp -dsimp [h0, h9, h10, h11, h3]
      refine xL_by (by kernel_rfl) (fun k e H => ∃ (i : Nat) (v : V) (J : List Ob), i ≤ ls.length ∧ k = ls.length - i ∧ e 25 = .list (ls.map byV) c ∧ e 26 = .int .i64 ls.length ∧ e 27 = .int .i64 i ∧ e 6 = v ∧ Ac 1 0 J v ((cat (ls.take i)).map (V.int .u8)) ∧ H = J) ls.length ?_ ?_
      · exact ⟨0, v, J, by simp [h0]; exact hac⟩
      · rintro k e H ⟨i, v, J, hi, hk, h25, h26, h27, h6, hac, rfl⟩
        simp -dsimp [h25, h26, h27, h6]
        split
        · rename_i hlt
          have g : ls[i]?.getD default = ls[i] := by simp [hlt]
          refine ⟨hlt, ?_⟩
          rw [g]
          have t2 := tot_succ ls i hlt
          have t3 := tot_take ls (i + 1)
          have t4 : (cat (ls.take i)).length = tot (ls.take i) := flat_tot _
          have e1 := cat_succ ls i hlt
          refine app_ac 0 (m := ls[i].map (V.int .u8)) (by simpa using hac) (by simp) (by simp) (by simp) (by simp) (by simp [storable]) (by rw [List.length_map, List.length_map, t4]; simp [capOk]; omega) fun v' J' hac' => ?_
          have w2 : IntKind.i64.wrap ((i : Int) + 1) = ((i + 1 : Nat) : Int) := by rw [Fz.w64 (by omega) (by omega)]; omega
          simp -dsimp [h25, h26, h27, w2]
          refine ⟨ls.length - (i + 1), by omega, i + 1, v', J', by omega, rfl, ?_⟩
          simp -dsimp [h25, h26]
          rw [e1, List.map_append]
          exact hac'
        · rename_i hge
          have hii : i = ls.length := by omega
          subst hii
          rw [List.take_length] at hac
          exact hq _ _ hac
end Fz.D
set_option maxRecDepth 100000
namespace Fz.D
open Go
theorem refs_lists (ls : List (List Int)) : refsL (ls.map byV) = [] := by
  induction ls with
  | nil => rfl
  | cons a l ih => rw [List.map_cons, refsL, ih]; simp [byV, refs]
theorem ren_lists {g : Nat → Nat} (ls : List (List Int)) : renL g (ls.map byV) = ls.map byV := by
  induction ls with
  | nil => rfl
  | cons a l ih => rw [List.map_cons, renL, ih]; simp [byV, ren]
/-- What grew in a call, in the caller's heap. -/
theorem ac_back {b n : Nat} {g : Nat → Nat} {J : List Ob} {id len : Nat} {out : List Int} (hg : ∀ j, g (b + j) = n + j) (h : Ac 1 b J (.own id 0 len 1) (out.map (V.int .u8))) : Ac 1 n (J.map (renOb g)) (.own (g id) 0 len 1) (out.map (V.int .u8)) := by
  obtain ⟨h1, h2, h3⟩ := h
  refine ⟨h1, h2, ?_⟩
  rcases h3 with ⟨_, h3⟩ | ⟨j, cells, h3, h4, h5, h6⟩
  · cases h3
  · cases h3
    refine .inr ⟨j, renL g cells, by rw [hg], by rw [List.getElem?_map, h4]; rfl, by rw [renL_eq, List.length_map (f := ren g)]; exact h5, ?_⟩
    rw [renL_eq, ← List.map_take, h6, ← renL_eq, flat_int, ren_ints]
theorem ac_cases {n b : Nat} {J : List Ob} {v : V} {l : List V} (h : Ac n b J v l) : v = .list [] true ∧ l = [] ∨ ∃ j len, v = .own (b + j) 0 len n ∧ len = l.length := by
  obtain ⟨_, _, h3⟩ := h
  rcases h3 with ⟨h3, h4⟩ | ⟨j, cells, h3, _⟩
  · exact .inl ⟨h4, h3⟩
  · exact .inr ⟨j, _, h3, rfl⟩
theorem concat_call {H : List Ob} {id : Nat} {ls : List (List Int)} (hid : H[id]? = some (.live (ls.map byV))) (ht : tot ls ≤ 100000000) (hl : ls.length ≤ 1000000) {Q : CR → List Ob → Prop}
    (hq : ∀ v J, Ac 1 H.length J v ((cat ls).map (V.int .u8)) → Q (.ret v) (H ++ J)) : WCall p 33 [.own id 0 ls.length 1] H Q := by
  have hr : reach H 1000 (refsL [.own id 0 ls.length 1]) [] = some [id] := reach_one hid (refs_lists ls)
  refine WCall_inl (by kernel_rfl) hr ?_
  have e1 : renL (fun i => ([id] : List Nat).idxOf i) [.own id 0 ls.length 1] = [.own 0 0 ls.length 1] := by simp [renL, ren]
  have e2 : (([id] : List Nat).map fun i => renOb (fun i => ([id] : List Nat).idxOf i) (H[i]?.getD .dead)) = [.live (ls.map byV)] := by
    simp only [List.map_cons, List.map_nil, hid, Option.getD_some, renOb, ren_lists]
  rw [e1, e2]
  refine concat_own ht hl fun v J hac => ⟨by simp, ?_⟩
  have e3 : (refsOb (.live (ls.map byV))) = [] := refs_lists ls
  rcases ac_cases hac with ⟨rfl, h0⟩ | ⟨j, len, rfl, _⟩
  · have e4 : backH [id] (.ret (.list [] true)) (.live (ls.map byV) :: J) H = H := by
      unfold backH
      rw [if_neg (by simp [crV, refs, refsL, e3])]
      simp [setAll, renOb, ren_lists, set_same hid]
    rw [e4]
    have := hq (.list [] true) [] ⟨by rw [h0]; rfl, by decide, .inl ⟨h0, rfl⟩⟩
    simpa [renR, ren, renL] using this
  · have hg : ∀ j, backK [id] H.length (1 + j) = H.length + j := fun j => by rw [Nat.add_comm]; exact back_s
    have e4 : backH [id] (.ret (.own (1 + j) 0 len 1)) (.live (ls.map byV) :: J) H = H ++ J.map (renOb (backK [id] H.length)) := by
      unfold backH
      rw [if_pos (by simp [crV, refs])]
      simp [setAll, renOb, ren_lists, set_same hid]
    rw [e4]
    have := hq _ _ (ac_back hg hac)
    simpa [renR, ren] using this
end Fz.D
namespace Fz.D
open Go
theorem frz_ac {b : Nat} {H : List Ob} {v : V} {out : List Int} (ha : Ac 1 b (H.drop b) v (out.map (V.int .u8))) : xFrz 12 v H fun u _ => u = byV out := by
  obtain ⟨_, _, h3⟩ := ha
  rcases h3 with ⟨h3, rfl⟩ | ⟨j, cells, rfl, h4, h5, h6⟩
  · have : out = [] := by simpa using h3
    subst this
    simp -dsimp [byV]
  · rw [List.getElem?_drop] at h4
    rw [flat_int] at h6
    have h6' : List.take out.length cells = out.map (V.int .u8) := by simpa using h6
    simp -dsimp [wOb_at h4, byV]
    rw [h6']
    refine ⟨by simpa using h5, ?_⟩
    simp -dsimp [byV]
theorem numC_len : ∀ (k x : Nat), x < 2 ^ k → (numC x).length ≤ k
  | 0, x, h => by
    have : x = 0 := by simpa using h
    subst this; rw [numC_zero]; simp
  | k + 1, x, h => by
    by_cases h0 : x = 0
    · subst h0; rw [numC_zero]; simp
    · rw [numC_pos h0]
      have := numC_len k (x / 128) (by rw [Nat.pow_succ] at h; omega)
      simp; omega
theorem numB_len {x : Nat} (h : x < 18446744073709551616) : (numB x).length ≤ 65 := by
  unfold numB
  have := numC_len 64 (x / 128) (by have : (2 : Nat) ^ 64 = 18446744073709551616 := by decide
                                    omega)
  simp; omega
theorem text_s {b : List Int} (hb : b.length ≤ 10000000) : Comes p 34 [byV b] (byV (numB (zz b.length).toNat ++ b)) := by
  refine Comes_of w34 rfl rfl k34 ?_ ?_ ?_ ?_
  · simp
  · simp
  · simp
  · simp -dsimp [w34, wFix_by, isInl, call_by (num_s (n := b.length) (by unfold i64; omega))]
    have hz := zz_le (n := b.length) (by unfold i64; omega)
    have hl := numB_len (x := (zz b.length).toNat) (by omega)
    refine concat_call (ls := [numB (zz b.length).toNat, b]) rfl (by simp [tot]; omega) (by simp) fun v J hac => ?_
    simp -dsimp [wFix_by, isInl]
    have := frz_ac (b := 1) (H := [.live [byV (numB (zz b.length).toNat), byV b]] ++ J) (v := v) (out := numB (zz b.length).toNat ++ b) (by simpa [cat] using hac)
    exact this
end Fz.D
namespace Fz.D
open Go
theorem refText_s {b : List Int} (hb : b.length ≤ 10000000) : Comes p 46 [byV b] (byV (numB (zz b.length).toNat ++ b)) := by
  have hz := zz_le (n := b.length) (by unfold i64; omega)
  have hl := numB_len (x := (zz b.length).toNat) (by omega)
  have h0 : (numB (zz b.length).toNat).length ≠ 0 := by unfold numB; simp
  refine Comes_of w46 rfl rfl k46 ?_ ?_ ?_ ?_
  · simp
  · simp
  · simp
  · simp -dsimp [w46, wFix_by, isInl, call_by (refNum_s (n := b.length) (by unfold i64; omega))]
    have hne : numB (zz b.length).toNat ≠ [] := fun h => h0 (by rw [h]; rfl)
    rw [if_neg hne]
    refine ⟨by simp [capOk]; omega, ?_⟩
    split
    · rename_i hb0
      subst hb0
      simp [byV]
    · refine ⟨by simp [capOk]; omega, ?_⟩
      rw [← List.map_append, ← List.length_append, List.take_of_length_le (by simp)]
      simp -dsimp [byV]
      exact List.take_of_length_le (by simp)
end Fz.D
set_option maxRecDepth 100000
namespace Fz.D
open Go
def encN (n : Int) : List Int := numB (zz n).toNat
def encs (l : List Int) : List Int := cat (l.map encN)
theorem encN_len {n : Int} (h : i64 n) : (encN n).length ≤ 65 := by
  obtain ⟨h1, h2⟩ := zz_le h
  exact numB_len (by omega)
theorem encs_succ (l : List Int) (i : Nat) (h : i < l.length) : encs (l.take (i + 1)) = encs (l.take i) ++ encN l[i] := by
  unfold encs cat
  rw [List.take_succ_eq_append_getElem h, List.map_append, List.flatten_append]; simp
theorem encs_len {l : List Int} (h : ∀ n ∈ l, i64 n) : (encs l).length ≤ 65 * l.length := by
  induction l with
  | nil => simp [encs]
  | cons n l ih =>
    have h1 := encN_len (h n (by simp))
    have h2 := ih fun m hm => h m (by simp [hm])
    have : encs (n :: l) = encN n ++ encs l := by simp [encs, cat]
    rw [this, List.length_append, List.length_cons]; omega
theorem bit_s (b : Bool) (n : Int) : Comes p 40 [.bool b, .int .i64 n] (.int .i64 (if b then n else 0)) := by
  refine Comes_of w40 rfl rfl k40 ?_ ?_ ?_ ?_
  · simp
  · simp
  · simp
  · cases b <;> simp -dsimp [w40, wFix_by, isInl]
theorem flags_s (a b : Bool) : Comes p 48 [.bool a, .bool b] (.int .i64 ((if a then 1 else 0) + (if b then 2 else 0))) := by
  refine Comes_of w48 rfl rfl k48 ?_ ?_ ?_ ?_
  · simp
  · simp
  · simp
  · cases a <;> cases b <;> simp -dsimp [w48, wFix_by, isInl] <;> rfl
theorem nums_s {l : List Int} (h : ∀ n ∈ l, i64 n) (hl : l.length ≤ 1000000) : Comes p 39 [inV l] (byV (encs l)) := by
  refine Comes_of w39 rfl rfl k39 ?_ ?_ ?_ ?_
  · simp
  · simp
  · simp
  · simp -dsimp [w39, wFix_by, isInl]
    refine xL_by (by kernel_rfl) (fun k e H => ∃ (i : Nat) (v : V), i ≤ l.length ∧ k = l.length - i ∧ e 6 = inV l ∧ e 7 = .int .i64 l.length ∧ e 8 = .int .i64 i ∧ e 3 = v ∧ Acc 1 0 H v ((encs (l.take i)).map (V.int .u8))) l.length ?_ ?_
    · refine ⟨0, .list [] true, ?_⟩
      simp -dsimp [encs]
      exact acc_nil (by decide)
    · rintro k e H ⟨i, v, hi, hk, h6, h7, h8, h3, hac⟩
      simp -dsimp [h6, h7, h8, h3, wFix_by, isInl]
      split
      · rename_i hlt
        have g : l[i]?.getD default = l[i] := by simp [hlt]
        refine ⟨hlt, ?_⟩
        have hn := num_s (h l[i] (List.getElem_mem hlt))
        simp -dsimp [hlt, call_by hn, h3]
        have e1 := encs_succ l i hlt
        have t1 : (encs (l.take i)).length ≤ 65 * l.length := Nat.le_trans (encs_len fun m hm => h m (List.mem_of_mem_take hm)) (by rw [List.length_take]; omega)
        have t2 := encN_len (h l[i] (List.getElem_mem hlt))
        refine app_acc 0 (m := (encN l[i]).map (V.int .u8)) (by simpa using hac) (by simp) (by simp [encN]) (by simp [encN]) (by simp) (by simp [storable]) (by simp [capOk]; omega) fun v' J' hac' => ?_
        have w2 : IntKind.i64.wrap ((i : Int) + 1) = ((i + 1 : Nat) : Int) := by rw [Fz.w64 (by omega) (by omega)]; omega
        simp -dsimp [h6, h7, h8, w2]
        refine ⟨l.length - (i + 1), by omega, i + 1, v', by omega, rfl, ?_⟩
        simp -dsimp [h6, h7]
        rw [e1, List.map_append]
        exact hac'
      · have hii : i = l.length := by omega
        subst hii
        rw [List.take_length] at hac
        exact frz_ac (b := 0) (by simpa using ac_acc hac)
theorem refNums_s {l : List Int} (h : ∀ n ∈ l, i64 n) (hl : l.length ≤ 1000000) : Comes p 47 [inV l] (byV (encs l)) := by
  refine Comes_of w47 rfl rfl k47 ?_ ?_ ?_ ?_
  · simp
  · simp
  · simp
  · simp -dsimp [w47, wFix_by, isInl]
    refine xL_by (by kernel_rfl) (fun k e H => ∃ (i : Nat) (v : V), i ≤ l.length ∧ k = l.length - i ∧ e 0 = inV l ∧ e 4 = .int .i64 i ∧ e 3 = v ∧ Acc 1 0 H v ((encs (l.take i)).map (V.int .u8))) l.length ?_ ?_
    · refine ⟨0, .list [] true, ?_⟩
      simp -dsimp [encs]
      exact acc_nil (by decide)
    · rintro k e H ⟨i, v, hi, hk, h0, h4, h3, hac⟩
      simp -dsimp [h0, h4, h3, wFix_by, isInl]
      split
      · rename_i hlt
        have g : l[i]?.getD default = l[i] := by simp [hlt]
        refine ⟨hlt, ?_⟩
        have hn := refNum_s (h l[i] (List.getElem_mem hlt))
        simp -dsimp [hlt, call_by hn, h3, h0, h4]
        have e1 := encs_succ l i hlt
        have t1 : (encs (l.take i)).length ≤ 65 * l.length := Nat.le_trans (encs_len fun m hm => h m (List.mem_of_mem_take hm)) (by rw [List.length_take]; omega)
        have t2 := encN_len (h l[i] (List.getElem_mem hlt))
        refine app_acc 0 (m := (encN l[i]).map (V.int .u8)) (by simpa using hac) (by simp) (by simp [encN]) (by simp [encN]) (by simp) (by simp [storable]) (by simp [capOk]; omega) fun v' J' hac' => ?_
        have w2 : IntKind.i64.wrap ((i : Int) + 1) = ((i + 1 : Nat) : Int) := by rw [Fz.w64 (by omega) (by omega)]; omega
        simp -dsimp [h0, h4, w2]
        refine ⟨l.length - (i + 1), by omega, i + 1, v', by omega, rfl, ?_⟩
        simp -dsimp [h0]
        rw [e1, List.map_append]
        exact hac'
      · have hii : i = l.length := by omega
        subst hii
        rw [List.take_length] at hac
        exact frz_ac (b := 0) (by simpa using ac_acc hac)
end Fz.D
set_option maxRecDepth 100000
namespace Fz.D
open Go
theorem put1_s {n : Int} (h : i64 n) : Comes p 35 [.int .i64 n] (byV (encN n)) := by
  refine Comes_of w35 rfl rfl k35 ?_ ?_ ?_ ?_
  · simp
  · simp
  · simp
  · simp -dsimp [w35, wFix_by, isInl, call_by (num_s h), encN]
theorem listed_s {keep : Int} {l : List Int} (hk : i64 keep) (h : ∀ n ∈ l, i64 n) (hl : l.length ≤ 1000000) :
    Comes p 36 [.int .i64 keep, inV l, .fn (.func 35) [] []] (byV (encN keep ++ encN l.length ++ encs l)) := by
  have hn : i64 (l.length : Int) := by unfold i64; omega
  have k1 := encN_len hk
  have k2 := encN_len hn
  refine Comes_of w36 rfl rfl k36 ?_ ?_ ?_ ?_
  · simp
  · simp
  · simp
  · simp -dsimp [w36, wFix_by, isInl, call_by (num_s hk), call_by (num_s hn)]
    refine concat_call (ls := [encN keep, encN l.length]) rfl (by simp [tot]; omega) (by simp) fun v J hac => ?_
    simp -dsimp [wFix_by, isInl]
    refine xL_by (by kernel_rfl) (fun k e H => ∃ (i : Nat) (v : V) (J : List Ob), i ≤ l.length ∧ k = l.length - i ∧ e 2 = .fn (.func 35) [] [] ∧ e 17 = inV l ∧ e 18 = .int .i64 l.length ∧ e 19 = .int .i64 i ∧ e 7 = v ∧
      Ac 1 1 (H.drop 1) v ((encN keep ++ encN l.length ++ encs (l.take i)).map (V.int .u8)) ∧ 1 ≤ H.length) l.length ?_ ?_
    · refine ⟨0, v, J, ?_⟩
      simp -dsimp [encs]
      simpa [cat] using hac
    · rintro k e H ⟨i, v, J, hi, hk, h2, h17, h18, h19, h7, hac, hH⟩
      simp -dsimp [h2, h17, h18, h19, h7, wFix_by, isInl]
      split
      · rename_i hlt
        have hn := put1_s (h l[i] (List.getElem_mem hlt))
        refine ⟨hlt, ?_⟩
        simp -dsimp [hlt, call_by hn, h7]
        have e1 := encs_succ l i hlt
        have t1 : (encs (l.take i)).length ≤ 65 * l.length := Nat.le_trans (encs_len fun m hm => h m (List.mem_of_mem_take hm)) (by rw [List.length_take]; omega)
        have t2 := encN_len (h l[i] (List.getElem_mem hlt))
        refine app_ac 1 (m := (encN l[i]).map (V.int .u8)) hac hH (by simp) (by simp) (by simp) (by simp [storable]) (by simp [capOk]; omega) fun v' J' hac' => ?_
        have w2 : IntKind.i64.wrap ((i : Int) + 1) = ((i + 1 : Nat) : Int) := by rw [Fz.w64 (by omega) (by omega)]; omega
        simp -dsimp [h2, h17, h18, h19, w2]
        refine ⟨l.length - (i + 1), by omega, i + 1, v', J', by omega, rfl, ?_⟩
        have e3 : (H.take 1 ++ J').tail = J' := by
          cases H with
          | nil => simp at hH
          | cons a H => rfl
        simp -dsimp [h2, h17, h18, e3]
        refine ⟨?_, by omega⟩
        rw [e1]
        simpa using hac'
      · have hii : i = l.length := by omega
        subst hii
        rw [List.take_length] at hac
        exact frz_ac (b := 1) (by simpa [List.append_assoc] using hac)
end Fz.D
namespace Fz.D
open Go
theorem bit01 (b : Bool) : i64 (if b then 1 else 0) := by cases b <;> simp [i64]
theorem put2_s {s : Slo} (h : i64 s.v) : Comes p 38 [sloV s] (byV (encs [s.v, if s.call then 1 else 0])) := by
  have hl : ∀ n ∈ [s.v, if s.call then 1 else 0], i64 n := by
    intro n hn
    simp only [List.mem_cons, List.not_mem_nil, or_false] at hn
    rcases hn with rfl | rfl
    · exact h
    · exact bit01 _
  have hn := nums_s hl (by simp)
  refine Comes_of w38 rfl rfl k38 ?_ ?_ ?_ ?_
  · simp
  · simp
  · simp
  · simp -dsimp [w38, wFix_by, isInl, quiet_by (bit_s s.call 1)]
    have q : ∀ (H : List Ob) (K : V → Prop), xQuiet p 39 [.list [.int .i64 s.v, .int .i64 (if s.call = true then 1 else 0)] true] H K = K (byV (encs [s.v, if s.call = true then 1 else 0])) :=
      fun H K => quiet_nrm (a := [inV [s.v, if s.call = true then 1 else 0]]) rfl (by simp) (by simp [inV, nrm, nrmL_eq]) hn
    simp -dsimp [fillV, splice, cellsOf, isAny, wOpt, chunk, leafy, q, wFix_by, isInl]
theorem put4_s {s : Spo} (h : i64 s.addr) (h' : i64 s.at_) : Comes p 44 [spoV s] (byV (encs [s.addr, s.at_])) := by
  have hl : ∀ n ∈ [s.addr, s.at_], i64 n := by
    intro n hn
    simp only [List.mem_cons, List.not_mem_nil, or_false] at hn
    rcases hn with rfl | rfl
    · exact h
    · exact h'
  have hn := nums_s hl (by simp)
  refine Comes_of w44 rfl rfl k44 ?_ ?_ ?_ ?_
  · simp
  · simp
  · simp
  · simp -dsimp [w44, wFix_by, isInl]
    refine call_frz rfl ?_
    simp -dsimp [wFix_by, isInl]
    rw [show (V.list [V.int .i64 s.addr, V.int .i64 s.at_] false) = inV [s.addr, s.at_] from rfl, callN_by hn]
    simp -dsimp [wFix_by, isInl]
end Fz.D
namespace Fz.D
open Go
theorem concat_call_list {H : List Ob} {ls : List (List Int)} {c : Bool} (ht : tot ls ≤ 100000000) (hl : ls.length ≤ 1000000) {Q : CR → List Ob → Prop}
    (hq : ∀ v J, Ac 1 H.length J v ((cat ls).map (V.int .u8)) → Q (.ret v) (H ++ J)) : WCall p 33 [.list (ls.map byV) c] H Q := by
  have e0 : refsL [.list (ls.map byV) c] = [] := by rw [refsL, refs, refs_lists]; rfl
  have hr : reach H 1000 (refsL [.list (ls.map byV) c]) [] = some [] := by rw [e0]; rfl
  refine WCall_inl (by kernel_rfl) hr ?_
  have e1 : renL (fun i => ([] : List Nat).idxOf i) [.list (ls.map byV) c] = [.list (ls.map byV) c] := by simp [renL, ren, ren_lists]
  rw [e1]
  refine concat_list ht hl fun v J hac => ⟨by simp, ?_⟩
  rcases ac_cases hac with ⟨rfl, h0⟩ | ⟨j, len, rfl, _⟩
  · have e4 : backH [] (.ret (.list [] true)) J H = H := by
      unfold backH
      rw [if_neg (by simp [crV, refs, refsL])]
      simp [setAll]
    rw [e4]
    have := hq (.list [] true) [] ⟨by rw [h0]; rfl, by decide, .inl ⟨h0, rfl⟩⟩
    simpa [renR, ren, renL] using this
  · have hg : ∀ j, backK [] H.length (0 + j) = H.length + j := fun j => by simp [backK]
    have e4 : backH [] (.ret (.own (0 + j) 0 len 1)) J H = H ++ J.map (renOb (backK [] H.length)) := by
      unfold backH
      rw [if_pos (by simp [crV, refs])]
      simp [setAll]
    rw [e4]
    have := hq _ _ (ac_back hg hac)
    simpa [renR, ren] using this
end Fz.D
set_option maxRecDepth 100000
namespace Fz.D
open Go
def nmB (s : ByteArray) : List Int := s.data.toList.map fun b => (b.toNat : Int)
theorem nmB_V (s : ByteArray) : (s.data.toList.map fun b => V.int .u8 b.toNat) = (nmB s).map (V.int .u8) := by simp [nmB]
def txt (b : List Int) : List Int := encN b.length ++ b
def flg (a b : Bool) : Int := (if a then 1 else 0) + (if b then 2 else 0)
theorem put3_s {s : Wor} (h : i64 s.code) (hl : (nmB s.name).length ≤ 10000000) : Comes p 42 [worV s] (byV (txt (nmB s.name) ++ encs [s.code, flg s.now s.hid])) := by
  have hn : ∀ n ∈ [s.code, flg s.now s.hid], i64 n := by
    intro n hn
    simp only [List.mem_cons, List.not_mem_nil, or_false] at hn
    rcases hn with rfl | rfl
    · exact h
    · unfold flg i64; cases s.now <;> cases s.hid <;> simp
  have hns := nums_s hn (by simp)
  have ht := text_s hl
  have q : ∀ (H : List Ob) (K : V → Prop), xQuiet p 39 [.list [.int .i64 s.code, .int .i64 (flg s.now s.hid)] true] H K = K (byV (encs [s.code, flg s.now s.hid])) :=
    fun H K => quiet_nrm (a := [inV [s.code, flg s.now s.hid]]) rfl (by simp) (by simp [inV, nrm, nrmL_eq]) hns
  have w : IntKind.i64.wrap ((if s.now = true then 1 else 0) + (if s.hid = true then 2 else 0)) = flg s.now s.hid := by unfold flg; cases s.now <;> cases s.hid <;> rfl
  refine Comes_of w42 rfl rfl k42 ?_ ?_ ?_ ?_
  · simp
  · simp
  · simp
  · simp -dsimp [w42, wFix_by, isInl, quiet_by (bit_s s.now 1), quiet_by (bit_s s.hid 2), nmB_V]
    rw [show (V.list ((nmB s.name).map (V.int .u8)) false) = byV (nmB s.name) from rfl, quiet_by ht]
    simp -dsimp [wFix_by, isInl, quiet_by (bit_s s.now 1), quiet_by (bit_s s.hid 2), w]
    simp -dsimp [fillV, splice, wOpt, chunk, q, wFix_by, isInl]
    have b1 := encN_len (n := (nmB s.name).length) (by unfold i64; omega)
    have b2 := encs_len hn
    refine concat_call_list (ls := [txt (nmB s.name), encs [s.code, flg s.now s.hid]]) (by simp [tot, txt] at b2 ⊢; omega) (by simp) fun v J hac => ?_
    simp -dsimp [wFix_by, isInl]
    exact frz_ac (b := 1) (H := [.live (cellsOf (worV s))] ++ J) (v := v) (out := txt (nmB s.name) ++ encs [s.code, flg s.now s.hid]) (by simpa [cat] using hac)
end Fz.D
set_option maxRecDepth 100000
namespace Fz.D
open Go
theorem ac_ext {n b : Nat} {J : List Ob} {v : V} {l : List V} (h : Ac n b J v l) (G : List Ob) : Ac n b (J ++ G) v l := by
  obtain ⟨h1, h2, h3⟩ := h
  refine ⟨h1, h2, ?_⟩
  rcases h3 with h3 | ⟨j, cells, h3, h4, h5, h6⟩
  · exact .inl h3
  · exact .inr ⟨j, cells, h3, by rw [List.getElem?_append_left (List.getElem?_eq_some_iff.1 h4).1]; exact h4, h5, h6⟩
def encL {α : Type} (f : α → List Int) (l : List α) : List Int := cat (l.map f)
theorem encL_succ {α : Type} (f : α → List Int) (l : List α) (i : Nat) (h : i < l.length) : encL f (l.take (i + 1)) = encL f (l.take i) ++ f l[i] := by
  unfold encL cat
  rw [List.take_succ_eq_append_getElem h, List.map_append, List.flatten_append]; simp
theorem encL_len {α : Type} {f : α → List Int} {k : Nat} : ∀ {l : List α}, (∀ a ∈ l, (f a).length ≤ k) → (encL f l).length ≤ k * l.length
  | [], _ => by simp [encL]
  | a :: l, h => by
    have h1 := h a (by simp)
    have h2 := encL_len (f := f) (k := k) (l := l) fun m hm => h m (by simp [hm])
    have : encL f (a :: l) = f a ++ encL f l := by simp [encL, cat]
    rw [this, List.length_append, List.length_cons, Nat.mul_succ]; omega
def encSlo (s : Slo) : List Int := encs [s.v, if s.call then 1 else 0]
theorem encSlo_len {s : Slo} (h : i64 s.v) : (encSlo s).length ≤ 130 := by
  refine encs_len fun n hn => ?_
  simp only [List.mem_cons, List.not_mem_nil, or_false] at hn
  rcases hn with rfl | rfl
  · exact h
  · exact bit01 _
theorem listedSlo_s {keep : Int} {l : List Slo} (hk : i64 keep) (h : ∀ s ∈ l, i64 s.v) (hl : l.length ≤ 100000) :
    Comes p 37 [.int .i64 keep, slosV l, .fn (.func 38) [] []] (byV (encN keep ++ encN l.length ++ encL encSlo l)) := by
  have hn : i64 (l.length : Int) := by unfold i64; omega
  have k1 := encN_len hk
  have k2 := encN_len hn
  refine Comes_of w37 rfl rfl k37 ?_ ?_ ?_ ?_
  · simp
  · simp
  · simp
  · simp -dsimp [w37, wFix_by, isInl, call_by (num_s hk), call_by (num_s hn)]
    refine concat_call (ls := [encN keep, encN l.length]) rfl (by simp [tot]; omega) (by simp) fun v J hac => ?_
    simp -dsimp [wFix_by, isInl]
    refine xL_by (by kernel_rfl) (fun k e H => ∃ (i : Nat) (v : V), i ≤ l.length ∧ k = l.length - i ∧ e 2 = .fn (.func 38) [] [] ∧ e 17 = slosV l ∧ e 18 = .int .i64 l.length ∧ e 19 = .int .i64 i ∧ e 7 = v ∧
      Ac 1 1 (H.drop 1) v ((encN keep ++ encN l.length ++ encL encSlo (l.take i)).map (V.int .u8)) ∧ 1 ≤ H.length) l.length ?_ ?_
    · refine ⟨0, v, ?_⟩
      simp -dsimp [encL]
      simpa [cat] using hac
    · rintro k e H ⟨i, v, hi, hk, h2, h17, h18, h19, h7, hac, hH⟩
      simp -dsimp [h2, h17, h18, h19, h7, wFix_by, isInl]
      split
      · rename_i hlt
        have hn := put2_s (h l[i] (List.getElem_mem hlt))
        have g : l[i]?.getD default = l[i] := by simp [hlt]
        have e1 := encL_succ encSlo l i hlt
        have t1 : (encL encSlo (l.take i)).length ≤ 130 * l.length := Nat.le_trans (encL_len (k := 130) fun a ha => encSlo_len (h a (List.mem_of_mem_take ha))) (by rw [List.length_take]; omega)
        have t2 := encSlo_len (h l[i] (List.getElem_mem hlt))
        have w2 : IntKind.i64.wrap ((i : Int) + 1) = ((i + 1 : Nat) : Int) := by rw [Fz.w64 (by omega) (by omega)]; omega
        refine ⟨hlt, ?_⟩
        rw [g, show (V.agg [V.int .i64 l[i].v, V.bool l[i].call]) = sloV l[i] from rfl, call_by hn]
        simp -dsimp [h2, h17, h18, h19, h7]
        refine app_ac 1 (m := (encSlo l[i]).map (V.int .u8)) (v := v) (l := (encN keep ++ encN l.length ++ encL encSlo (l.take i)).map (V.int .u8)) (by
          rw [List.drop_append_of_le_length hH]; exact ac_ext hac _) (by simp) (by simp [encSlo]) (by simp [encSlo]) (by simp) (by simp [storable]) (by simp [capOk]; omega) fun v' J' hac' => ?_
        simp -dsimp [h2, h17, h18, h19, w2]
        refine ⟨l.length - (i + 1), by omega, i + 1, v', by omega, rfl, ?_⟩
        simp -dsimp [h2, h17, h18]
        rw [e1]
        simpa using hac'
      · have hii : i = l.length := by omega
        subst hii
        rw [List.take_length] at hac
        exact frz_ac (b := 1) (by simpa [List.append_assoc] using hac)
def encSpo (s : Spo) : List Int := encs [s.addr, s.at_]
theorem encSpo_len {s : Spo} (h : i64 s.addr ∧ i64 s.at_) : (encSpo s).length ≤ 130 := by
  refine encs_len fun n hn => ?_
  simp only [List.mem_cons, List.not_mem_nil, or_false] at hn
  rcases hn with rfl | rfl
  · exact h.1
  · exact h.2
theorem listedSpo_s {keep : Int} {l : List Spo} (hk : i64 keep) (h : ∀ s ∈ l, i64 s.addr ∧ i64 s.at_) (hl : l.length ≤ 100000) :
    Comes p 43 [.int .i64 keep, sposV l, .fn (.func 44) [] []] (byV (encN keep ++ encN l.length ++ encL encSpo l)) := by
  have hn : i64 (l.length : Int) := by unfold i64; omega
  have k1 := encN_len hk
  have k2 := encN_len hn
  refine Comes_of w43 rfl rfl k43 ?_ ?_ ?_ ?_
  · simp
  · simp
  · simp
  · simp -dsimp [w43, wFix_by, isInl, call_by (num_s hk), call_by (num_s hn)]
    refine concat_call (ls := [encN keep, encN l.length]) rfl (by simp [tot]; omega) (by simp) fun v J hac => ?_
    simp -dsimp [wFix_by, isInl]
    refine xL_by (by kernel_rfl) (fun k e H => ∃ (i : Nat) (v : V), i ≤ l.length ∧ k = l.length - i ∧ e 2 = .fn (.func 44) [] [] ∧ e 17 = sposV l ∧ e 18 = .int .i64 l.length ∧ e 19 = .int .i64 i ∧ e 7 = v ∧
      Ac 1 1 (H.drop 1) v ((encN keep ++ encN l.length ++ encL encSpo (l.take i)).map (V.int .u8)) ∧ 1 ≤ H.length) l.length ?_ ?_
    · refine ⟨0, v, ?_⟩
      simp -dsimp [encL]
      simpa [cat] using hac
    · rintro k e H ⟨i, v, hi, hk, h2, h17, h18, h19, h7, hac, hH⟩
      simp -dsimp [h2, h17, h18, h19, h7, wFix_by, isInl]
      split
      · rename_i hlt
        have hn := put4_s (h l[i] (List.getElem_mem hlt)).1 (h l[i] (List.getElem_mem hlt)).2
        have g : l[i]?.getD default = l[i] := by simp [hlt]
        have e1 := encL_succ encSpo l i hlt
        have t1 : (encL encSpo (l.take i)).length ≤ 130 * l.length := Nat.le_trans (encL_len (k := 130) fun a ha => encSpo_len (h a (List.mem_of_mem_take ha))) (by rw [List.length_take]; omega)
        have t2 := encSpo_len (h l[i] (List.getElem_mem hlt))
        have w2 : IntKind.i64.wrap ((i : Int) + 1) = ((i + 1 : Nat) : Int) := by rw [Fz.w64 (by omega) (by omega)]; omega
        refine ⟨hlt, ?_⟩
        rw [g, show (V.agg [V.int .i64 l[i].addr, V.int .i64 l[i].at_]) = spoV l[i] from rfl, call_by hn]
        simp -dsimp [h2, h17, h18, h19, h7]
        refine app_ac 1 (m := (encSpo l[i]).map (V.int .u8)) (v := v) (l := (encN keep ++ encN l.length ++ encL encSpo (l.take i)).map (V.int .u8)) (by
          rw [List.drop_append_of_le_length hH]; exact ac_ext hac _) (by simp) (by simp [encSpo]) (by simp [encSpo]) (by simp) (by simp [storable]) (by simp [capOk]; omega) fun v' J' hac' => ?_
        simp -dsimp [h2, h17, h18, h19, w2]
        refine ⟨l.length - (i + 1), by omega, i + 1, v', by omega, rfl, ?_⟩
        simp -dsimp [h2, h17, h18]
        rw [e1]
        simpa using hac'
      · have hii : i = l.length := by omega
        subst hii
        rw [List.take_length] at hac
        exact frz_ac (b := 1) (by simpa [List.append_assoc] using hac)
def encWor (s : Wor) : List Int := txt (nmB s.name) ++ encs [s.code, flg s.now s.hid]
theorem encWor_len {s : Wor} (h : i64 s.code ∧ (nmB s.name).length ≤ 1000) : (encWor s).length ≤ 1200 := by
  have h1 := encN_len (n := (nmB s.name).length) (by unfold i64; omega)
  have h2 : (encs [s.code, flg s.now s.hid]).length ≤ 65 * 2 := encs_len fun n hn => by
    simp only [List.mem_cons, List.not_mem_nil, or_false] at hn
    rcases hn with rfl | rfl
    · exact h.1
    · unfold flg i64; cases s.now <;> cases s.hid <;> simp
  unfold encWor txt
  rw [List.length_append, List.length_append]
  omega
theorem listedWor_s {keep : Int} {l : List Wor} (hk : i64 keep) (h : ∀ s ∈ l, i64 s.code ∧ (nmB s.name).length ≤ 1000) (hl : l.length ≤ 100000) :
    Comes p 41 [.int .i64 keep, worsV l, .fn (.func 42) [] []] (byV (encN keep ++ encN l.length ++ encL encWor l)) := by
  have hn : i64 (l.length : Int) := by unfold i64; omega
  have k1 := encN_len hk
  have k2 := encN_len hn
  refine Comes_of w41 rfl rfl k41 ?_ ?_ ?_ ?_
  · simp
  · simp
  · simp
  · simp -dsimp [w41, wFix_by, isInl, call_by (num_s hk), call_by (num_s hn)]
    refine concat_call (ls := [encN keep, encN l.length]) rfl (by simp [tot]; omega) (by simp) fun v J hac => ?_
    simp -dsimp [wFix_by, isInl]
    refine xL_by (by kernel_rfl) (fun k e H => ∃ (i : Nat) (v : V), i ≤ l.length ∧ k = l.length - i ∧ e 2 = .fn (.func 42) [] [] ∧ e 17 = worsV l ∧ e 18 = .int .i64 l.length ∧ e 19 = .int .i64 i ∧ e 7 = v ∧
      Ac 1 1 (H.drop 1) v ((encN keep ++ encN l.length ++ encL encWor (l.take i)).map (V.int .u8)) ∧ 1 ≤ H.length) l.length ?_ ?_
    · refine ⟨0, v, ?_⟩
      simp -dsimp [encL]
      simpa [cat] using hac
    · rintro k e H ⟨i, v, hi, hk, h2, h17, h18, h19, h7, hac, hH⟩
      simp -dsimp [h2, h17, h18, h19, h7, wFix_by, isInl]
      split
      · rename_i hlt
        have hn := put3_s (h l[i] (List.getElem_mem hlt)).1 (Nat.le_trans (h l[i] (List.getElem_mem hlt)).2 (by omega))
        have g : l[i]?.getD default = l[i] := by simp [hlt]
        have e1 := encL_succ encWor l i hlt
        have t1 : (encL encWor (l.take i)).length ≤ 1200 * l.length := Nat.le_trans (encL_len (k := 1200) fun a ha => encWor_len (h a (List.mem_of_mem_take ha))) (by rw [List.length_take]; omega)
        have t2 := encWor_len (h l[i] (List.getElem_mem hlt))
        have w2 : IntKind.i64.wrap ((i : Int) + 1) = ((i + 1 : Nat) : Int) := by rw [Fz.w64 (by omega) (by omega)]; omega
        refine ⟨hlt, ?_⟩
        rw [g, show (V.agg [V.str l[i].name, V.int .i64 l[i].code, V.bool l[i].now, V.bool l[i].hid]) = worV l[i] from rfl, call_by hn]
        simp -dsimp [h2, h17, h18, h19, h7]
        refine app_ac 1 (m := (encWor l[i]).map (V.int .u8)) (v := v) (l := (encN keep ++ encN l.length ++ encL encWor (l.take i)).map (V.int .u8)) (by
          rw [List.drop_append_of_le_length hH]; exact ac_ext hac _) (by simp) (by simp [encWor]) (by simp [encWor]) (by simp) (by simp [storable]) (by simp [capOk]; omega) fun v' J' hac' => ?_
        simp -dsimp [h2, h17, h18, h19, w2]
        refine ⟨l.length - (i + 1), by omega, i + 1, v', by omega, rfl, ?_⟩
        simp -dsimp [h2, h17, h18]
        rw [e1]
        simpa using hac'
      · have hii : i = l.length := by omega
        subst hii
        rw [List.take_length] at hac
        exact frz_ac (b := 1) (by simpa [List.append_assoc] using hac)
end Fz.D
namespace Fz
open Go

/-- What there was is as it was, or made to stay. -/
def Sees (H H' : List Ob) : Prop := ∀ i : Nat, match H[i]? with
  | some (.live l) => H'[i]? = some (.live l) ∨ H'[i]? = some (.fixed l)
  | some .dead => True
  | some o => H'[i]? = some o
  | none => True
theorem Sees.refl (H : List Ob) : Sees H H := by
  intro i
  cases h : H[i]? with
  | none => trivial
  | some o => cases o <;> simp
theorem Sees.trans {A B C : List Ob} (h : Sees A B) (g : Sees B C) : Sees A C := by
  intro i
  have h1 := h i
  have h2 := g i
  cases ho : A[i]? with
  | none => trivial
  | some o =>
    rw [ho] at h1
    cases o with
    | live l =>
      rcases h1 with h1 | h1
      · rw [h1] at h2; exact h2
      · rw [h1] at h2; exact .inr h2
    | dead => trivial
    | _ => rw [show B[i]? = _ from h1] at h2; exact h2
theorem Sees.app (H G : List Ob) : Sees H (H ++ G) := by
  intro i
  cases ho : H[i]? with
  | none => trivial
  | some o =>
    have : (H ++ G)[i]? = some o := by rw [List.getElem?_append_left (List.getElem?_eq_some_iff.1 ho).1]; exact ho
    cases o <;> simp [this]
theorem Sees.set {H : List Ob} {i : Nat} {l : List V} (h : H[i]? = some (.live l)) : Sees H (H.set i (.fixed l)) := by
  intro j
  rw [List.getElem?_set]
  by_cases e : i = j
  · subst e
    rw [h, if_pos rfl, if_pos (List.getElem?_eq_some_iff.1 h).1]
    exact .inr rfl
  · rw [if_neg e]
    cases ho : H[j]? with
    | none => trivial
    | some o => cases o <;> simp

theorem peek_see {H : List Ob} {n : Nat} {v : V} {l : List V} {H' : List Ob} (G : Sees H H') (h : peek H n v = some l) : peek (H') n v = some l := by
  cases v with
  | ref x => exact h
  | ptr id off =>
    simp only [peek] at h ⊢
    cases ho : H[id]? with
    | none => rw [ho] at h; cases h
    | some o =>
      have hs := G id
      rw [ho] at h hs
      cases o with
      | live x => rcases hs with hs | hs <;> (rw [hs]; exact h)
      | fixed x => rw [show H'[id]? = _ from hs]; exact h
      | _ => cases h
  | _ => cases h
theorem elems_see {H : List Ob} {n : Nat} {v : V} {l : List V × Nat} {H' : List Ob} (G : Sees H H') (h : elems H n v = some l) : elems (H') n v = some l := by
  cases v with
  | own id off len m =>
    simp only [elems] at h ⊢
    split at h
    · rename_i hm
      rw [if_pos hm]
      obtain ⟨x, hx, hh⟩ := Option.map_eq_some_iff.1 h
      rw [peek_see G hx, Option.map_some, hh]
    · cases h
  | _ => exact h
theorem lend_see {H : List Ob} {H' : List Ob} (G : Sees H H') : ∀ (k : Nat) (v v' : V), lendV H k v = some v' → lendV (H') k v = some v' := by
  intro k
  induction k with
  | zero => intro v v' h; cases h
  | succ k ih =>
    have hm : ∀ (l x : List V), mapOpt (lendV H k) l = some x → mapOpt (lendV (H') k) l = some x := by
      intro l
      induction l with
      | nil => intro x h; exact h
      | cons v l ihl =>
        intro x h
        simp only [mapOpt] at h ⊢
        split at h <;> cases h
        rename_i a b ha hb
        rw [ih _ _ ha, ihl _ hb]
    intro v v' h
    cases v with
    | own id off len n =>
      simp only [lendV] at h ⊢
      split at h
      · cases h
      · rename_i hn
        rw [if_neg hn]
        split at h
        · rename_i l hl
          rw [peek_see G hl]
          dsimp only
          split at h
          · rename_i x hx; rw [hm _ _ hx]; exact h
          · cases h
        · cases h
    | agg l =>
      simp only [lendV] at h ⊢
      obtain ⟨x, hx, hh⟩ := Option.map_eq_some_iff.1 h
      rw [hm _ _ hx, Option.map_some, hh]
    | tuple l =>
      simp only [lendV] at h ⊢
      obtain ⟨x, hx, hh⟩ := Option.map_eq_some_iff.1 h
      rw [hm _ _ hx, Option.map_some, hh]
    | _ => exact h
theorem lends_see {H : List Ob} {H' : List Ob} (G : Sees H H') (k : Nat) : ∀ (l x : List V), mapOpt (lendV H k) l = some x → mapOpt (lendV (H') k) l = some x := by
  intro l
  induction l with
  | nil => intro x h; exact h
  | cons v l ihl =>
    intro x h
    simp only [mapOpt] at h ⊢
    split at h <;> cases h
    rename_i a b ha hb
    rw [lend_see G _ _ _ ha, ihl _ hb]

theorem mapOf_see {H : List Ob} {H' : List Ob} (G : Sees H H') {m : V} {x : List V × List V} (h : mapOf H m = some x) : mapOf (H') m = some x := by
  unfold mapOf at h ⊢
  split at h <;> try (cases h; done)
  · exact h
  · exact h
  · rename_i id
    split at h <;> cases h
    rename_i ho
    have hs := G id
    rw [ho] at hs
    rw [show H'[id]? = _ from hs]
theorem rd_see {H : List Ob} {H' : List Ob} (G : Sees H H') {k : RK} {l : List V} {v : V} (h : rdV H k l = some v) : rdV (H') k l = some v := by
  unfold rdV at h ⊢
  split at h
  · rename_i kk z ok m k
    cases hm : mapOf H m with
    | none => rw [hm] at h; cases h
    | some x => rw [hm] at h; rw [mapOf_see G hm]; exact h
  · cases h
theorem evOp_see {ρ : Opd → V} {op : AOp} (hp : pureOp op = true) {H : List Ob} {H' : List Ob} (G : Sees H H') {v : V} {H1 : List Ob} (h : evOp ρ H op = some (.val v H1)) :
    ∃ H2, evOp ρ (H') op = some (.val v H2) := by
  by_cases hf : heapFree op = true
  · exact ⟨_, evOp_free hf H (H') h⟩
  · cases op with
    | rd k l =>
      simp only [evOp, ans] at h ⊢
      obtain ⟨u, hu, h⟩ := Option.map_eq_some_iff.1 h
      rw [rd_see G hu]; cases h; exact ⟨_, rfl⟩
    | load agg n x =>
      simp only [evOp] at h ⊢
      cases hl : peek H n (ρ x) with
      | none => rw [hl] at h; cases h
      | some l =>
        rw [hl] at h
        rw [peek_see G hl]
        dsimp only at h ⊢
        split at h
        · rename_i ha; cases h; exact ⟨_, if_pos ha⟩
        · rename_i ha
          rw [if_neg ha]
          split at h
          · cases h; exact ⟨_, rfl⟩
          · cases h
    | conv k x =>
      cases k with
      | b2s =>
        simp only [evOp] at h ⊢
        cases hx : ρ x with
        | list l c =>
          rw [hx] at h
          dsimp only at h ⊢
          obtain ⟨q, hq, h⟩ := Option.bind_eq_some_iff.1 h
          rw [elems_see G hq, Option.bind_some]
          split at h <;> cases h
          rename_i hc
          exact ⟨_, if_pos hc⟩
        | own a b c d =>
          rw [hx] at h
          dsimp only at h ⊢
          obtain ⟨q, hq, h⟩ := Option.bind_eq_some_iff.1 h
          rw [elems_see G hq, Option.bind_some]
          split at h <;> cases h
          rename_i hc
          exact ⟨_, if_pos hc⟩
        | _ => rw [hx] at h; cases h
      | _ => exact absurd rfl hf
    | slice k x lo hi mx =>
      cases k with
      | arr alen n =>
        simp only [evOp, ans] at h ⊢
        obtain ⟨u, hu, hh⟩ := Option.map_eq_some_iff.1 h
        refine ⟨H', ?_⟩
        have : sliceV (H') (.arr alen n) (ρ x) (lo.map ρ) (hi.map ρ) (mx.map ρ) = some u := by
          unfold sliceV at hu ⊢
          split at hu
          · cases hu
          · rename_i hc
            rw [if_neg hc]
            cases hx : ρ x with
            | ptr id off =>
              rw [hx] at hu
              dsimp only at hu ⊢
              split at hu
              · rename_i h1 h2 h3 h4
                rw [h1, h2, h3, peek_see G h4]
                exact hu
              · cases hu
            | _ => rw [hx] at hu; cases hu
        rw [this]
        cases hh
        rfl
      | _ => exact absurd rfl hf
    | _ => first | (exact absurd rfl hf) | (cases hp)

theorem quiet_see {call : CallT} {inl : FuncId → Bool} {e : Env} {o : AO} {H : List Ob} {H' : List Ob} (G : Sees H H') {v : V} (h : quietOp call inl e H o = some v) :
    quietOp call inl e (H') o = some v := by
  have go : ∀ (hh : (match evOp (evO e) H o.op with
    | some (.val v _) => if pureOp o.op then some v else none
    | some (.call k args) => match mapOpt (lendV H depthF) args with
      | some l => if groundL l then (match doCall call inl k l [] with
        | some (.ret v, []) => if ground v && (listFree v || groundL args) then some v else none
        | _ => none) else none
      | none => none
    | _ => none) = some v), (match evOp (evO e) (H') o.op with
    | some (.val v _) => if pureOp o.op then some v else none
    | some (.call k args) => match mapOpt (lendV (H') depthF) args with
      | some l => if groundL l then (match doCall call inl k l [] with
        | some (.ret v, []) => if ground v && (listFree v || groundL args) then some v else none
        | _ => none) else none
      | none => none
    | _ => none) = some v := by
    intro hh
    cases hv : evOp (evO e) H o.op with
    | none => rw [hv] at hh; cases hh
    | some q =>
      cases q with
      | val u H1 =>
        rw [hv] at hh
        dsimp only at hh
        have hp : pureOp o.op = true := by
          split at hh
          · assumption
          · cases hh
        obtain ⟨H2, h2⟩ := evOp_see hp G hv
        rw [h2]
        exact hh
      | skip _ => rw [hv] at hh; cases hh
      | panic _ _ => rw [hv] at hh; cases hh
      | call k args =>
        have hc : evOp (evO e) (H') o.op = some (.call k args) := by
          generalize o.op = op at hv
          cases op with
          | call f l => exact hv
          | callv f l => exact hv
          | conv kk x =>
            exfalso
            cases kk with
            | b2s =>
              simp only [evOp] at hv
              split at hv
              · obtain ⟨a, _, hv⟩ := Option.bind_eq_some_iff.1 hv
                split at hv <;> cases hv
              · obtain ⟨a, _, hv⟩ := Option.bind_eq_some_iff.1 hv
                split at hv <;> cases hv
              · cases hv
            | _ =>
              simp only [evOp] at hv
              first
              | (cases hv; done)
              | (split at hv <;> cases hv)
          | append n b z s x =>
            exfalso
            simp only [evOp] at hv
            repeat' split at hv
            all_goals cases hv
          | mem k l =>
            exfalso
            simp only [evOp] at hv
            exact memV_nocall hv
          | _ =>
            exfalso
            simp only [evOp, ans] at hv
            repeat' split at hv
            all_goals first | (cases hv; done) | (obtain ⟨_, _, hv⟩ := Option.map_eq_some_iff.1 hv; cases hv)
        rw [hc]
        rw [hv] at hh
        dsimp only at hh ⊢
        split at hh
        · rename_i l hl
          rw [lends_see G _ _ _ hl]
          exact hh
        · cases hh
  unfold quietOp at h ⊢
  dsimp only at h ⊢
  cases hg : o.guard with
  | none => rw [hg] at h; exact go h
  | some tw =>
    rw [hg] at h
    obtain ⟨t', w⟩ := tw
    dsimp only at h ⊢
    cases he : e t' with
    | bool b =>
      simp only [he] at h ⊢
      by_cases hb : b = w
      · simp only [hb, if_true] at h ⊢; exact go h
      · simp only [hb, if_false] at h ⊢; exact h
    | tuple l =>
      simp only [he] at h ⊢
      cases l with
      | nil => exact h
      | cons _ _ => cases h
    | _ => simp only [he] at h; cases h

def wExt (p : AP) (Q : X → Env → List Ob → Prop) (H0 : List Ob) : List AO → Env → List Ob → Prop
  | [], e, H => Q .normal e H
  | o :: r, e, H => if o.eff = true then
      wGuard e o.guard (wAct p e H (fun v H' => Sees H0 H' ∧ wExt p Q H0 r (putE e o.dst v) H') (fun _ _ => False) o.op) (wExt p Q H0 r (putE e o.dst uv) H)
    else wGuard e o.guard (wQ p e H0 (fun v => wExt p Q H0 r (putE e o.dst v) H) o.op) (wExt p Q H0 r (putE e o.dst uv) H)

/-- What each operation that leaves the heap alone reads in the first heap. -/
def AtH (call : CallT) (inl : FuncId → Bool) (H0 : List Ob) : List AO → List (Env × Nat × V) → Prop
  | [], [] => True
  | o :: r, (e, _, v) :: t => (o.eff = true ∨ quietOp call inl e H0 o = some v) ∧ AtH call inl H0 r t
  | _, _ => False
theorem AtH_mono {f g : CallT} (h : LeC f g) {inl : FuncId → Bool} {H0 : List Ob} : ∀ {r : List AO} {t : List (Env × Nat × V)}, AtH f inl H0 r t → AtH g inl H0 r t
  | [], [], _ => trivial
  | o :: r, (e, k, v) :: t, ⟨h1, h2⟩ => ⟨h1.imp id (quietOp_mono h inl e H0 o v), AtH_mono h h2⟩
  | [], _ :: _, h => h.elim
  | _ :: _, [], h => h.elim
theorem AtH_steady {call : CallT} {inl : FuncId → Bool} {ops : List AO} {an : List (List Nat)} {H0 : List Ob} {hs : List (List Ob)} (hx : ∀ G ∈ hs, Sees H0 G) : ∀ (r : List AO) (s : Nat) (t : List (Env × Nat × V)), AtH call inl H0 r t → steadyAll call inl ops an hs (r.zipIdx s) t = true
  | [], s, [], _ => rfl
  | o :: r, s, (e, k, v) :: t, ⟨h1, h2⟩ => by
    rw [List.zipIdx_cons]
    unfold steadyAll
    rw [Bool.and_eq_true]
    refine ⟨?_, AtH_steady hx r (s + 1) t h2⟩
    rw [Bool.or_eq_true]
    refine h1.imp id fun hq => ?_
    have : ∀ l : List (List Ob), (∀ G ∈ l, Sees H0 G) → steady call inl e v o l = true := by
      intro l
      induction l with
      | nil => intro _; rfl
      | cons H' l ihl =>
        intro hl'
        have J := hl' H' (List.mem_cons_self ..)
        unfold steady
        rw [quiet_see J hq, Bool.and_eq_true]
        exact ⟨veq_refl v, ihl fun G hG => hl' G (List.mem_cons_of_mem _ hG)⟩
    exact this _ fun G hG => hx G (List.mem_of_mem_drop (List.mem_of_mem_take hG))
  | [], _, _ :: _, h => h.elim
  | _ :: _, _, [], h => h.elim

theorem wExt_trace {p : AP} {Q : X → Env → List Ob → Prop} {H0 : List Ob} (ops : List AO) : ∀ (e : Env) (H : List Ob) (hs : List (List Ob)), wExt p Q H0 ops e H → hs.getLast? = some H → (Sees H0 H) → (∀ G ∈ hs, Sees H0 G) →
    ∃ n t hs' e' H', trace (acall p n) p.inlY ops e hs = some (t, hs', e') ∧ hs'.getLast? = some H' ∧ (∀ G ∈ hs', Sees H0 G) ∧ AtH (acall p n) p.inlY H0 ops t ∧ Q .normal e' H' := by
  induction ops with
  | nil => intro e H hs h hl hJ ha; exact ⟨0, _, _, _, H, rfl, hl, ha, trivial, h⟩
  | cons o r ih =>
    intro e H hs h hl hJ ha
    unfold wExt at h
    unfold trace
    rw [hl]
    dsimp only
    have ha' : ∀ H', (Sees H0 H') → ∀ G ∈ hs ++ [H'], Sees H0 G := by
      intro H' hH' G hG
      rcases List.mem_append.1 hG with h | h
      · exact ha G h
      · rw [List.mem_singleton.1 h]; exact hH'
    by_cases he : o.eff = true
    · rw [if_pos he] at h
      simp only [if_pos he]
      rcases wEff_ok h with ⟨n, v, H1, h1, hG, h2⟩ | ⟨h1, h2⟩
      · have hJ' : Sees H0 H1 := hG
        obtain ⟨m, t, hs', e', H2, h3, h4, h5, h6, h7⟩ := ih _ _ (hs ++ [H1]) h2 (by simp) hJ' (ha' _ hJ')
        refine ⟨max n m, (e, hs.length - 1, v) :: t, hs', e', H2, ?_, h4, h5, ⟨.inl he, AtH_mono (acall_le p (Nat.le_max_right n m)) h6⟩, h7⟩
        rw [effOp_mono (acall_le p (Nat.le_max_left n m)) _ _ _ _ _ h1]
        dsimp only
        rw [trace_mono (acall_le p (Nat.le_max_right n m)) _ _ _ _ _ h3]
        rfl
      · obtain ⟨m, t, hs', e', H2, h3, h4, h5, h6, h7⟩ := ih _ _ (hs ++ [H]) h2 (by simp) hJ (ha' _ hJ)
        refine ⟨m, (e, hs.length - 1, uv) :: t, hs', e', H2, ?_, h4, h5, ⟨.inl he, h6⟩, h7⟩
        rw [h1]
        dsimp only
        rw [h3]
        rfl
    · rw [if_neg he] at h
      simp only [if_neg he]
      rcases wQuiet_ok h with ⟨n, v, h1, h2⟩ | ⟨h1, h2⟩
      · obtain ⟨m, t, hs', e', H2, h3, h4, h5, h6, h7⟩ := ih _ _ hs h2 hl hJ ha
        refine ⟨max n m, (e, hs.length - 1, v) :: t, hs', e', H2, ?_, h4, h5, ⟨.inr (quietOp_mono (acall_le p (Nat.le_max_left n m)) _ _ _ _ _ h1), AtH_mono (acall_le p (Nat.le_max_right n m)) h6⟩, h7⟩
        rw [quiet_see hJ (quietOp_mono (acall_le p (Nat.le_max_left n m)) _ _ _ _ _ h1)]
        dsimp only
        rw [trace_mono (acall_le p (Nat.le_max_right n m)) _ _ _ _ _ h3]
        rfl
      · obtain ⟨m, t, hs', e', H2, h3, h4, h5, h6, h7⟩ := ih _ _ hs h2 hl hJ ha
        refine ⟨m, (e, hs.length - 1, uv) :: t, hs', e', H2, ?_, h4, h5, ⟨.inr (h1 m), h6⟩, h7⟩
        rw [quiet_see hJ (h1 m)]
        dsimp only
        rw [h3]
        rfl

theorem WDraw_see {p : AP} {ops : List AO} (hc : okDraw ops = true) {e : Env} {H R : List Ob} {Q : X → Env → List Ob → Prop} (hR : Sees R H) (h : wExt p Q R ops e H) : WDraw p ops e H Q := by
  obtain ⟨n, t, hs', e', H', h1, h2, h3, h4, h5⟩ := wExt_trace ops e H [H] h rfl hR (fun G hG => by rw [List.mem_singleton.1 hG]; exact hR)
  refine ⟨n, .normal, e', H', ?_, h5⟩
  unfold runDraw
  rw [h1]
  dsimp only
  rw [hc, AtH_steady h3 ops 0 t h4, h2]
  rfl

theorem WDraw_ext {p : AP} {ops : List AO} (hc : okDraw ops = true) {e : Env} {H : List Ob} {Q : X → Env → List Ob → Prop} (h : wExt p Q H ops e H) : WDraw p ops e H Q := WDraw_see hc (Sees.refl H) h

section
variable {p : AP} {Q : X → Env → List Ob → Prop} {e : Env} {H H0 : List Ob}
@[simp ↓] theorem wExt_nil : wExt p Q H0 [] e H = Q .normal e H := (rfl)
@[simp ↓] theorem wExt_eff {d : Option Nat} {op : AOp} {af : List Nat} {r : List AO} :
    wExt p Q H0 (⟨d, op, none, af, true⟩ :: r) e H = wAct p e H (fun v H' => Sees H0 H' ∧ wVal v fun v => wExt p Q H0 r (putE e d v) H') (fun _ _ => False) op := (rfl)
@[simp ↓] theorem wExt_effG {d : Option Nat} {op : AOp} {t : Nat} {w : Bool} {af : List Nat} {r : List AO} :
    wExt p Q H0 (⟨d, op, some (t, w), af, true⟩ :: r) e H = wGuardV (e t) w (wAct p e H (fun v H' => Sees H0 H' ∧ wVal v fun v => wExt p Q H0 r (putE e d v) H') (fun _ _ => False) op) (wExt p Q H0 r (putE e d uv) H) := (rfl)
@[simp ↓] theorem wExt_q {d : Option Nat} {op : AOp} {af : List Nat} {r : List AO} :
    wExt p Q H0 (⟨d, op, none, af, false⟩ :: r) e H = wQ p e H0 (fun v => wVal v fun v => wExt p Q H0 r (putE e d v) H) op := (rfl)
@[simp ↓] theorem wExt_qG {d : Option Nat} {op : AOp} {t : Nat} {w : Bool} {af : List Nat} {r : List AO} :
    wExt p Q H0 (⟨d, op, some (t, w), af, false⟩ :: r) e H = wGuardV (e t) w (wQ p e H0 (fun v => wVal v fun v => wExt p Q H0 r (putE e d v) H) op) (wExt p Q H0 r (putE e d uv) H) := (rfl)
/-- One object. -/
def see1 : Ob → Ob → Prop
  | .live l, o => o = .live l ∨ o = .fixed l
  | .dead, _ => True
  | x, o => o = x
@[simp] theorem see1_live {l m : List V} : see1 (.live l) (.live m) = (m = l) := by simp [see1]
@[simp] theorem see1_lf {l m : List V} : see1 (.live l) (.fixed m) = (m = l) := by simp [see1]
@[simp] theorem see1_dead {o : Ob} : see1 .dead o = True := (rfl)
@[simp] theorem see1_fixed {l m : List V} : see1 (.fixed l) (.fixed m) = (m = l) := by simp [see1]
@[simp] theorem sees_nil {H : List Ob} : Sees [] H = True := eq_true fun i => by simp
@[simp] theorem sees_cons {o o' : Ob} {R H : List Ob} : Sees (o :: R) (o' :: H) = (see1 o o' ∧ Sees R H) := by
  refine propext ⟨fun h => ⟨?_, fun i => ?_⟩, fun h i => ?_⟩
  · have := h 0
    cases o <;> simpa [see1] using this
  · have := h (i + 1)
    simpa only [List.getElem?_cons_succ] using this
  · cases i with
    | zero => have := h.1; cases o <;> simpa [see1] using this
    | succ i => have := h.2 i; simpa only [List.getElem?_cons_succ] using this
@[simp] theorem sees_self {H : List Ob} : Sees H H = True := eq_true (Sees.refl H)
@[simp] theorem sees_app {H G : List Ob} : Sees H (H ++ G) = True := eq_true (Sees.app H G)
end
end Fz
set_option maxRecDepth 100000
namespace Fz.D
open Go
def encRun (r : Rn) : List Int := encN r.at_ ++ txt r.b
/-- A delta as bytes. -/
def encD (d : De) : List Int := encN d.mem.length ++ encL encRun d.mem ++ (encN d.dk ++ encN d.dt.length ++ encs d.dt) ++ (encN d.rk ++ encN d.rt.length ++ encL encSlo d.rt) ++ (encN d.ck ++ encN d.ct.length ++ encs d.ct) ++
  (encN d.wk ++ encN d.wt.length ++ encL encWor d.wt) ++ (encN d.sk ++ encN d.st.length ++ encL encSpo d.st) ++ encs [d.out] ++ encs [d.r0, d.r1, d.r2, d.r3, d.r4, d.r5] ++ encs [flg d.comp d.halt]
structure DeOk (d : De) : Prop where
  mem : ∀ r ∈ d.mem, i64 r.at_ ∧ r.b.length ≤ 10000
  meml : d.mem.length ≤ 1000
  dk : i64 d.dk
  dt : ∀ n ∈ d.dt, i64 n
  dtl : d.dt.length ≤ 1000
  rk : i64 d.rk
  rt : ∀ s ∈ d.rt, i64 s.v
  rtl : d.rt.length ≤ 1000
  ck : i64 d.ck
  ct : ∀ n ∈ d.ct, i64 n
  ctl : d.ct.length ≤ 1000
  wk : i64 d.wk
  wt : ∀ s ∈ d.wt, i64 s.code ∧ (nmB s.name).length ≤ 1000
  wtl : d.wt.length ≤ 1000
  sk : i64 d.sk
  st : ∀ s ∈ d.st, i64 s.addr ∧ i64 s.at_
  stl : d.st.length ≤ 1000
  out : i64 d.out
  regs : ∀ n ∈ [d.r0, d.r1, d.r2, d.r3, d.r4, d.r5], i64 n
theorem encRun_len {r : Rn} (h : i64 r.at_ ∧ r.b.length ≤ 10000) : (encRun r).length ≤ 10200 := by
  have h1 := encN_len h.1
  have h2 := encN_len (n := r.b.length) (by unfold i64; omega)
  unfold encRun txt
  rw [List.length_append, List.length_append]; omega
theorem encN_ne (n : Int) : encN n ≠ [] := by unfold encN numB; simp
/-- Made to stay where it stands. -/
theorem fix_ac (b : Nat) {H : List Ob} {v : V} {out : List Int} {K : V → List Ob → Prop} (ha : Ac 1 b (H.drop b) v (out.map (V.int .u8))) (hne : out ≠ [])
    (hK : ∀ H', H'.take b = H.take b → H'.length = H.length → K (byV out) H') : xFixV v H K := by
  show wFixV v H K
  obtain ⟨h1, h2, h3⟩ := ha
  rcases h3 with ⟨h3, rfl⟩ | ⟨j, cells, rfl, h4, h5, h6⟩
  · exact absurd (by simpa using h3) hne
  · rw [List.getElem?_drop] at h4
    refine ⟨byV out, H.set (b + j) (.fixed cells), ?_, hK _ (by rw [List.take_set_of_le (by omega)]) (by simp)⟩
    have e1 : (cells.drop 0).take ((out.map (V.int .u8)).length * 1) = out.map (V.int .u8) := by rw [List.drop_zero, h6, flat_int]
    rw [show depthF = 11 + 1 from rfl, freezeV, h4]
    dsimp only
    rw [if_pos ⟨by omega, h2⟩, e1, gks_freeze (by simp)]
    dsimp only
    have e2 : (out.map (V.int .u8)).all leafy = true := by simp
    rw [if_pos (.inr e2), chunk_one]
    simp [byV]
theorem flg_i (a b : Bool) : i64 (flg a b) := by unfold flg i64; cases a <;> cases b <;> simp
theorem flg_w (a b : Bool) : IntKind.i64.wrap ((if a = true then 1 else 0) + (if b = true then 2 else 0)) = flg a b := by unfold flg; cases a <;> cases b <;> rfl
end Fz.D
set_option maxRecDepth 100000
namespace Fz.D
open Go
theorem take_cons {H : List Ob} {x : Ob} {A : List Ob} {n : Nat} (h : H.take (n + 1) = (x :: A).take (n + 1)) : ∃ T, H = x :: T := by
  cases H with
  | nil => simp at h
  | cons y T => simp at h; exact ⟨T, by rw [h.1]⟩
theorem quiet_nums {l : List Int} {c : Bool} (h : ∀ n ∈ l, i64 n) (hl : l.length ≤ 1000000) (H : List Ob) (K : V → Prop) : xQuiet p 39 [.list (l.map (V.int .i64)) c] H K = K (byV (encs l)) :=
  quiet_nrm (a := [inV l]) rfl (by simp) (by simp [inV, nrm, nrmL_eq]) (nums_s h hl)
theorem put_s {d : De} (h : DeOk d) : Comes p 14 [deV d] (byV (encD d)) := by
  have hn : i64 (d.mem.length : Int) := by have := h.meml; unfold i64; omega
  have hm := h.meml
  have b0 := encN_len hn
  refine Comes_of w14 rfl rfl k14 ?_ ?_ ?_ ?_
  · simp
  · simp
  · simp
  · simp -dsimp [w14, wFix_by, isInl, call_by (num_s hn)]
    refine xL_by (by kernel_rfl) (fun k e H => ∃ (i : Nat) (T : List Ob), i ≤ d.mem.length ∧ k = d.mem.length - i ∧ e 1 = .ptr 0 0 ∧ e 12 = runsV d.mem ∧ e 13 = .int .i64 d.mem.length ∧ e 14 = .int .i64 i ∧ e 3 = byV (encN d.mem.length ++ encL encRun (d.mem.take i)) ∧ H = .live (cellsOf (deV d)) :: T) d.mem.length ?_ ?_
    · refine ⟨0, [], ?_⟩
      simp -dsimp [encL, encN]
    · rintro k e H ⟨i, T, hi, hk, h1, h12, h13, h14, h3, rfl⟩
      have t1 : (encL encRun (d.mem.take i)).length ≤ 10200 * 1000 := Nat.le_trans (encL_len (k := 10200) fun a ha => encRun_len (h.mem a (List.mem_of_mem_take ha))) (Nat.mul_le_mul_left _ (by rw [List.length_take]; omega))
      by_cases hlt : i < d.mem.length
      · have g : d.mem[i]?.getD default = d.mem[i] := by simp [hlt]
        have hr := h.mem d.mem[i] (List.getElem_mem hlt)
        have e1 := encL_succ encRun d.mem i hlt
        have t2 := encRun_len hr
        have w2 : IntKind.i64.wrap ((i : Int) + 1) = ((i + 1 : Nat) : Int) := by rw [Fz.w64 (by omega) (by omega)]; omega
        simp -dsimp [h1, h12, h13, h14, h3, wFix_by, isInl, hlt, quiet_by (num_s hr.1), quiet_by (text_s (b := d.mem[i].b) (by omega)), fillV, splice, wOpt, chunk]
        refine concat_call_list (ls := [encN d.mem.length ++ encL encRun (d.mem.take i), encN d.mem[i].at_, txt d.mem[i].b]) (by simp [tot, encRun, txt] at t2 ⊢; omega) (by simp) fun v J hac => ?_
        simp -dsimp [h1, h12, h13, h14, h3, wFix_by, isInl]
        refine fix_ac (T.length + 2) (out := encN d.mem.length ++ encL encRun (d.mem.take i) ++ encRun d.mem[i]) (by simpa [cat, encRun] using hac) (by simp [encN_ne]) fun H' hH _ => ?_
        obtain ⟨T', rfl⟩ := take_cons (n := T.length + 1) hH
        simp -dsimp [h1, h12, h13, h14, h3, w2]
        refine ⟨d.mem.length - (i + 1), by omega, i + 1, T', by omega, rfl, ?_⟩
        simp -dsimp [h1, h12, h13, e1, encRun, txt, encN]
      · have hii : i = d.mem.length := by omega
        subst hii
        rw [List.take_length] at h3 t1
        simp -dsimp [h1, h12, h13, h14, h3, wFix_by, isInl]
        refine WDraw_ext (by kernel_rfl) ?_
        have hr := h.regs
        have q1 := quiet_nums (l := [d.out]) (c := true) (fun n hn => by simp at hn; rw [hn]; exact h.out) (by simp)
        have q2 := quiet_nums (l := [flg d.comp d.halt]) (c := true) (fun n hn => by simp at hn; rw [hn]; exact flg_i _ _) (by simp)
        simp only [List.map_cons, List.map_nil] at q1 q2
        have c1 := listed_s h.dk h.dt (by have := h.dtl; omega)
        have c2 := listedSlo_s h.rk h.rt (by have := h.rtl; omega)
        have c3 := listed_s h.ck h.ct (by have := h.ctl; omega)
        have c4 := listedWor_s h.wk h.wt (by have := h.wtl; omega)
        have c5 := listedSpo_s h.sk h.st (by have := h.stl; omega)
        have c6 := nums_s hr (by simp)
        simp -dsimp [h1, h12, h13, h14, h3, wFix_by, isInl, call_by c1, call_by c2, call_by c3, call_by c4, call_by c5, fillV, splice, wOpt, chunk, q1]
        refine call_frz rfl ?_
        simp -dsimp [wFix_by, isInl]
        have c6 := c6
        simp only [inV, List.map_cons, List.map_nil] at c6
        rw [callN_by c6]
        simp only [wRet_ret]
        refine ⟨Sees.set rfl, ?_⟩
        simp -dsimp [h1, h12, h13, h14, h3, wFix_by, isInl, quiet_by (bit_s d.comp 1), quiet_by (bit_s d.halt 2), flg_w, fillV, splice, wOpt, chunk, q2]
        have l1 := encN_len h.dk
        have l2 := encN_len h.rk
        have l3 := encN_len h.ck
        have l4 := encN_len h.wk
        have l5 := encN_len h.sk
        have n1 := encN_len (n := d.dt.length) (by have := h.dtl; unfold i64; omega)
        have n2 := encN_len (n := d.rt.length) (by have := h.rtl; unfold i64; omega)
        have n3 := encN_len (n := d.ct.length) (by have := h.ctl; unfold i64; omega)
        have n4 := encN_len (n := d.wt.length) (by have := h.wtl; unfold i64; omega)
        have n5 := encN_len (n := d.st.length) (by have := h.stl; unfold i64; omega)
        have m1 : (encs d.dt).length ≤ 65 * 1000 := Nat.le_trans (encs_len h.dt) (Nat.mul_le_mul_left _ h.dtl)
        have m2 : (encL encSlo d.rt).length ≤ 130 * 1000 := Nat.le_trans (encL_len (k := 130) fun a ha => encSlo_len (h.rt a ha)) (Nat.mul_le_mul_left _ h.rtl)
        have m3 : (encs d.ct).length ≤ 65 * 1000 := Nat.le_trans (encs_len h.ct) (Nat.mul_le_mul_left _ h.ctl)
        have m4 : (encL encWor d.wt).length ≤ 1200 * 1000 := Nat.le_trans (encL_len (k := 1200) fun a ha => encWor_len (h.wt a ha)) (Nat.mul_le_mul_left _ h.wtl)
        have m5 : (encL encSpo d.st).length ≤ 130 * 1000 := Nat.le_trans (encL_len (k := 130) fun a ha => encSpo_len (h.st a ha)) (Nat.mul_le_mul_left _ h.stl)
        have o1 : (encs [d.out]).length ≤ 65 * 1 := encs_len fun n hn => by simp at hn; rw [hn]; exact h.out
        have o2 : (encs [d.r0, d.r1, d.r2, d.r3, d.r4, d.r5]).length ≤ 65 * 6 := encs_len hr
        have o3 : (encs [flg d.comp d.halt]).length ≤ 65 * 1 := encs_len fun n hn => by simp at hn; rw [hn]; exact flg_i _ _
        refine concat_call_list (ls := [encN d.mem.length ++ encL encRun d.mem, encN d.dk ++ (encN d.dt.length ++ encs d.dt), encN d.rk ++ (encN d.rt.length ++ encL encSlo d.rt), encN d.ck ++ (encN d.ct.length ++ encs d.ct),
          encN d.wk ++ (encN d.wt.length ++ encL encWor d.wt), encN d.sk ++ (encN d.st.length ++ encL encSpo d.st), encs [d.out], encs [d.r0, d.r1, d.r2, d.r3, d.r4, d.r5], encs [flg d.comp d.halt]]) (by simp [tot]; omega) (by simp) fun v J hac => ?_
        simp only [wRet_ret]
        refine ⟨(Sees.set (i := 0) rfl).trans (Sees.app _ _), ?_⟩
        simp -dsimp [wFix_by, isInl]
        refine frz_ac (b := T.length + 1) ?_
        rw [List.drop_succ_cons, List.drop_left]
        simpa [cat, encD, List.append_assoc] using hac
end Fz.D
set_option maxRecDepth 100000
namespace Fz.D
open Go
theorem refNumE {n : Int} (h : i64 n) : Comes p 45 [.int .i64 n] (byV (encN n)) := refNum_s h
theorem refTextE {b : List Int} (hb : b.length ≤ 10000000) : Comes p 46 [byV b] (byV (txt b)) := refText_s hb
theorem nums_own {H : List Ob} {a : Int} {l : List Int} {k : Nat} (hk : k = (a :: l).length) (h : ∀ n ∈ a :: l, i64 n) (hl : l.length ≤ 100000) {Q : CR → List Ob → Prop} (hq : Q (.ret (byV (encs (a :: l)))) (H ++ [.fixed ((a :: l).map (V.int .i64))])) :
    xCall p 47 [.own H.length 0 k 1] (H ++ [.live ((a :: l).map (V.int .i64))]) Q := by
  subst hk
  refine call_frz rfl ?_
  simp -dsimp
  have c := refNums_s h (by simp; omega)
  unfold inV at c
  rw [List.map_cons] at c
  rw [callN_by c]
  simpa using hq
theorem app_b2 {T : List Ob} {x y : Ob} {v : V} {out m : List Int} {k : Nat} {K : V → List Ob → Prop} (ha : Ac 1 1 T v (out.map (V.int .u8))) (hk : k = m.length) (hc : out.length + m.length ≤ 100000000)
    (hK : ∀ v' T' G, T'.length = T.length → Ac 1 1 (T' ++ y :: G) v' ((out ++ m).map (V.int .u8)) → K v' (x :: (T' ++ y :: G))) : xAppend (x :: (T ++ [y])) 1 1 v (m.map (V.int .u8)) k K := by
  subst hk
  have hcap : capOk (out.length + m.length) 1 = true := by simp [capOk]; omega
  by_cases h0 : m = []
  · subst h0
    have hk := hK v T [] rfl (by simpa using ac_ext ha [y])
    obtain ⟨h1, h2, h3⟩ := ha
    rcases h3 with ⟨h3, rfl⟩ | ⟨j, cells, rfl, h4, h5, h6⟩
    · rw [wAppend_list, if_pos (by rfl)]; exact hk
    · rw [wAppend_own, if_pos (by rfl)]; exact ⟨rfl, hk⟩
  · have hl : m.length ≠ 0 := fun h => h0 (List.length_eq_zero_iff.1 h)
    obtain ⟨h1, h2, h3⟩ := ha
    rcases h3 with ⟨h3, rfl⟩ | ⟨j, cells, rfl, h4, h5, h6⟩
    · have h3 : out = [] := by simpa using h3
      subst h3
      rw [wAppend_list, if_neg hl]
      refine ⟨⟨rfl, rfl, by simp, by simpa using hcap⟩, ?_⟩
      have hk := hK (.own (1 + (T.length + 1)) 0 m.length 1) T [.live (m.map (V.int .u8))] rfl ⟨by simp, by decide, .inr ⟨T.length + 1, m.map (V.int .u8), by simp, by simp, by simp, by simp⟩⟩
      show K _ _
      simpa [Nat.add_comm, Nat.add_left_comm, Nat.add_assoc] using hk
    · rw [wAppend_own, if_neg hl]
      refine ⟨rfl, ?_⟩
      have hj := (List.getElem?_eq_some_iff.1 h4).1
      refine ⟨cells, by rw [Nat.add_comm, List.getElem?_cons_succ, List.getElem?_append_left hj]; exact h4, ⟨rfl, h5, by simp [storable], by simpa using hcap⟩, ?_⟩
      show K _ _
      have hk := hK (.own (1 + (T.length + 1)) 0 (out.length + m.length) 1) (T.set j .dead) [.live ((out ++ m).map (V.int .u8))] (by simp) ⟨by simp, by decide, .inr ⟨T.length + 1, (out ++ m).map (V.int .u8), by simp, by simp, by simp, by rw [List.length_map, Nat.mul_one, flat_int]; exact List.take_of_length_le (by simp)⟩⟩
      rw [h6, flat_int, ← List.map_append, Nat.add_comm 1 j, List.set_cons_succ, List.set_append_left _ _ hj]
      simpa [Nat.add_comm, Nat.add_left_comm, Nat.add_assoc] using hk
/-- A list's bytes behind what there is. -/
theorem app_b {T : List Ob} {x : Ob} {v : V} {out m : List Int} {k : Nat} {K : V → List Ob → Prop} (ha : Ac 1 1 T v (out.map (V.int .u8))) (hk : k = m.length) (hc : out.length + m.length ≤ 100000000)
    (hK : ∀ v' J', Ac 1 1 J' v' ((out ++ m).map (V.int .u8)) → K v' (x :: J')) : xAppend (x :: T) 1 1 v (m.map (V.int .u8)) k K := by
  refine app_ac 1 (m := m.map (V.int .u8)) (l := out.map (V.int .u8)) ha (by simp) (by simp) (by simp [hk]) (by simp) (by simp [storable]) (by simp [capOk]; omega) fun v' J' h => ?_
  rw [← List.map_append] at h
  exact hK v' J' h
theorem quiet_rnums {l : List Int} {c : Bool} (h : ∀ n ∈ l, i64 n) (hl : l.length ≤ 1000000) (H : List Ob) (K : V → Prop) : xQuiet p 47 [.list (l.map (V.int .i64)) c] H K = K (byV (encs l)) :=
  quiet_nrm (a := [inV l]) rfl (by simp) (by simp [inV, nrm, nrmL_eq]) (refNums_s h hl)
theorem two_i {a b : Int} (ha : i64 a) (hb : i64 b) : ∀ n ∈ [a, b], i64 n := by
  intro n hn
  simp only [List.mem_cons, List.not_mem_nil, or_false] at hn
  rcases hn with rfl | rfl
  · exact ha
  · exact hb
theorem one_i {a : Int} (ha : i64 a) : ∀ n ∈ [a], i64 n := by
  intro n hn
  simp only [List.mem_cons, List.not_mem_nil, or_false] at hn
  rw [hn]; exact ha
theorem refPut_s {d : De} (h : DeOk d) : Comes p 15 [deV d] (byV (encD d)) := by
  have hn : i64 (d.mem.length : Int) := by have := h.meml; unfold i64; omega
  have hm := h.meml
  have hdt := h.dtl
  have hrt := h.rtl
  have hct := h.ctl
  have hwt := h.wtl
  have hst := h.stl
  have b0 := encN_len hn
  have i1 : i64 (d.dt.length : Int) := by unfold i64; omega
  have i2 : i64 (d.rt.length : Int) := by unfold i64; omega
  have i3 : i64 (d.ct.length : Int) := by unfold i64; omega
  have i4 : i64 (d.wt.length : Int) := by unfold i64; omega
  have i5 : i64 (d.st.length : Int) := by unfold i64; omega
  have j1 := two_i h.dk i1
  have j2 := two_i h.rk i2
  have j3 := two_i h.ck i3
  have j4 := two_i h.wk i4
  have j5 := two_i h.sk i5
  have p1 : (encs [d.dk, d.dt.length]).length ≤ 65 * 2 := encs_len j1
  have p2 : (encs [d.rk, d.rt.length]).length ≤ 65 * 2 := encs_len j2
  have p3 : (encs [d.ck, d.ct.length]).length ≤ 65 * 2 := encs_len j3
  have p4 : (encs [d.wk, d.wt.length]).length ≤ 65 * 2 := encs_len j4
  have p5 : (encs [d.sk, d.st.length]).length ≤ 65 * 2 := encs_len j5
  have m1 : (encs d.dt).length ≤ 65 * 1000 := Nat.le_trans (encs_len h.dt) (Nat.mul_le_mul_left _ h.dtl)
  have m3 : (encs d.ct).length ≤ 65 * 1000 := Nat.le_trans (encs_len h.ct) (Nat.mul_le_mul_left _ h.ctl)
  refine Comes_of w15 rfl rfl k15 ?_ ?_ ?_ ?_
  · simp
  · simp
  · simp
  · simp -dsimp [-wAppend_list, w15, wFix_by, isInl, call_by (refNumE hn)]
    refine app_b (out := []) (ac_nil (by decide)) rfl (by simp; omega) fun v T ha => ?_
    rw [List.nil_append] at ha
    simp -dsimp [-wAppend_list]
    refine xL_by (by kernel_rfl) (fun k e H => ∃ (i : Nat) (v : V) (T : List Ob), i ≤ d.mem.length ∧ k = d.mem.length - i ∧ e 1 = .ptr 0 0 ∧ e 4 = .int .i64 i ∧ e 3 = v ∧ H = .live (cellsOf (deV d)) :: T ∧ Ac 1 1 T v ((encN d.mem.length ++ encL encRun (d.mem.take i)).map (V.int .u8))) d.mem.length ?_ ?_
    · refine ⟨0, v, T, ?_⟩
      simp -dsimp [encL]
      first | exact ha | exact ⟨h1, ha⟩
    clear ha T v
    rintro k e H ⟨i, v, T, hi, hk, h1, hi4, h3, rfl, ha⟩
    have t1 : (encL encRun (d.mem.take i)).length ≤ 10200 * 1000 := Nat.le_trans (encL_len (k := 10200) fun a ha => encRun_len (h.mem a (List.mem_of_mem_take ha))) (Nat.mul_le_mul_left _ (by rw [List.length_take]; omega))
    by_cases hlt : i < d.mem.length
    · have hr := h.mem d.mem[i] (List.getElem_mem hlt)
      have e1 := encL_succ encRun d.mem i hlt
      have t2 := encRun_len hr
      have w2 : IntKind.i64.wrap ((i : Int) + 1) = ((i + 1 : Nat) : Int) := by rw [Fz.w64 (by omega) (by omega)]; omega
      simp -dsimp [-wAppend_list, h1, hi4, h3, wFix_by, isInl, hlt, call_by (refNumE hr.1)]
      have q1 : (encRun d.mem[i]).length = (encN d.mem[i].at_).length + (txt d.mem[i].b).length := by simp [encRun]
      refine app_b ha rfl (by simp only [List.length_append]; omega) fun v T ha => ?_
      simp -dsimp [-wAppend_list, h1, hi4, h3, wFix_by, isInl, hlt, call_by (refTextE (b := d.mem[i].b) (by omega))]
      refine app_b ha rfl (by simp only [List.length_append]; omega) fun v T ha => ?_
      simp -dsimp [-wAppend_list, h1, hi4, w2]
      refine ⟨d.mem.length - (i + 1), by omega, i + 1, v, T, by omega, rfl, ?_⟩
      simp -dsimp [h1]
      rw [e1]
      simpa [encRun, List.append_assoc] using ha
    have hii : i = d.mem.length := by omega
    subst hii
    rw [List.take_length] at ha t1
    simp -dsimp [-wAppend_list, h1, hi4, h3, wFix_by, isInl, hlt]
    have hb1 : (encN d.mem.length ++ encL encRun d.mem).length ≤ 11000000 := by simp only [List.length_append]; omega
    obtain ⟨o1, ho1⟩ : ∃ o, o = encN d.mem.length ++ encL encRun d.mem := ⟨_, rfl⟩
    rw [← ho1] at ha hb1
    refine nums_own (H := .live (cellsOf (deV d)) :: T) (a := d.dk) (l := [d.dt.length]) rfl j1 (by simp) ?_
    simp -dsimp [-wAppend_list, h3]
    refine app_b (ac_ext ha _) rfl (by omega) fun v T ha => ?_
    simp -dsimp [-wAppend_list, h1]
    have hb2 : (o1 ++ encs [d.dk, (d.dt.length : Int)]).length ≤ 11001000 := by simp only [List.length_append]; omega
    obtain ⟨o2, ho2⟩ : ∃ o, o = o1 ++ encs [d.dk, (d.dt.length : Int)] := ⟨_, rfl⟩
    rw [← ho2] at ha hb2
    rw [call_by (refNums_s h.dt (by omega))]
    simp -dsimp [-wAppend_list, h1]
    refine app_b ha rfl (by omega) fun v T ha => ?_
    simp -dsimp [-wAppend_list, h1]
    have hb3 : (o2 ++ encs d.dt).length ≤ 12000000 := by simp only [List.length_append]; omega
    obtain ⟨o3, ho3⟩ : ∃ o, o = o2 ++ encs d.dt := ⟨_, rfl⟩
    rw [← ho3] at ha hb3
    refine nums_own (H := .live (cellsOf (deV d)) :: T) (a := d.rk) (l := [d.rt.length]) rfl j2 (by simp) ?_
    simp -dsimp [-wAppend_list, h3]
    refine app_b (ac_ext ha _) rfl (by omega) fun v T ha => ?_
    simp -dsimp [-wAppend_list, h1]
    have hb4 : (o3 ++ encs [d.rk, (d.rt.length : Int)]).length ≤ 12001000 := by simp only [List.length_append]; omega
    obtain ⟨o4, ho4⟩ : ∃ o, o = o3 ++ encs [d.rk, (d.rt.length : Int)] := ⟨_, rfl⟩
    rw [← ho4] at ha hb4
    refine xL_by (by kernel_rfl) (fun k e H => ∃ (i : Nat) (v : V) (T : List Ob), i ≤ d.rt.length ∧ k = d.rt.length - i ∧ e 1 = .ptr 0 0 ∧ e 5 = .int .i64 i ∧ e 3 = v ∧ H = .live (cellsOf (deV d)) :: T ∧ Ac 1 1 T v ((o4 ++ encL encSlo (d.rt.take i)).map (V.int .u8))) d.rt.length ?_ ?_
    · refine ⟨0, v, T, ?_⟩
      simp -dsimp [encL]
      first | exact ha | exact ⟨h1, ha⟩
    clear ha T v
    rintro k e H ⟨i, v, T, hi, hk, h1, hi4, h3, rfl, ha⟩
    have t1 : (encL encSlo (d.rt.take i)).length ≤ 130 * 1000 := Nat.le_trans (encL_len (k := 130) fun a ha => encSlo_len (h.rt a (List.mem_of_mem_take ha))) (Nat.mul_le_mul_left _ (by rw [List.length_take]; omega))
    by_cases hlt : i < d.rt.length
    · have hr := h.rt d.rt[i] (List.getElem_mem hlt)
      have e1 := encL_succ encSlo d.rt i hlt
      have t2 := encSlo_len hr
      have w2 : IntKind.i64.wrap ((i : Int) + 1) = ((i + 1 : Nat) : Int) := by rw [Fz.w64 (by omega) (by omega)]; omega
      have q := quiet_rnums (l := [d.rt[i].v, if d.rt[i].call then 1 else 0]) (c := true) (two_i hr (bit01 _)) (by simp)
      simp only [List.map_cons, List.map_nil] at q
      simp -dsimp [-wAppend_list, h1, hi4, h3, wFix_by, isInl, hlt, quiet_by (flags_s d.rt[i].call false), fillV, splice, wOpt, chunk, q]
      refine app_b (m := encSlo d.rt[i]) ha rfl (by simp only [List.length_append]; omega) fun v T ha => ?_
      simp -dsimp [-wAppend_list, h1, hi4, w2]
      refine ⟨d.rt.length - (i + 1), by omega, i + 1, v, T, by omega, rfl, ?_⟩
      simp -dsimp [h1]
      rw [e1]
      simpa [encSlo, List.append_assoc] using ha
    have hii : i = d.rt.length := by omega
    subst hii
    rw [List.take_length] at ha t1
    simp -dsimp [-wAppend_list, h1, hi4, h3, wFix_by, isInl, hlt]
    have hb5 : (o4 ++ encL encSlo d.rt).length ≤ 13000000 := by simp only [List.length_append]; omega
    obtain ⟨o5, ho5⟩ : ∃ o, o = o4 ++ encL encSlo d.rt := ⟨_, rfl⟩
    rw [← ho5] at ha hb5
    refine nums_own (H := .live (cellsOf (deV d)) :: T) (a := d.ck) (l := [d.ct.length]) rfl j3 (by simp) ?_
    simp -dsimp [-wAppend_list, h3]
    refine app_b (ac_ext ha _) rfl (by omega) fun v T ha => ?_
    simp -dsimp [-wAppend_list, h1]
    have hb6 : (o5 ++ encs [d.ck, (d.ct.length : Int)]).length ≤ 13001000 := by simp only [List.length_append]; omega
    obtain ⟨o6, ho6⟩ : ∃ o, o = o5 ++ encs [d.ck, (d.ct.length : Int)] := ⟨_, rfl⟩
    rw [← ho6] at ha hb6
    rw [call_by (refNums_s h.ct (by omega))]
    simp -dsimp [-wAppend_list, h1]
    refine app_b ha rfl (by omega) fun v T ha => ?_
    simp -dsimp [-wAppend_list, h1]
    have hb7 : (o6 ++ encs d.ct).length ≤ 14000000 := by simp only [List.length_append]; omega
    obtain ⟨o7, ho7⟩ : ∃ o, o = o6 ++ encs d.ct := ⟨_, rfl⟩
    rw [← ho7] at ha hb7
    refine nums_own (H := .live (cellsOf (deV d)) :: T) (a := d.wk) (l := [d.wt.length]) rfl j4 (by simp) ?_
    simp -dsimp [-wAppend_list, h3]
    refine app_b (ac_ext ha _) rfl (by omega) fun v T ha => ?_
    simp -dsimp [-wAppend_list, h1]
    have hb8 : (o7 ++ encs [d.wk, (d.wt.length : Int)]).length ≤ 14001000 := by simp only [List.length_append]; omega
    obtain ⟨o8, ho8⟩ : ∃ o, o = o7 ++ encs [d.wk, (d.wt.length : Int)] := ⟨_, rfl⟩
    rw [← ho8] at ha hb8
    refine xL_by (by kernel_rfl) (fun k e H => ∃ (i : Nat) (v : V) (T : List Ob), i ≤ d.wt.length ∧ k = d.wt.length - i ∧ e 1 = .ptr 0 0 ∧ e 6 = .int .i64 i ∧ e 3 = v ∧ H = .live (cellsOf (deV d)) :: T ∧ Ac 1 1 T v ((o8 ++ encL encWor (d.wt.take i)).map (V.int .u8))) d.wt.length ?_ ?_
    · refine ⟨0, v, T, ?_⟩
      simp -dsimp [encL]
      first | exact ha | exact ⟨h1, ha⟩
    clear ha T v
    rintro k e H ⟨i, v, T, hi, hk, h1, hi4, h3, rfl, ha⟩
    have t1 : (encL encWor (d.wt.take i)).length ≤ 1200 * 1000 := Nat.le_trans (encL_len (k := 1200) fun a ha => encWor_len (h.wt a (List.mem_of_mem_take ha))) (Nat.mul_le_mul_left _ (by rw [List.length_take]; omega))
    by_cases hlt : i < d.wt.length
    · have hr := h.wt d.wt[i] (List.getElem_mem hlt)
      have e1 := encL_succ encWor d.wt i hlt
      have t2 := encWor_len hr
      have w2 : IntKind.i64.wrap ((i : Int) + 1) = ((i + 1 : Nat) : Int) := by rw [Fz.w64 (by omega) (by omega)]; omega
      have q := quiet_rnums (l := [d.wt[i].code, flg d.wt[i].now d.wt[i].hid]) (c := true) (two_i hr.1 (flg_i _ _)) (by simp)
      simp only [List.map_cons, List.map_nil] at q
      have f := flags_s d.wt[i].now d.wt[i].hid
      rw [show ((if d.wt[i].now = true then (1 : Int) else 0) + (if d.wt[i].hid = true then 2 else 0)) = flg d.wt[i].now d.wt[i].hid from rfl] at f
      have q1 : (encWor d.wt[i]).length = (txt (nmB d.wt[i].name)).length + (encs [d.wt[i].code, flg d.wt[i].now d.wt[i].hid]).length := by simp [encWor]
      simp -dsimp [-wAppend_list, h1, hi4, h3, wFix_by, isInl, hlt, nmB_V]
      rw [show (V.list ((nmB d.wt[i].name).map (V.int .u8)) false) = byV (nmB d.wt[i].name) from rfl, call_by (refTextE (b := nmB d.wt[i].name) (by omega))]
      simp -dsimp [-wAppend_list, h1, hi4, h3, wFix_by, isInl, hlt]
      refine app_b2 ha rfl (by simp only [List.length_append]; omega) fun v T' G hT ha => ?_
      rw [← hT]
      simp -dsimp [-wAppend_list, h1, hi4, h3, wFix_by, isInl, hlt, quiet_by f, fillV, splice, wOpt, chunk, q]
      refine app_b (m := encs [d.wt[i].code, flg d.wt[i].now d.wt[i].hid]) ha rfl (by simp only [List.length_append]; omega) fun v T ha => ?_
      simp -dsimp [-wAppend_list, h1, hi4, w2]
      refine ⟨d.wt.length - (i + 1), by omega, i + 1, v, T, by omega, rfl, ?_⟩
      simp -dsimp [h1]
      rw [e1]
      simpa [encWor, List.append_assoc] using ha
    have hii : i = d.wt.length := by omega
    subst hii
    rw [List.take_length] at ha t1
    simp -dsimp [-wAppend_list, h1, hi4, h3, wFix_by, isInl, hlt]
    have hb9 : (o8 ++ encL encWor d.wt).length ≤ 16000000 := by simp only [List.length_append]; omega
    obtain ⟨o9, ho9⟩ : ∃ o, o = o8 ++ encL encWor d.wt := ⟨_, rfl⟩
    rw [← ho9] at ha hb9
    refine nums_own (H := .live (cellsOf (deV d)) :: T) (a := d.sk) (l := [d.st.length]) rfl j5 (by simp) ?_
    simp -dsimp [-wAppend_list, h3]
    refine app_b (ac_ext ha _) rfl (by omega) fun v T ha => ?_
    simp -dsimp [-wAppend_list, h1]
    have hb10 : (o9 ++ encs [d.sk, (d.st.length : Int)]).length ≤ 16001000 := by simp only [List.length_append]; omega
    obtain ⟨o10, ho10⟩ : ∃ o, o = o9 ++ encs [d.sk, (d.st.length : Int)] := ⟨_, rfl⟩
    rw [← ho10] at ha hb10
    refine xL_by (by kernel_rfl) (fun k e H => ∃ (i : Nat) (v : V) (T : List Ob), i ≤ d.st.length ∧ k = d.st.length - i ∧ e 1 = .ptr 0 0 ∧ e 8 = .int .i64 i ∧ e 3 = v ∧ H = .live (cellsOf (deV d)) :: T ∧ Ac 1 1 T v ((o10 ++ encL encSpo (d.st.take i)).map (V.int .u8))) d.st.length ?_ ?_
    · refine ⟨0, v, T, ?_⟩
      simp -dsimp [encL]
      first | exact ha | exact ⟨h1, ha⟩
    clear ha T v
    rintro k e H ⟨i, v, T, hi, hk, h1, hi4, h3, rfl, ha⟩
    have t1 : (encL encSpo (d.st.take i)).length ≤ 130 * 1000 := Nat.le_trans (encL_len (k := 130) fun a ha => encSpo_len (h.st a (List.mem_of_mem_take ha))) (Nat.mul_le_mul_left _ (by rw [List.length_take]; omega))
    by_cases hlt : i < d.st.length
    · have hr := h.st d.st[i] (List.getElem_mem hlt)
      have e1 := encL_succ encSpo d.st i hlt
      have t2 := encSpo_len hr
      have w2 : IntKind.i64.wrap ((i : Int) + 1) = ((i + 1 : Nat) : Int) := by rw [Fz.w64 (by omega) (by omega)]; omega
      have q := quiet_rnums (l := [d.st[i].addr, d.st[i].at_]) (c := true) (two_i hr.1 hr.2) (by simp)
      simp only [List.map_cons, List.map_nil] at q
      simp -dsimp [-wAppend_list, h1, hi4, h3, wFix_by, isInl, hlt, fillV, splice, wOpt, chunk, q]
      refine app_b (m := encSpo d.st[i]) ha rfl (by simp only [List.length_append]; omega) fun v T ha => ?_
      simp -dsimp [-wAppend_list, h1, hi4, w2]
      refine ⟨d.st.length - (i + 1), by omega, i + 1, v, T, by omega, rfl, ?_⟩
      simp -dsimp [h1]
      rw [e1]
      simpa [encSpo, List.append_assoc] using ha
    have hii : i = d.st.length := by omega
    subst hii
    rw [List.take_length] at ha t1
    simp -dsimp [-wAppend_list, h1, hi4, h3, wFix_by, isInl, hlt]
    have hb11 : (o10 ++ encL encSpo d.st).length ≤ 17000000 := by simp only [List.length_append]; omega
    obtain ⟨o11, ho11⟩ : ∃ o, o = o10 ++ encL encSpo d.st := ⟨_, rfl⟩
    rw [← ho11] at ha hb11
    refine nums_own (H := .live (cellsOf (deV d)) :: T) (a := d.out) (l := []) rfl (one_i h.out) (by simp) ?_
    have p6 : (encs [d.out]).length ≤ 65 * 1 := encs_len (one_i h.out)
    have p7 : (encs [d.r0, d.r1, d.r2, d.r3, d.r4, d.r5]).length ≤ 65 * 6 := encs_len h.regs
    have p8 : (encs [flg d.comp d.halt]).length ≤ 65 * 1 := encs_len (one_i (flg_i _ _))
    simp -dsimp [-wAppend_list, h3]
    refine app_b (ac_ext ha _) rfl (by omega) fun v T ha => ?_
    simp -dsimp [-wAppend_list, h1]
    refine call_frz rfl ?_
    simp -dsimp [-wAppend_list]
    have c6 := refNums_s h.regs (by simp)
    simp only [inV, List.map_cons, List.map_nil] at c6
    rw [callN_by c6]
    simp -dsimp [-wAppend_list]
    refine app_b ha rfl (by simp only [List.length_append]; omega) fun v T ha => ?_
    have f := flags_s d.comp d.halt
    rw [show ((if d.comp = true then (1 : Int) else 0) + (if d.halt = true then 2 else 0)) = flg d.comp d.halt from rfl] at f
    simp -dsimp [-wAppend_list, h1, call_by f]
    refine nums_own (H := .fixed (cellsOf (deV d)) :: T) (a := flg d.comp d.halt) (l := []) rfl (one_i (flg_i _ _)) (by simp) ?_
    simp -dsimp [-wAppend_list]
    refine app_b (ac_ext ha _) rfl (by simp only [List.length_append]; omega) fun v T ha => ?_
    simp -dsimp [wFix_by, isInl]
    refine frz_ac (b := 1) ?_
    rw [List.drop_succ_cons, List.drop_zero]
    have e : o11 ++ encs [d.out] ++ encs [d.r0, d.r1, d.r2, d.r3, d.r4, d.r5] ++ encs [flg d.comp d.halt] = encD d := by
      subst ho11; subst ho10; subst ho9; subst ho8; subst ho7; subst ho6; subst ho5; subst ho4; subst ho3; subst ho2; subst ho1
      simp only [encD, encs, cat, List.map_cons, List.map_nil, List.flatten_cons, List.flatten_nil, List.append_nil, List.append_assoc]
    rw [e] at ha
    exact ha
end Fz.D
set_option maxRecDepth 100000
namespace Fz.D
open Go
/-- How many elements two lists begin with, the same. -/
def shr {α : Type} (q : α → α → Bool) : List α → List α → Nat
  | a :: x, b :: y => if q a b then shr q x y + 1 else 0
  | _, _ => 0
theorem shr_step {α : Type} {q : α → α → Bool} {a b : List α} {i : Nat} (h1 : i < a.length) (h2 : i < b.length) (h : q a[i] b[i] = true) : shr q (a.drop i) (b.drop i) = shr q (a.drop (i + 1)) (b.drop (i + 1)) + 1 := by
  rw [List.drop_eq_getElem_cons h1, List.drop_eq_getElem_cons h2, shr, if_pos h]
theorem shr_stop {α : Type} {q : α → α → Bool} {a b : List α} {i : Nat} (h1 : i < a.length) (h2 : i < b.length) (h : q a[i] b[i] = false) : shr q (a.drop i) (b.drop i) = 0 := by
  rw [List.drop_eq_getElem_cons h1, List.drop_eq_getElem_cons h2, shr, if_neg (by rw [h]; simp)]
theorem shr_end1 {α : Type} {q : α → α → Bool} {a b : List α} {i : Nat} (h1 : ¬ i < a.length) : shr q (a.drop i) (b.drop i) = 0 := by
  rw [List.drop_eq_nil_of_le (by omega)]; simp [shr]
theorem shr_end2 {α : Type} {q : α → α → Bool} {a b : List α} {i : Nat} (h1 : ¬ i < b.length) : shr q (a.drop i) (b.drop i) = 0 := by
  rw [List.drop_eq_nil_of_le (show b.length ≤ i by omega)]
  cases a.drop i <;> simp [shr]
theorem shr_le {α : Type} {q : α → α → Bool} : ∀ (a b : List α), shr q a b ≤ a.length ∧ shr q a b ≤ b.length
  | a :: x, b :: y => by
    have := shr_le (q := q) x y
    unfold shr
    split <;> simp <;> omega
  | [], b => by simp [shr]
  | _ :: _, [] => by simp [shr]
theorem drop_map {α β : Type} (f : α → β) (l : List α) (n : Nat) : List.drop n (List.map f l) = (l.drop n).map f := List.map_drop.symm
theorem map_tail {α β : Type} (f : α → β) (l : List α) (n : Nat) : List.take (l.length - n) (List.drop n (List.map f l)) = (l.drop n).map f := by
  rw [← List.map_drop]; exact List.take_of_length_le (by simp)
theorem map_tail2 {α β : Type} (f : α → β) (l : List α) (n : Nat) : List.take (l.length - n) (List.map f (List.drop n l)) = (l.drop n).map f := List.take_of_length_le (by simp)
def inQ (a b : Int) : Bool := decide (a = b)
def sloQ (a b : Slo) : Bool := decide (a.v = b.v) && (a.call == b.call)
def worQ (a b : Wor) : Bool := decide (a.name = b.name) && (decide (a.code = b.code) && ((a.now == b.now) && (a.hid == b.hid)))
def spoQ (a b : Spo) : Bool := decide (a.addr = b.addr) && decide (a.at_ = b.at_)
theorem int_beq (a b : Int) : (a == b) = decide (a = b) := rfl
theorem slo_leaves (a b : Slo) : eqLeaves [.int .i64 a.v, .bool a.call] [.int .i64 b.v, .bool b.call] [(0, .int), (1, .bool)] = some (sloQ a b) := by
  unfold sloQ
  simp only [eqLeaves, leafEq, List.getElem?_cons_zero, List.getElem?_cons_succ, if_true, int_beq]
  cases decide (a.v = b.v) <;> cases (a.call == b.call) <;> rfl
theorem wor_leaves (a b : Wor) : eqLeaves [.str a.name, .int .i64 a.code, .bool a.now, .bool a.hid] [.str b.name, .int .i64 b.code, .bool b.now, .bool b.hid] [(0, .str), (1, .int), (2, .bool), (3, .bool)] = some (worQ a b) := by
  unfold worQ
  simp only [eqLeaves, leafEq, List.getElem?_cons_zero, List.getElem?_cons_succ, if_true, int_beq, bytes_beq]
  cases decide (a.name = b.name) <;> cases decide (a.code = b.code) <;> cases (a.now == b.now) <;> cases (a.hid == b.hid) <;> rfl
theorem spo_leaves (a b : Spo) : eqLeaves [.int .i64 a.addr, .int .i64 a.at_] [.int .i64 b.addr, .int .i64 b.at_] [(0, .int), (1, .int)] = some (spoQ a b) := by
  unfold spoQ
  simp only [eqLeaves, leafEq, List.getElem?_cons_zero, List.getElem?_cons_succ, if_true, int_beq]
  cases decide (a.addr = b.addr) <;> cases decide (a.at_ = b.at_) <;> rfl
theorem inQ_eq {a b : Int} : decide (a = b) = inQ a b := rfl
theorem shareInt_s {a b : List Int} (ha : a.length ≤ 1000000) (hb : b.length ≤ 1000000) : Comes p 23 [inV a, inV b] (.int .i64 (shr inQ a b : Nat)) := by
  refine Comes_of w23 rfl rfl k23 ?_ ?_ ?_ ?_
  · simp
  · simp
  · simp
  · simp -dsimp [w23, wFix_by, isInl]
    refine xL_by (by kernel_rfl) (fun k e H => ∃ i : Nat, i ≤ a.length ∧ k = a.length - i ∧ e 0 = inV a ∧ e 1 = inV b ∧ e 5 = .int .i64 i ∧ shr inQ a b = i + shr inQ (a.drop i) (b.drop i) ∧ H = []) a.length ?_ ?_
    · exact ⟨0, by simp⟩
    · rintro k e H ⟨i, hi, hk, h0, h1, h5, hr, rfl⟩
      have h2 := h5
      by_cases c1 : i < a.length
      · by_cases c2 : i < b.length
        · have g1 : a[i]?.getD default = a[i] := by simp [c1]
          have g2 : b[i]?.getD default = b[i] := by simp [c2]
          cases c3 : inQ a[i] b[i] with
          | true =>
            have w2 : IntKind.i64.wrap ((i : Int) + 1) = ((i + 1 : Nat) : Int) := by rw [Fz.w64 (by omega) (by omega)]; omega
            have hs := shr_step c1 c2 c3
            simp -dsimp [h0, h1, h5, wFix_by, isInl, inV, c1, c2, g1, g2, h2, wOpt, w2, inQ_eq, c3]
            refine ⟨a.length - (i + 1), by omega, i + 1, by omega, rfl, ?_⟩
            simp -dsimp [h0, h1, h5, h2, inV]
            omega
          | false =>
            have hz := shr_stop c1 c2 c3
            have hs : shr inQ a b = i := by omega
            simp -dsimp [h0, h1, h5, wFix_by, isInl, h2, hs, inV, wOpt, c1, c2, g1, g2, inQ_eq, c3]
        · have hz := shr_end2 (q := inQ) (a := a) c2
          have hs : shr inQ a b = i := by omega
          simp -dsimp [h0, h1, h5, wFix_by, isInl, h2, hs, inV, wOpt, c1, c2]
      · have hz := shr_end1 (q := inQ) (b := b) c1
        have hs : shr inQ a b = i := by omega
        simp -dsimp [h0, h1, h5, wFix_by, isInl, h2, hs, inV, wOpt, c1]
theorem cut_s {a b : List Int} (ha : a.length ≤ 1000000) (hb : b.length ≤ 1000000) : Comes p 28 [inV a, inV b] (.agg [.int .i64 (shr inQ a b : Nat), inV (a.drop (shr inQ a b))]) := by
  refine Comes_of w28 rfl rfl k28 ?_ ?_ ?_ ?_
  · simp
  · simp
  · simp
  · simp -dsimp [w28, wFix_by, isInl]
    refine xL_by (by kernel_rfl) (fun k e H => ∃ i : Nat, i ≤ a.length ∧ k = a.length - i ∧ e 0 = inV a ∧ e 1 = inV b ∧ e 5 = .int .i64 i ∧ shr inQ a b = i + shr inQ (a.drop i) (b.drop i) ∧ e 4 = .ptr 0 0 ∧ H = [.live [.int .i64 0, .list [] true]]) a.length ?_ ?_
    · exact ⟨0, by simp⟩
    · rintro k e H ⟨i, hi, hk, h0, h1, h5, hr, h2, rfl⟩
      
      by_cases c1 : i < a.length
      · by_cases c2 : i < b.length
        · have g1 : a[i]?.getD default = a[i] := by simp [c1]
          have g2 : b[i]?.getD default = b[i] := by simp [c2]
          cases c3 : inQ a[i] b[i] with
          | true =>
            have w2 : IntKind.i64.wrap ((i : Int) + 1) = ((i + 1 : Nat) : Int) := by rw [Fz.w64 (by omega) (by omega)]; omega
            have hs := shr_step c1 c2 c3
            simp -dsimp [h0, h1, h5, wFix_by, isInl, inV, c1, c2, g1, g2, h2, wOpt, w2, inQ_eq, c3]
            refine ⟨a.length - (i + 1), by omega, i + 1, by omega, rfl, ?_⟩
            simp -dsimp [h0, h1, h5, h2, inV]
            omega
          | false =>
            have hz := shr_stop c1 c2 c3
            have hs : shr inQ a b = i := by omega
            have hle := (shr_le (q := inQ) a b).1
            rw [hs] at hle
            simp -dsimp [-List.map_drop, drop_map, h0, h1, h5, wFix_by, isInl, h2, hs, inV, map_tail2, wOpt, c1, c2, g1, g2, inQ_eq, c3]
            first | done | omega
        · have hz := shr_end2 (q := inQ) (a := a) c2
          have hs : shr inQ a b = i := by omega
          have hle := (shr_le (q := inQ) a b).1
          rw [hs] at hle
          simp -dsimp [-List.map_drop, drop_map, h0, h1, h5, wFix_by, isInl, h2, hs, inV, map_tail2, wOpt, c1, c2]
          first | done | omega
      · have hz := shr_end1 (q := inQ) (b := b) c1
        have hs : shr inQ a b = i := by omega
        have hle := (shr_le (q := inQ) a b).1
        rw [hs] at hle
        simp -dsimp [-List.map_drop, drop_map, h0, h1, h5, wFix_by, isInl, h2, hs, inV, map_tail2, wOpt, c1]
        first | done | omega
theorem shareSlo_s {a b : List Slo} (ha : a.length ≤ 1000000) (hb : b.length ≤ 1000000) : Comes p 24 [slosV a, slosV b] (.int .i64 (shr sloQ a b : Nat)) := by
  refine Comes_of w24 rfl rfl k24 ?_ ?_ ?_ ?_
  · simp
  · simp
  · simp
  · simp -dsimp [w24, wFix_by, isInl]
    refine xL_by (by kernel_rfl) (fun k e H => ∃ i : Nat, i ≤ a.length ∧ k = a.length - i ∧ e 0 = slosV a ∧ e 1 = slosV b ∧ e 5 = .int .i64 i ∧ shr sloQ a b = i + shr sloQ (a.drop i) (b.drop i) ∧ H = []) a.length ?_ ?_
    · exact ⟨0, by simp⟩
    · rintro k e H ⟨i, hi, hk, h0, h1, h5, hr, rfl⟩
      have h2 := h5
      by_cases c1 : i < a.length
      · by_cases c2 : i < b.length
        · have g1 : a[i]?.getD default = a[i] := by simp [c1]
          have g2 : b[i]?.getD default = b[i] := by simp [c2]
          cases c3 : sloQ a[i] b[i] with
          | true =>
            have w2 : IntKind.i64.wrap ((i : Int) + 1) = ((i + 1 : Nat) : Int) := by rw [Fz.w64 (by omega) (by omega)]; omega
            have hs := shr_step c1 c2 c3
            simp -dsimp [h0, h1, h5, wFix_by, isInl, slosV, c1, c2, g1, g2, h2, slo_leaves, wOpt, w2, c3]
            refine ⟨a.length - (i + 1), by omega, i + 1, by omega, rfl, ?_⟩
            simp -dsimp [h0, h1, h5, h2, slosV]
            omega
          | false =>
            have hz := shr_stop c1 c2 c3
            have hs : shr sloQ a b = i := by omega
            simp -dsimp [h0, h1, h5, wFix_by, isInl, h2, hs, slosV, wOpt, c1, c2, g1, g2, slo_leaves, c3]
        · have hz := shr_end2 (q := sloQ) (a := a) c2
          have hs : shr sloQ a b = i := by omega
          simp -dsimp [h0, h1, h5, wFix_by, isInl, h2, hs, slosV, wOpt, c1, c2]
      · have hz := shr_end1 (q := sloQ) (b := b) c1
        have hs : shr sloQ a b = i := by omega
        simp -dsimp [h0, h1, h5, wFix_by, isInl, h2, hs, slosV, wOpt, c1]
theorem frames_s {a b : List Slo} (ha : a.length ≤ 1000000) (hb : b.length ≤ 1000000) : Comes p 29 [slosV a, slosV b] (.agg [.int .i64 (shr sloQ a b : Nat), slosV (a.drop (shr sloQ a b))]) := by
  refine Comes_of w29 rfl rfl k29 ?_ ?_ ?_ ?_
  · simp
  · simp
  · simp
  · simp -dsimp [w29, wFix_by, isInl]
    refine xL_by (by kernel_rfl) (fun k e H => ∃ i : Nat, i ≤ a.length ∧ k = a.length - i ∧ e 0 = slosV a ∧ e 1 = slosV b ∧ e 5 = .int .i64 i ∧ shr sloQ a b = i + shr sloQ (a.drop i) (b.drop i) ∧ e 4 = .ptr 0 0 ∧ H = [.live [.int .i64 0, .list [] true]]) a.length ?_ ?_
    · exact ⟨0, by simp⟩
    · rintro k e H ⟨i, hi, hk, h0, h1, h5, hr, h2, rfl⟩
      
      by_cases c1 : i < a.length
      · by_cases c2 : i < b.length
        · have g1 : a[i]?.getD default = a[i] := by simp [c1]
          have g2 : b[i]?.getD default = b[i] := by simp [c2]
          cases c3 : sloQ a[i] b[i] with
          | true =>
            have w2 : IntKind.i64.wrap ((i : Int) + 1) = ((i + 1 : Nat) : Int) := by rw [Fz.w64 (by omega) (by omega)]; omega
            have hs := shr_step c1 c2 c3
            simp -dsimp [h0, h1, h5, wFix_by, isInl, slosV, c1, c2, g1, g2, h2, slo_leaves, wOpt, w2, c3]
            refine ⟨a.length - (i + 1), by omega, i + 1, by omega, rfl, ?_⟩
            simp -dsimp [h0, h1, h5, h2, slosV]
            omega
          | false =>
            have hz := shr_stop c1 c2 c3
            have hs : shr sloQ a b = i := by omega
            have hle := (shr_le (q := sloQ) a b).1
            rw [hs] at hle
            simp -dsimp [-List.map_drop, drop_map, h0, h1, h5, wFix_by, isInl, h2, hs, slosV, map_tail2, wOpt, c1, c2, g1, g2, slo_leaves, c3]
            first | done | omega
        · have hz := shr_end2 (q := sloQ) (a := a) c2
          have hs : shr sloQ a b = i := by omega
          have hle := (shr_le (q := sloQ) a b).1
          rw [hs] at hle
          simp -dsimp [-List.map_drop, drop_map, h0, h1, h5, wFix_by, isInl, h2, hs, slosV, map_tail2, wOpt, c1, c2]
          first | done | omega
      · have hz := shr_end1 (q := sloQ) (b := b) c1
        have hs : shr sloQ a b = i := by omega
        have hle := (shr_le (q := sloQ) a b).1
        rw [hs] at hle
        simp -dsimp [-List.map_drop, drop_map, h0, h1, h5, wFix_by, isInl, h2, hs, slosV, map_tail2, wOpt, c1]
        first | done | omega
theorem shareWor_s {a b : List Wor} (ha : a.length ≤ 1000000) (hb : b.length ≤ 1000000) : Comes p 25 [worsV a, worsV b] (.int .i64 (shr worQ a b : Nat)) := by
  refine Comes_of w25 rfl rfl k25 ?_ ?_ ?_ ?_
  · simp
  · simp
  · simp
  · simp -dsimp [w25, wFix_by, isInl]
    refine xL_by (by kernel_rfl) (fun k e H => ∃ i : Nat, i ≤ a.length ∧ k = a.length - i ∧ e 0 = worsV a ∧ e 1 = worsV b ∧ e 5 = .int .i64 i ∧ shr worQ a b = i + shr worQ (a.drop i) (b.drop i) ∧ H = []) a.length ?_ ?_
    · exact ⟨0, by simp⟩
    · rintro k e H ⟨i, hi, hk, h0, h1, h5, hr, rfl⟩
      have h2 := h5
      by_cases c1 : i < a.length
      · by_cases c2 : i < b.length
        · have g1 : a[i]?.getD default = a[i] := by simp [c1]
          have g2 : b[i]?.getD default = b[i] := by simp [c2]
          cases c3 : worQ a[i] b[i] with
          | true =>
            have w2 : IntKind.i64.wrap ((i : Int) + 1) = ((i + 1 : Nat) : Int) := by rw [Fz.w64 (by omega) (by omega)]; omega
            have hs := shr_step c1 c2 c3
            simp -dsimp [h0, h1, h5, wFix_by, isInl, worsV, c1, c2, g1, g2, h2, wor_leaves, wOpt, w2, c3]
            refine ⟨a.length - (i + 1), by omega, i + 1, by omega, rfl, ?_⟩
            simp -dsimp [h0, h1, h5, h2, worsV]
            omega
          | false =>
            have hz := shr_stop c1 c2 c3
            have hs : shr worQ a b = i := by omega
            simp -dsimp [h0, h1, h5, wFix_by, isInl, h2, hs, worsV, wOpt, c1, c2, g1, g2, wor_leaves, c3]
        · have hz := shr_end2 (q := worQ) (a := a) c2
          have hs : shr worQ a b = i := by omega
          simp -dsimp [h0, h1, h5, wFix_by, isInl, h2, hs, worsV, wOpt, c1, c2]
      · have hz := shr_end1 (q := worQ) (b := b) c1
        have hs : shr worQ a b = i := by omega
        simp -dsimp [h0, h1, h5, wFix_by, isInl, h2, hs, worsV, wOpt, c1]
theorem names_s {a b : List Wor} (ha : a.length ≤ 1000000) (hb : b.length ≤ 1000000) : Comes p 30 [worsV a, worsV b] (.agg [.int .i64 (shr worQ a b : Nat), worsV (a.drop (shr worQ a b))]) := by
  refine Comes_of w30 rfl rfl k30 ?_ ?_ ?_ ?_
  · simp
  · simp
  · simp
  · simp -dsimp [w30, wFix_by, isInl]
    refine xL_by (by kernel_rfl) (fun k e H => ∃ i : Nat, i ≤ a.length ∧ k = a.length - i ∧ e 0 = worsV a ∧ e 1 = worsV b ∧ e 5 = .int .i64 i ∧ shr worQ a b = i + shr worQ (a.drop i) (b.drop i) ∧ e 4 = .ptr 0 0 ∧ H = [.live [.int .i64 0, .list [] true]]) a.length ?_ ?_
    · exact ⟨0, by simp⟩
    · rintro k e H ⟨i, hi, hk, h0, h1, h5, hr, h2, rfl⟩
      
      by_cases c1 : i < a.length
      · by_cases c2 : i < b.length
        · have g1 : a[i]?.getD default = a[i] := by simp [c1]
          have g2 : b[i]?.getD default = b[i] := by simp [c2]
          cases c3 : worQ a[i] b[i] with
          | true =>
            have w2 : IntKind.i64.wrap ((i : Int) + 1) = ((i + 1 : Nat) : Int) := by rw [Fz.w64 (by omega) (by omega)]; omega
            have hs := shr_step c1 c2 c3
            simp -dsimp [h0, h1, h5, wFix_by, isInl, worsV, c1, c2, g1, g2, h2, wor_leaves, wOpt, w2, c3]
            refine ⟨a.length - (i + 1), by omega, i + 1, by omega, rfl, ?_⟩
            simp -dsimp [h0, h1, h5, h2, worsV]
            omega
          | false =>
            have hz := shr_stop c1 c2 c3
            have hs : shr worQ a b = i := by omega
            have hle := (shr_le (q := worQ) a b).1
            rw [hs] at hle
            simp -dsimp [-List.map_drop, drop_map, h0, h1, h5, wFix_by, isInl, h2, hs, worsV, map_tail2, wOpt, c1, c2, g1, g2, wor_leaves, c3]
            first | done | omega
        · have hz := shr_end2 (q := worQ) (a := a) c2
          have hs : shr worQ a b = i := by omega
          have hle := (shr_le (q := worQ) a b).1
          rw [hs] at hle
          simp -dsimp [-List.map_drop, drop_map, h0, h1, h5, wFix_by, isInl, h2, hs, worsV, map_tail2, wOpt, c1, c2]
          first | done | omega
      · have hz := shr_end1 (q := worQ) (b := b) c1
        have hs : shr worQ a b = i := by omega
        have hle := (shr_le (q := worQ) a b).1
        rw [hs] at hle
        simp -dsimp [-List.map_drop, drop_map, h0, h1, h5, wFix_by, isInl, h2, hs, worsV, map_tail2, wOpt, c1]
        first | done | omega
theorem shareSpo_s {a b : List Spo} (ha : a.length ≤ 1000000) (hb : b.length ≤ 1000000) : Comes p 26 [sposV a, sposV b] (.int .i64 (shr spoQ a b : Nat)) := by
  refine Comes_of w26 rfl rfl k26 ?_ ?_ ?_ ?_
  · simp
  · simp
  · simp
  · simp -dsimp [w26, wFix_by, isInl]
    refine xL_by (by kernel_rfl) (fun k e H => ∃ i : Nat, i ≤ a.length ∧ k = a.length - i ∧ e 0 = sposV a ∧ e 1 = sposV b ∧ e 5 = .int .i64 i ∧ shr spoQ a b = i + shr spoQ (a.drop i) (b.drop i) ∧ H = []) a.length ?_ ?_
    · exact ⟨0, by simp⟩
    · rintro k e H ⟨i, hi, hk, h0, h1, h5, hr, rfl⟩
      have h2 := h5
      by_cases c1 : i < a.length
      · by_cases c2 : i < b.length
        · have g1 : a[i]?.getD default = a[i] := by simp [c1]
          have g2 : b[i]?.getD default = b[i] := by simp [c2]
          cases c3 : spoQ a[i] b[i] with
          | true =>
            have w2 : IntKind.i64.wrap ((i : Int) + 1) = ((i + 1 : Nat) : Int) := by rw [Fz.w64 (by omega) (by omega)]; omega
            have hs := shr_step c1 c2 c3
            simp -dsimp [h0, h1, h5, wFix_by, isInl, sposV, c1, c2, g1, g2, h2, spo_leaves, wOpt, w2, c3]
            refine ⟨a.length - (i + 1), by omega, i + 1, by omega, rfl, ?_⟩
            simp -dsimp [h0, h1, h5, h2, sposV]
            omega
          | false =>
            have hz := shr_stop c1 c2 c3
            have hs : shr spoQ a b = i := by omega
            simp -dsimp [h0, h1, h5, wFix_by, isInl, h2, hs, sposV, wOpt, c1, c2, g1, g2, spo_leaves, c3]
        · have hz := shr_end2 (q := spoQ) (a := a) c2
          have hs : shr spoQ a b = i := by omega
          simp -dsimp [h0, h1, h5, wFix_by, isInl, h2, hs, sposV, wOpt, c1, c2]
      · have hz := shr_end1 (q := spoQ) (b := b) c1
        have hs : shr spoQ a b = i := by omega
        simp -dsimp [h0, h1, h5, wFix_by, isInl, h2, hs, sposV, wOpt, c1]
theorem places_s {a b : List Spo} (ha : a.length ≤ 1000000) (hb : b.length ≤ 1000000) : Comes p 31 [sposV a, sposV b] (.agg [.int .i64 (shr spoQ a b : Nat), sposV (a.drop (shr spoQ a b))]) := by
  refine Comes_of w31 rfl rfl k31 ?_ ?_ ?_ ?_
  · simp
  · simp
  · simp
  · simp -dsimp [w31, wFix_by, isInl]
    refine xL_by (by kernel_rfl) (fun k e H => ∃ i : Nat, i ≤ a.length ∧ k = a.length - i ∧ e 0 = sposV a ∧ e 1 = sposV b ∧ e 5 = .int .i64 i ∧ shr spoQ a b = i + shr spoQ (a.drop i) (b.drop i) ∧ e 4 = .ptr 0 0 ∧ H = [.live [.int .i64 0, .list [] true]]) a.length ?_ ?_
    · exact ⟨0, by simp⟩
    · rintro k e H ⟨i, hi, hk, h0, h1, h5, hr, h2, rfl⟩
      
      by_cases c1 : i < a.length
      · by_cases c2 : i < b.length
        · have g1 : a[i]?.getD default = a[i] := by simp [c1]
          have g2 : b[i]?.getD default = b[i] := by simp [c2]
          cases c3 : spoQ a[i] b[i] with
          | true =>
            have w2 : IntKind.i64.wrap ((i : Int) + 1) = ((i + 1 : Nat) : Int) := by rw [Fz.w64 (by omega) (by omega)]; omega
            have hs := shr_step c1 c2 c3
            simp -dsimp [h0, h1, h5, wFix_by, isInl, sposV, c1, c2, g1, g2, h2, spo_leaves, wOpt, w2, c3]
            refine ⟨a.length - (i + 1), by omega, i + 1, by omega, rfl, ?_⟩
            simp -dsimp [h0, h1, h5, h2, sposV]
            omega
          | false =>
            have hz := shr_stop c1 c2 c3
            have hs : shr spoQ a b = i := by omega
            have hle := (shr_le (q := spoQ) a b).1
            rw [hs] at hle
            simp -dsimp [-List.map_drop, drop_map, h0, h1, h5, wFix_by, isInl, h2, hs, sposV, map_tail2, wOpt, c1, c2, g1, g2, spo_leaves, c3]
            first | done | omega
        · have hz := shr_end2 (q := spoQ) (a := a) c2
          have hs : shr spoQ a b = i := by omega
          have hle := (shr_le (q := spoQ) a b).1
          rw [hs] at hle
          simp -dsimp [-List.map_drop, drop_map, h0, h1, h5, wFix_by, isInl, h2, hs, sposV, map_tail2, wOpt, c1, c2]
          first | done | omega
      · have hz := shr_end1 (q := spoQ) (b := b) c1
        have hs : shr spoQ a b = i := by omega
        have hle := (shr_le (q := spoQ) a b).1
        rw [hs] at hle
        simp -dsimp [-List.map_drop, drop_map, h0, h1, h5, wFix_by, isInl, h2, hs, sposV, map_tail2, wOpt, c1]
        first | done | omega
end Fz.D
namespace Fz
open Go

@[simp] theorem ex3 {α β γ : Type} {x : α} {y : β} {z : γ} {K : α → β → γ → Prop} : (∃ a b c, (x = a ∧ y = b ∧ z = c) ∧ K a b c) = K x y z :=
  propext ⟨fun ⟨_, _, _, ⟨rfl, rfl, rfl⟩, h⟩ => h, fun h => ⟨x, y, z, ⟨rfl, rfl, rfl⟩, h⟩⟩
theorem reach_go {H : List Ob} {k i : Nat} {todo seen : List Nat} {o : Ob} (hs : seen.contains i = false) (ho : H[i]? = some o) : reach H (k + 1) (i :: todo) seen = reach H k (todo ++ refsOb o) (seen ++ [i]) := by
  conv => lhs; unfold reach
  rw [if_neg (by rw [hs]; exact Bool.false_ne_true), ho]
theorem reach_skip {H : List Ob} {k i : Nat} {todo seen : List Nat} (hs : seen.contains i = true) : reach H (k + 1) (i :: todo) seen = reach H k todo seen := by
  conv => lhs; unfold reach
  rw [if_pos hs]
theorem reach_end {H : List Ob} {k : Nat} {seen : List Nat} : reach H (k + 1) [] seen = some seen := by
  unfold reach; rfl
/-- Behind a round's body. -/
def roundQ (id : Nat) (Q : CR → List Ob → Prop) : QX := fun x _ H2 => ∃ k2 ts2 l2, H2[id]? = some (.loop k2 ts2 l2 .busy) ∧ match x with
  | .normal => Q (.ret (.bool true)) (H2.set id (.loop k2 ts2 l2 .ready))
  | .ret => Q (.ret (.bool false)) (H2.set id (.loop k2 ts2 l2 (.done .ret)))
  | .exit i => Q (.ret (.bool false)) (H2.set id (.loop k2 ts2 l2 (.done (.exit i))))
  | _ => False
/-- Behind what assigns a round's variables. -/
def assignQ (p : AP) (cb : WC) (id : Nat) (Q : CR → List Ob → Prop) : QX := fun x e1 H1 => match x with
  | .normal => ∃ k1 ts1 l1, H1[id]? = some (.loop k1 ts1 l1 .ready) ∧ wx p cb e1 (H1.set id (.loop k1 ts1 l1 .busy)) (roundQ id Q)
  | _ => False

theorem WFun_round {p : AP} {id k : Nat} {ts : List Nat} {l rest : List V} {ab : ABody} {H : List Ob} {Q : CR → List Ob → Prop} (ca cb : WC) (hb : p.body k = some ab) (hH : H[id]? = some (.loop k ts l .ready)) (hl : rest.length = ab.ps.length)
    (ha : ab.assign = toA ca) (hbd : ab.body = toA cb) (oa : okW ca = true) (ob : okW cb = true)
    (h : wx p ca (setPs (envT ts l) ab.ps rest) H (assignQ p cb id Q)) : WFun p YF (.yld id :: rest) H Q := by
  obtain ⟨n, x, e1, H1, h1, h2⟩ := wx_ok _ _ _ _ oa h
  cases x with
  | normal =>
    obtain ⟨k1, ts1, l1, h3, h4⟩ := h2
    obtain ⟨m, y, e2, H2, h5, h6⟩ := wx_ok _ _ _ _ ob h4
    obtain ⟨k2, ts2, l2, h7, h8⟩ := h6
    have g1 := exec_le p (Nat.le_max_left n m) _ _ _ _ h1
    have g2 := exec_le p (Nat.le_max_right n m) _ _ _ _ h5
    cases y with
    | normal => exact ⟨max n m, _, _, by simp only [acall, callW, if_true, roundW, hH, hb, hl, ha, g1, h3, hbd, g2, h7], h8⟩
    | ret => exact ⟨max n m, _, _, by simp only [acall, callW, if_true, roundW, hH, hb, hl, ha, g1, h3, hbd, g2, h7], h8⟩
    | exit i => exact ⟨max n m, _, _, by simp only [acall, callW, if_true, roundW, hH, hb, hl, ha, g1, h3, hbd, g2, h7], h8⟩
    | panic v => cases h8
    | mayRet => cases h8
  | _ => cases h2

theorem WRange_of {p : AP} {k : Nat} {ab : ABody} {g : FuncId} {first cap : List V} {e : Env} {H : List Ob} {Q : QX} {af : AFun} (hb : p.body k = some ab) (hg : g ≠ YF) (hp : p.prim g = none) (hf : p.fn g = some af) {ids : List Nat}
    (hr : reach (H ++ [Ob.loop k ab.keep (ab.keep.map e) .ready]) 1000 (refsL (first ++ [.yld H.length] ++ cap)) [] = some ids)
    (h : WFun p g (renL (fun i => ids.idxOf i) (first ++ [.yld H.length] ++ cap)) (ids.map fun i => renOb (fun i => ids.idxOf i) ((H ++ [Ob.loop k ab.keep (ab.keep.map e) .ready])[i]?.getD .dead)) fun r Hl =>
      ids.length ≤ Hl.length ∧ ∃ x e' H', endRange H.length e (some (renR (backK ids (H ++ [Ob.loop k ab.keep (ab.keep.map e) .ready]).length) r, backH ids r Hl (H ++ [Ob.loop k ab.keep (ab.keep.map e) .ready]))) = some (x, e', H') ∧ Q x e' H') :
    WRange p k (.fn (.func g) first cap) e H Q := by
  obtain ⟨n, r, Hl, h1, h2, h3⟩ := h
  refine ⟨ab, g, first, cap, hb, rfl, n, _, _, doCall_inl rfl hr (r := r) (Hl := Hl) ?_ h2, h3⟩
  rw [← h1]
  simp only [acall, callW, callE, if_neg hg, hp, hf]
end Fz
set_option maxRecDepth 100000
namespace Fz.D
open Go
def gt (a : List Int) (i : Nat) : Int := a.getD i 0
theorem gt_at {a : List Int} {i : Nat} (h : i < a.length) : a[i] = gt a i := by simp [gt, h]
/-- A run of bytes. -/
def rn (a : List Int) (s i : Nat) : Rn := ⟨s, (a.drop s).take (i - s)⟩
def fin (a : List Int) (g : List Rn × Nat) (i : Nat) : List Rn := if g.2 < i then g.1 ++ [rn a g.2 i] else g.1
/-- The runs that are over, and where the last one begins. -/
def G (a b : List Int) : Nat → List Rn × Nat
  | 0 => ([], 0)
  | i + 1 => if gt a i = gt b i then (fin a (G a b i) i, i + 1) else G a b i
def runsF (a b : List Int) : List Rn := fin a (G a b a.length) a.length
theorem G_le (a b : List Int) : ∀ i, (G a b i).2 ≤ i
  | 0 => Nat.le_refl _
  | i + 1 => by
    have := G_le a b i
    unfold G
    split
    · exact Nat.le_refl _
    · exact Nat.le_succ_of_le this
theorem G_prev (a b : List Int) (i : Nat) : (G a b (i + 1)).2 < i + 1 ↔ gt a i ≠ gt b i := by
  have := G_le a b i
  rw [G]
  split
  · rename_i h; simp [h]
  · rename_i h; simp only [h, ne_eq, not_false_eq_true, iff_true]; omega
theorem fin_same {a b : List Int} {i : Nat} (h : gt a i = gt b i) : fin a (G a b (i + 1)) (i + 1) = fin a (G a b i) i := by
  rw [G, if_pos h]
  generalize fin a (G a b i) i = x
  simp [fin]
theorem fin_more {a b : List Int} {i : Nat} (h : gt a i ≠ gt b i) : fin a (G a b (i + 1)) (i + 1) = (G a b i).1 ++ [rn a (G a b i).2 (i + 1)] := by
  have := G_le a b i
  rw [G, if_neg h]
  unfold fin
  rw [if_pos (by omega)]
theorem flat_runs (l : List Rn) : (flat (l.map runV)).length = l.length * 2 := by rw [uni_flat (n := 2) (by simp)]; simp
theorem fin_len (a b : List Int) : ∀ i, (fin a (G a b i) i).length ≤ i
  | 0 => by simp [fin, G]
  | i + 1 => by
    have h1 := fin_len a b i
    by_cases h : gt a i = gt b i
    · rw [fin_same h]; omega
    · rw [fin_more h]
      unfold fin at h1
      split at h1 <;> simp at h1 ⊢ <;> omega
theorem acc_len {n b : Nat} {J : List Ob} {v : V} {l : List V} (h : Acc n b J v l) {K : V → Prop} : wSl v (fun l _ => wVal (V.int .i64 l.length) fun v => K v) (fun _ _ n _ => K (.int .i64 n)) = K (.int .i64 l.length) := by
  obtain ⟨_, _, h3⟩ := h
  rcases h3 with ⟨rfl, rfl⟩ | ⟨j, rfl, _⟩ <;> rfl
theorem refRuns_s {a b : List Int} (hb : a.length ≤ b.length) (ha : a.length ≤ 100000) : Comes p 27 [byV a, byV b] (runsV (runsF a b)) := by
  refine Comes_of w27 rfl rfl k27 ?_ ?_ ?_ ?_
  · simp
  · simp
  · simp
  · simp -dsimp [w27, wFix_by, isInl]
    refine xL_by (by kernel_rfl) (fun k e H => ∃ (i : Nat) (v : V), i ≤ a.length ∧ k = a.length - i ∧ e 0 = byV a ∧ e 1 = byV b ∧ e 6 = .int .i64 i ∧ e 5 = v ∧ Acc 2 0 H v ((fin a (G a b i) i).map runV)) a.length ?_ ?_
    · refine ⟨0, .list [] true, by simp, rfl, rfl, rfl, rfl, rfl, ?_⟩
      exact acc_nil (by decide)
    · rintro k e H ⟨i, v, hi, hk, h0, h1, h6, h5, hac⟩
      by_cases c1 : i < a.length
      · have c2 : i < b.length := by omega
        have g1 := gt_at c1
        have g2 := gt_at c2
        have w2 : IntKind.i64.wrap ((i : Int) + 1) = ((i + 1 : Nat) : Int) := by rw [Fz.w64 (by omega) (by omega)]; omega
        by_cases c3 : gt a i = gt b i
        · simp -dsimp [h0, h1, h6, h5, c1, c2, g1, g2, c3, w2]
          refine ⟨a.length - (i + 1), by omega, i + 1, v, by omega, rfl, ?_⟩
          simp -dsimp [h0, h1, h5]
          rw [fin_same c3]
          exact hac
        · have c4 : decide (gt a i = gt b i) = false := by simp [c3]
          have hmore := fin_more c3
          have hle := G_le a b i
          have hfl := fin_len a b i
          by_cases c5 : (G a b i).2 < i
          · have hi0 : 0 < i := by omega
            have w4 : IntKind.i64.wrap ((i : Int) - 1) = ((i - 1 : Nat) : Int) := by rw [Fz.w64 (by omega) (by omega)]; omega
            have d1 : i - 1 < a.length := by omega
            have d2 : i - 1 < b.length := by omega
            have g3 := gt_at d1
            have g4 := gt_at d2
            have c6 : decide (gt a (i - 1) = gt b (i - 1)) = false := by
              have := (G_prev a b (i - 1)).1 (by rw [show i - 1 + 1 = i from by omega]; exact c5)
              simp [this]
            have hf : fin a (G a b i) i = (G a b i).1 ++ [rn a (G a b i).2 i] := by unfold fin; rw [if_pos c5]
            rw [hf] at hac hfl
            generalize (G a b i).1 = D at *
            generalize (G a b i).2 = s at *
            obtain ⟨u1, u2, u3⟩ := hac
            rcases u3 with ⟨u3, _⟩ | ⟨j, rfl, hj⟩
            · simp at u3
            have hD : D.length < 100000 := by simp at hfl; omega
            have w3 : IntKind.i64.wrap (D.length : Int) = (D.length : Int) := Fz.w64 (by omega) (by omega)
            have hj' : H[j]? = some (.live (flat (D.map runV) ++ [.int .i64 s, byV (rn a s i).b])) := by rw [hj]; simp [rn]
            have hc := flat_runs D
            obtain ⟨c, hcc⟩ : ∃ c, c = flat (D.map runV) := ⟨_, rfl⟩
            rw [← hcc] at hj' hc
            have q1 : List.drop (D.length * 2) (c ++ [V.int .i64 s, byV (rn a s i).b]) = [V.int .i64 s, byV (rn a s i).b] := by rw [← hc, List.drop_left]
            have q2 : List.take (D.length * 2) (c ++ [V.int .i64 s, byV (rn a s i).b]) = c := by rw [← hc, List.take_left]
            simp -dsimp [h0, h1, h6, h5, c1, c2, g1, g2, g3, g4, d1, d2, c4, c6, w2, w3, w4, hi0, hj', wLive_at hj', wMut_at hj', q1, q2]
            refine ⟨by omega, by omega, by omega, by omega, by omega, by omega, by omega, by omega, ?_⟩
            refine ⟨a.length - (i + 1), by omega, i + 1, .own j 0 (D.length + 1) 2, by omega, rfl, ?_⟩
            simp -dsimp [h0, h1, h5]
            rw [hmore]
            have q3 : List.drop (D.length * 2 + 2) (c ++ [V.int .i64 s, byV (rn a s i).b]) = [] := List.drop_eq_nil_of_le (by simp [hc])
            refine ⟨by simp, by decide, .inr ⟨j, by simp, ?_⟩⟩
            rw [q3, List.getElem?_set_self (List.getElem?_eq_some_iff.1 hj').1, hcc]
            simp [rn, runV, byV]
          · have hs : (G a b i).2 = i := by omega
            have hf : fin a (G a b i) i = (G a b i).1 := by unfold fin; rw [if_neg c5]
            rw [hf] at hac hfl
            rw [hs] at hmore
            have hst : gt a i = gt a i := rfl
            have key : ∀ v' J', Acc 2 0 J' v' ((G a b i).1.map runV ++ [runV (rn a i (i + 1))]) → Acc 2 0 J' v' ((fin a (G a b (i + 1)) (i + 1)).map runV) := fun v' J' h => by rw [hmore, List.map_append]; exact h
            have hD : (G a b i).1.length < 100000 := by omega
            generalize (G a b i).1 = D at *
            simp -dsimp [h0, h1, h6, h5, c1, c2, g1, g2, c4, w2]
            rw [acc_len hac]
            by_cases hi0 : 0 < i
            · have w4 : IntKind.i64.wrap ((i : Int) - 1) = ((i - 1 : Nat) : Int) := by rw [Fz.w64 (by omega) (by omega)]; omega
              have d1 : i - 1 < a.length := by omega
              have d2 : i - 1 < b.length := by omega
              have g3 := gt_at d1
              have g4 := gt_at d2
              have c6 : gt a (i - 1) = gt b (i - 1) := by
                have := (G_prev a b (i - 1)).2
                rw [show i - 1 + 1 = i from by omega] at this
                exact Classical.byContradiction fun h => c5 (this h)
              simp -dsimp [h0, h1, h6, h5, c1, c2, g1, g2, g3, g4, d1, d2, c4, c6, w2, w4, hi0]
              refine ⟨by omega, by omega, ?_⟩
              refine app_acc 0 (m := [runV (rn a i (i + 1))]) (acc_ext hac _) (by simp) (by simp [rn, runV, byV]) rfl (by simp) (by simp [runV]) (by simp [capOk]; omega) fun v' J' hac' => ?_
              simp -dsimp [h0, h1, h6, h5, w2]
              refine ⟨a.length - (i + 1), by omega, i + 1, v', by omega, rfl, ?_⟩
              simp -dsimp [h0, h1, h5]
              exact key _ _ hac'
            · simp -dsimp [h0, h1, h6, h5, c1, c2, g1, g2, c4, w2, hi0]
              refine ⟨by omega, by omega, ?_⟩
              refine app_acc 0 (m := [runV (rn a i (i + 1))]) (acc_ext hac _) (by simp) (by simp [rn, runV, byV]) rfl (by simp) (by simp [runV]) (by simp [capOk]; omega) fun v' J' hac' => ?_
              simp -dsimp [h0, h1, h6, h5, w2]
              refine ⟨a.length - (i + 1), by omega, i + 1, v', by omega, rfl, ?_⟩
              simp -dsimp [h0, h1, h5]
              exact key _ _ hac'
      · have hii : i = a.length := by omega
        subst hii
        simp -dsimp [h0, h1, h6, h5, c1, wFix_by, isInl]
        exact frz_acc 0 (k := 11) hac (by simp) (by simp; exact fun x _ => ⟨_, rfl⟩) (fun H' _ _ => by simp [runsF, runsV])
end Fz.D
set_option maxRecDepth 100000
namespace Fz.D
open Go
/-- A run whose room is known. -/
def byT (b : List Int) : V := .list (b.map (V.int .u8)) true
def runT (r : Rn) : V := .agg [.int .i64 r.at_, byT r.b]
@[simp] theorem byT.gd (b : List Int) : ground (byT b) = true := by simp [byT]
@[simp] theorem byT.any (b : List Int) : isAny (byT b) = false := rfl
@[simp] theorem byT.st (b : List Int) : storable (byT b) = true := rfl
@[simp] theorem byT.cells (b : List Int) : cellsOf (byT b) = [byT b] := rfl
@[simp] theorem byT.nr (b : List Int) : nrm (byT b) = byV b := by simp [byT, byV]
@[simp] theorem runT.gd (r : Rn) : ground (runT r) = true := by simp [runT]
@[simp] theorem runT.gk (r : Rn) (k : Nat) : gk (k + 2) (runT r) = true := by simp [runT, byT]
@[simp] theorem runT.any (r : Rn) : isAny (runT r) = false := rfl
@[simp] theorem runT.cells (r : Rn) : cellsOf (runT r) = [.int .i64 r.at_, byT r.b] := rfl
@[simp] theorem runT.nr (r : Rn) : nrm (runT r) = runV r := by simp [runT, runV]
@[simp] theorem runT.nrc : nrm ∘ runT = runV := funext fun x => runT.nr x
@[simp] theorem runT.uni (l : List Rn) : uni 2 (l.map runT) = true := uni_map fun _ => rfl
@[simp] theorem runT.flat (l : List Rn) : flat (l.map runT) = l.flatMap fun r => [.int .i64 r.at_, byT r.b] := by rw [flat_map]; rfl
theorem flat_runsT (l : List Rn) : (flat (l.map runT)).length = l.length * 2 := by rw [uni_flat (n := 2) (by simp)]; simp
abbrev Lp (i : Nat) : Ob := .loop 110 [5] [.ptr i 0] .ready
theorem YF_num : YF = 4000000000 := rfl
theorem yld_s {A B : Ob} {v : V} {r : Rn} {rest : List V} {rs : List Rn} {T : List Ob} {Q : CR → List Ob → Prop} (hr : groundL rest = true) (ha : Acc 2 4 T v (rs.map runT)) (hlen : rs.length ≤ 100000)
    (hq : ∀ v' T', Acc 2 4 T' v' ((rs ++ [r]).map runT) → Q (.ret (.bool true)) (Lp 3 :: A :: B :: .live (v' :: rest) :: T')) :
    WCall p YF [.yld 0, runT r] (Lp 3 :: A :: B :: .live (v :: rest) :: T) Q := by
  have hrr : refsL rest = [] := groundL_refs rest hr
  have hre : ∀ g, renL g rest = rest := fun g => groundL_ren g rest hr
  have h0 : refsL [.yld 0, runT r] = [0] := by
    rw [refsL, refsL, ground_refs _ (runT.gd r)]; simp [refs, refsL]
  have bp : bd110.ps = [38] := rfl
  have i3 : ∀ l, List.idxOf 3 (0 :: 3 :: l) = 1 := fun _ => rfl
  have rr : ∀ g, ren g (runT r) = runT r := fun g => ground_ren g _ (runT.gd r)
  have rb : ∀ g, ren g (byT r.b) = byT r.b := fun g => ground_ren g _ (byT.gd r.b)
  obtain ⟨u1, u2, u3⟩ := ha
  rcases u3 with ⟨u3, rfl⟩ | ⟨j, rfl, hj⟩
  · have hre1 : reach (Lp 3 :: A :: B :: .live (.list [] true :: rest) :: T) 1000 (refsL [.yld 0, runT r]) [] = some [0, 3] := by
      rw [h0]
      show reach _ (997 + 1 + 1 + 1) [0] [] = _
      simp [reach, refsOb, refsL, refs, hrr]
    refine WCall_inl rfl hre1 ?_
    simp -dsimp [renL, ren, renOb, hre, i3, rr]
    refine WFun_round ca110 cb110 (k := 110) rfl rfl rfl rfl rfl ka110 kb110 ?_
    simp -dsimp [ca110, cb110, setPs, envT, assignQ, bp, i3, roundQ]
    refine ⟨by simp [capOk], ?_⟩
    have rs0 : rs = [] := by simpa using u3
    subst rs0
    have k0 : backK [0, 3] (T.length + 1 + 1 + 1 + 1) 0 = 0 := rfl
    have k1 : backK [0, 3] (T.length + 1 + 1 + 1 + 1) 1 = 3 := rfl
    have k4 : backK [0, 3] (T.length + 1 + 1 + 1 + 1) 4 = T.length + 1 + 1 + 1 + 1 + 2 := rfl
    have := hq (.own (T.length + 1 + 1 + 1 + 1 + 2) 0 1 2) (T ++ [.live [.int .i64 r.at_, byT r.b], .live [.int .i64 r.at_, byT r.b], .live [.int .i64 r.at_, byT r.b]])
      ⟨by simp, by decide, .inr ⟨T.length + 2, by simp; omega, by simp⟩⟩
    simp [backH, setAll, renOb, ren, renL, renR, hre, crV, refs, refsL, refsOb, k0, k1, k4, rb]
    exact this
  · have hjl : j < T.length := (List.getElem?_eq_some_iff.1 hj).1
    have hj4 : (Lp 3 :: A :: B :: .live (.own (4 + j) 0 (rs.map runT).length 2 :: rest) :: T)[4 + j]? = some (.live (flat (rs.map runT))) := by
      rw [show 4 + j = j + 1 + 1 + 1 + 1 from by omega]; simpa using hj
    have fr : refsL (flat (rs.map runT)) = [] := groundL_refs _ (by simp)
    have fe : ∀ g, renL g (flat (rs.map runT)) = flat (rs.map runT) := fun g => groundL_ren g _ (by simp)
    have hre1 : reach (Lp 3 :: A :: B :: .live (.own (4 + j) 0 (rs.map runT).length 2 :: rest) :: T) 1000 (refsL [.yld 0, runT r]) [] = some [0, 3, 4 + j] := by
      rw [h0]
      refine (reach_go (k := 999) rfl rfl).trans ?_
      refine (reach_go (k := 998) (by rfl) rfl).trans ?_
      simp only [refsOb, refsL, refs, hrr, List.nil_append, List.cons_append, List.append_nil]
      refine (reach_go (k := 997) (by simp; omega) hj4).trans ?_
      simp only [refsOb, fr, List.append_nil, List.nil_append]
      exact reach_end (k := 996)
    have i4 : List.idxOf (4 + j) [0, 3, 4 + j] = 2 := by
      have e0 : (0 == 4 + j) = false := by rw [beq_eq_false_iff_ne]; omega
      have e3 : (3 == 4 + j) = false := by rw [beq_eq_false_iff_ne]; omega
      simp [List.idxOf_cons, e0, e3]
    have gl := flat_runsT rs
    obtain ⟨c, hc⟩ : ∃ c, c = flat (rs.map runT) := ⟨_, rfl⟩
    rw [← hc] at fr fe hj4 hj gl
    have hj4' := hj4
    have hj5 : (Lp 3 :: A :: B :: .live (.own (4 + j) 0 rs.length 2 :: rest) :: T)[4 + j]?.getD .dead = .live c := by
      rw [show rs.length = (rs.map runT).length from by simp, hj4]; rfl
    refine WCall_inl rfl hre1 ?_
    simp -dsimp [renL, ren, hre, i3, rr, i4, hj5]
    simp -dsimp [renL, ren, renOb, hre, i3, rr, i4, fe]
    refine WFun_round ca110 cb110 (k := 110) rfl rfl rfl rfl rfl ka110 kb110 ?_
    simp -dsimp [ca110, cb110, setPs, envT, assignQ, bp, i3, roundQ]
    have k0 : backK [0, 3, 4 + j] (T.length + 1 + 1 + 1 + 1) 0 = 0 := rfl
    have k1 : backK [0, 3, 4 + j] (T.length + 1 + 1 + 1 + 1) 1 = 3 := rfl
    have k5 : backK [0, 3, 4 + j] (T.length + 1 + 1 + 1 + 1) 5 = T.length + 1 + 1 + 1 + 1 + 2 := rfl
    have tc : List.take (rs.length * 2) c = c := List.take_of_length_le (by omega)
    refine ⟨⟨by omega, by simp [capOk]; omega⟩, ?_⟩
    have := hq (.own (T.length + 1 + 1 + 1 + 1 + 2) 0 (rs.length + 1) 2) (T.set j .dead ++ [.live [.int .i64 r.at_, byT r.b], .live [.int .i64 r.at_, byT r.b], .live (c ++ [.int .i64 r.at_, byT r.b])])
      ⟨by simp, by decide, .inr ⟨T.length + 2, by simp; omega, by simp [hc]⟩⟩
    have f2 : ∀ g, renL g (c ++ [V.int .i64 r.at_, byT r.b]) = c ++ [V.int .i64 r.at_, byT r.b] := fun g => groundL_ren g _ (by rw [hc]; simp)
    have s4 : ∀ (x : Ob), (Lp 3 :: A :: B :: .live (.own (T.length + 1 + 1 + 1 + 1 + 2) 0 (rs.length + 1) 2 :: rest) :: T).set (4 + j) x = Lp 3 :: A :: B :: .live (.own (T.length + 1 + 1 + 1 + 1 + 2) 0 (rs.length + 1) 2 :: rest) :: T.set j x := fun x => by
      rw [show 4 + j = j + 1 + 1 + 1 + 1 from by omega]; rfl
    simp [backH, setAll, renOb, ren, renL, renR, hre, crV, refs, refsL, refsOb, k0, k1, k5, rb, tc, f2]
    rw [s4]
    exact this
end Fz.D
set_option maxRecDepth 100000
namespace Fz.D
open Go
abbrev HR (a b : List Int) (v : V) (rest : List V) (T : List Ob) : List Ob := Lp 3 :: .live [byV a] :: .live [byV b] :: .live (v :: rest) :: T
theorem runs1_s {a b : List Int} {rest : List V} (hb : a.length = b.length) (ha : a.length ≤ 100000) (hr : groundL rest = true) {Q : CR → List Ob → Prop}
    (hq : ∀ v T, Acc 2 4 T v ((runsF a b).map runT) → Q (.ret (.tuple [])) (HR a b v rest T)) :
    WFun p 82 [.yld 0, .ptr 1 0, .ptr 2 0] (HR a b (.list [] true) rest []) Q := by
  refine WFun_of w82 rfl rfl k82 ?_
  simp -dsimp [w82]
  refine xL_by (by kernel_rfl) (fun k e H => ∃ (i : Nat) (v : V) (T : List Ob), i ≤ a.length + 1 ∧ k = a.length + 1 - i ∧ e 0 = .yld 0 ∧ e 1 = .ptr 1 0 ∧ e 2 = .ptr 2 0 ∧ e 4 = .int .i64 i ∧ H = HR a b v rest T ∧
    ((i ≤ a.length ∧ (G a b i).2 = i ∧ Acc 2 4 T v ((G a b i).1.map runT)) ∨ (i = a.length + 1 ∧ Acc 2 4 T v ((runsF a b).map runT)))) (a.length + 1) ?_ ?_
  · refine ⟨0, .list [] true, [], by simp, rfl, rfl, rfl, rfl, rfl, rfl, .inl ⟨by simp, rfl, acc_nil (by decide)⟩⟩
  · rintro k e H ⟨i, v, T, hi, hk, h0, h1, h2, h4, rfl, hc⟩
    by_cases c1 : i < a.length
    · rcases hc with ⟨_, hs, hac⟩ | ⟨hc, _⟩
      · simp -dsimp [h0, h1, h2, h4, c1]
        refine xL_by (by kernel_rfl) (fun k e H => ∃ j : Nat, i ≤ j ∧ j ≤ a.length ∧ k = a.length - j ∧ e 0 = .yld 0 ∧ e 1 = .ptr 1 0 ∧ e 2 = .ptr 2 0 ∧ e 4 = .int .i64 j ∧ e 5 = .int .i64 i ∧ H = HR a b v rest T ∧ G a b j = G a b i) (a.length - i) ?_ ?_
        · refine ⟨i, by omega, by omega, rfl, ?_⟩
          simp -dsimp [h0, h1, h2, h4]
        · rintro k e H ⟨j, hij, hj, hk, h0, h1, h2, h4, h5, rfl, hG⟩
          have w2 : IntKind.i64.wrap ((j : Int) + 1) = ((j + 1 : Nat) : Int) := by rw [Fz.w64 (by omega) (by omega)]; omega
          by_cases c2 : j < a.length
          · have c3 : j < b.length := by omega
            have g1 := gt_at c2
            have g2 := gt_at c3
            cases c4 : decide (gt a j = gt b j) with
            | false =>
              have w2 : IntKind.i64.wrap ((j : Int) + 1) = ((j + 1 : Nat) : Int) := by rw [Fz.w64 (by omega) (by omega)]; omega
              simp -dsimp [h0, h1, h2, h4, h5, c2, c3, g1, g2, c4, w2]
              refine ⟨a.length - (j + 1), by omega, j + 1, by omega, by omega, rfl, ?_⟩
              simp -dsimp [h0, h1, h2, h4, h5]
              rw [G, if_neg (by simpa using c4)]
              exact hG
            | true =>
              by_cases c5 : i < j
              · simp -dsimp [h0, h1, h2, h4, h5, c2, c3, g1, g2, c4, c5]
                refine ⟨⟨by omega, by omega⟩, ?_⟩
                rw [show (V.agg [V.int .i64 i, V.list (List.take (j - i) (List.drop i (List.map (V.int .u8) a))) true]) = runT (rn a i j) from by simp [runT, rn, byT]]
                refine yld_s hr hac (by have := fin_len a b i; unfold fin at this; split at this <;> omega) fun v' T' hac' => ?_
                simp -dsimp [h0, h1, h2, h4, h5, w2]
                refine ⟨a.length + 1 - (j + 1), by omega, j + 1, v', T', by omega, rfl, ?_⟩
                simp -dsimp [h0, h1, h2]
                refine .inl ⟨by omega, by rw [G, if_pos (by simpa using c4)], ?_⟩
                have e : (G a b (j + 1)).1 = (G a b i).1 ++ [rn a i j] := by
                  rw [G, if_pos (by simpa using c4), hG]; simp only [fin, hs, c5, if_true]
                rw [e]; exact hac'
              · have hjj : i = j := by omega
                subst hjj
                simp -dsimp [h0, h1, h2, h4, h5, c2, c3, g1, g2, c4, c5, w2]
                refine ⟨a.length + 1 - (i + 1), by omega, i + 1, v, T, by omega, rfl, ?_⟩
                simp -dsimp [h0, h1, h2]
                refine .inl ⟨by omega, by rw [G, if_pos (by simpa using c4)], ?_⟩
                have e : (G a b (i + 1)).1 = (G a b i).1 := by
                  rw [G, if_pos (by simpa using c4)]; simp only [fin, hs, c5, if_false]
                rw [e]; exact hac
          · have hjj : j = a.length := by omega
            subst hjj
            simp -dsimp [h0, h1, h2, h4, h5, c2, c1]
            refine ⟨by omega, ?_⟩
            rw [show (V.agg [V.int .i64 i, V.list (List.take (a.length - i) (List.drop i (List.map (V.int .u8) a))) true]) = runT (rn a i a.length) from by simp [runT, rn, byT]]
            refine yld_s hr hac (by have := fin_len a b i; unfold fin at this; split at this <;> omega) fun v' T' hac' => ?_
            simp -dsimp [h0, h1, h2, h4, h5, w2]
            refine ⟨a.length + 1 - (a.length + 1), by omega, a.length + 1, v', T', by omega, rfl, ?_⟩
            simp -dsimp [h0, h1, h2]
            have e : runsF a b = (G a b i).1 ++ [rn a i a.length] := by
              unfold runsF
              rw [hG]; simp only [fin, hs, c1, if_true]
            rw [e]; exact .inr hac'
      · omega
    · simp -dsimp [h0, h1, h2, h4, c1]
      refine hq v T ?_
      rcases hc with ⟨hle, hs, hac⟩ | ⟨_, hac⟩
      · have hii : i = a.length := by omega
        subst hii
        have e : runsF a b = (G a b a.length).1 := by
          unfold runsF fin
          rw [if_neg (by omega)]
        rw [e]; exact hac
      · exact hac
end Fz.D
set_option maxRecDepth 100000
namespace Fz.D
open Go
def diffD (f t : St) : De := { mem := runsF f.mem t.mem, dk := (shr inQ f.data t.data : Nat), dt := f.data.drop (shr inQ f.data t.data), rk := (shr sloQ f.ret t.ret : Nat), rt := f.ret.drop (shr sloQ f.ret t.ret), ck := (shr inQ f.ctl t.ctl : Nat), ct := f.ctl.drop (shr inQ f.ctl t.ctl), wk := (shr worQ f.words t.words : Nat), wt := f.words.drop (shr worQ f.words t.words), sk := (shr spoQ f.spots t.spots : Nat), st := f.spots.drop (shr spoQ f.spots t.spots), out := (t.out.length : Int) - f.out.length, r0 := f.ip, r1 := f.here, r2 := f.at_, r3 := f.tok, r4 := f.in_, r5 := f.err, comp := f.comp, halt := f.halt }
/-- A state's lists aren't long. -/
structure StLen (s : St) : Prop where
  mem : s.mem.length ≤ 100000
  data : s.data.length ≤ 100000
  ret : s.ret.length ≤ 100000
  ctl : s.ctl.length ≤ 100000
  words : s.words.length ≤ 100000
  spots : s.spots.length ≤ 100000
  out : s.out.length ≤ 100000000
theorem refDiff_s {f t : St} (hf : StLen f) (ht : StLen t) (hm : f.mem.length = t.mem.length) : Comes p 13 [stV f, stV t] (deV (diffD f t)) := by
  have c0 := refRuns_s (a := f.mem) (b := t.mem) (by omega) hf.mem
  have c1 := cut_s (a := f.data) (b := t.data) (by have := hf.data; omega) (by have := ht.data; omega)
  have c2 := frames_s (a := f.ret) (b := t.ret) (by have := hf.ret; omega) (by have := ht.ret; omega)
  have c3 := cut_s (a := f.ctl) (b := t.ctl) (by have := hf.ctl; omega) (by have := ht.ctl; omega)
  have c4 := names_s (a := f.words) (b := t.words) (by have := hf.words; omega) (by have := ht.words; omega)
  have c5 := places_s (a := f.spots) (b := t.spots) (by have := hf.spots; omega) (by have := ht.spots; omega)
  have w : IntKind.i64.wrap ((t.out.length : Int) - f.out.length) = (t.out.length : Int) - f.out.length := Fz.w64 (by have := hf.out; omega) (by have := ht.out; omega)
  refine Comes_of w13 rfl rfl k13 ?_ ?_ ?_ ?_
  · simp
  · simp
  · simp
  · simp -dsimp [w13, wFix_by, isInl, call_by c1, call_by c2, call_by c3, call_by c4, call_by c5, quiet_by c0, w]
    rfl
theorem runs_s (a b : List Int) {H : List Ob} {Q : CR → List Ob → Prop} (hq : Q (.ret (.fn (.func 82) [] [.ptr H.length 0, .ptr (H.length + 1) 0])) (H ++ [.live [byV a], .live [byV b]])) : xCall p 22 [byV a, byV b] H Q := by
  have h0 : refsL [byV a, byV b] = [] := groundL_refs _ (by simp)
  refine WCall_inl (by kernel_rfl) (ids := []) (by rw [h0]; rfl) ?_
  have r0 : renL (fun i => List.idxOf i ([] : List Nat)) [byV a, byV b] = [byV a, byV b] := groundL_ren _ _ (by simp)
  rw [r0]
  refine WFun_of w22 rfl rfl k22 ?_
  simp -dsimp [w22, renL, ren]
  have ra : ∀ g, ren g (byV a) = byV a := fun g => ground_ren g _ (byV.gd a)
  have rb : ∀ g, ren g (byV b) = byV b := fun g => ground_ren g _ (byV.gd b)
  simpa [renR, ren, renL, backH, crV, refs, refsL, setAll, renOb, backK, ra, rb] using hq
theorem ids_s {o0 o1 o2 : Ob} {v : V} {rest : List V} {a b : List Int} (hr : groundL rest = true) (hv : refs v = []) :
    reach ([o0, o1, o2, .live (v :: rest), .live [byV a], .live [byV b]] ++ [Lp 3]) 1000 [6, 4, 5] [] = some [6, 4, 5, 3] := by
  have hrr : refsL rest = [] := groundL_refs rest hr
  have e1 : refsL [byV a] = [] := groundL_refs _ (by simp)
  have e2 : refsL [byV b] = [] := groundL_refs _ (by simp)
  have e1' : refs (byV a) = [] := ground_refs _ (byV.gd a)
  have e2' : refs (byV b) = [] := ground_refs _ (byV.gd b)
  refine (reach_go (k := 999) rfl rfl).trans ?_
  refine (reach_go (k := 998) rfl rfl).trans ?_
  simp only [refsOb, refsL, refs, e1, List.nil_append, List.cons_append, List.append_nil]
  refine (reach_go (k := 997) rfl rfl).trans ?_
  simp only [refsOb, refsL, refs, e2, List.nil_append, List.cons_append, List.append_nil]
  refine (reach_go (k := 996) rfl rfl).trans ?_
  simp only [refsOb, refsL, refs, hrr, hv, e1', e2', List.nil_append, List.cons_append, List.append_nil]
  exact reach_end (k := 995)
theorem range_s {o0 o1 o2 : Ob} {rest : List V} {a b : List Int} {e : Env} {Q : QX} (hb : a.length = b.length) (ha : a.length ≤ 100000) (hr : groundL rest = true) (h5 : e 5 = .ptr 3 0)
    (hq : ∀ v T, Acc 2 7 T v ((runsF a b).map runT) → Q .normal e (o0 :: o1 :: o2 :: .live (v :: rest) :: .live [byV a] :: .live [byV b] :: .dead :: T)) :
    WRange p 110 (.fn (.func 82) [] [.ptr 4 0, .ptr 5 0]) e [o0, o1, o2, .live (.list [] true :: rest), .live [byV a], .live [byV b]] Q := by
  have hre : ∀ g, renL g rest = rest := fun g => groundL_ren g rest hr
  have hrr : refsL rest = [] := groundL_refs rest hr
  have e1 : refs (byV a) = [] := ground_refs _ (byV.gd a)
  have e2 : refs (byV b) = [] := ground_refs _ (byV.gd b)
  have ra : ∀ g, ren g (byV a) = byV a := fun g => ground_ren g _ (byV.gd a)
  have rb : ∀ g, ren g (byV b) = byV b := fun g => ground_ren g _ (byV.gd b)
  refine WRange_of (ab := bd110) (ids := [6, 4, 5, 3]) rfl (by decide) rfl rfl ?_ ?_
  · have : refsL ([] ++ [V.yld 6] ++ [V.ptr 4 0, V.ptr 5 0]) = [6, 4, 5] := by simp [refsL, refs]
    show reach _ 1000 (refsL ([] ++ [V.yld 6] ++ [V.ptr 4 0, V.ptr 5 0])) [] = _
    rw [this]
    have hk : bd110.keep.map e = [.ptr 3 0] := by show [e 5] = _; rw [h5]
    rw [hk]
    exact ids_s hr (by simp [refs, refsL])
  · have hk : bd110.keep.map e = [.ptr 3 0] := by show [e 5] = _; rw [h5]
    rw [hk]
    have i6 : List.idxOf 6 [6, 4, 5, 3] = 0 := rfl
    have i4 : List.idxOf 4 [6, 4, 5, 3] = 1 := rfl
    have i5 : List.idxOf 5 [6, 4, 5, 3] = 2 := rfl
    have i3 : List.idxOf 3 [6, 4, 5, 3] = 3 := rfl
    have ka : bd110.keep = [5] := rfl
    simp [renL, ren, renOb, i6, i4, i5, i3, hre, ra, rb, ka]
    refine runs1_s hb ha hr fun v T hac => ⟨by simp, ?_⟩
    obtain ⟨u1, u2, u3⟩ := hac
    rcases u3 with ⟨u3, rfl⟩ | ⟨j, rfl, hj⟩
    · refine ⟨.normal, e, _, ?_, hq (.list [] true) [] ⟨u1, u2, .inl ⟨u3, rfl⟩⟩⟩
      have k0 : backK [6, 4, 5, 3] 7 3 = 3 := rfl
      simp [backH, setAll, renOb, ren, renL, renR, hre, crV, refs, refsL, refsOb, hrr, e1, e2, ra, rb, k0, endRange]
    · have k0 : backK [6, 4, 5, 3] 7 3 = 3 := rfl
      have k1 : backK [6, 4, 5, 3] 7 (4 + j) = 7 + j := by simp [backK]; omega
      refine ⟨.normal, e, _, ?_, hq (.own (7 + j) 0 ((runsF a b).map runT).length 2) (T.map (renOb (backK [6, 4, 5, 3] 7))) ⟨u1, u2, .inr ⟨j, rfl, ?_⟩⟩⟩
      · simp [backH, setAll, renOb, ren, renL, renR, hre, crV, refs, refsL, refsOb, hrr, e1, e2, ra, rb, k0, k1, endRange]
      · rw [List.getElem?_map, hj]
        simp only [Option.map_some, renOb]
        rw [groundL_ren _ _ (by simp)]
theorem diff_s {f t : St} (hf : StLen f) (ht : StLen t) (hm : f.mem.length = t.mem.length) : Comes p 11 [stV f, stV t] (deV (diffD f t)) := by
  have c1 := shareInt_s (a := f.data) (b := t.data) (by have := hf.data; omega) (by have := ht.data; omega)
  have c2 := shareSlo_s (a := f.ret) (b := t.ret) (by have := hf.ret; omega) (by have := ht.ret; omega)
  have c3 := shareInt_s (a := f.ctl) (b := t.ctl) (by have := hf.ctl; omega) (by have := ht.ctl; omega)
  have c4 := shareWor_s (a := f.words) (b := t.words) (by have := hf.words; omega) (by have := ht.words; omega)
  have c5 := shareSpo_s (a := f.spots) (b := t.spots) (by have := hf.spots; omega) (by have := ht.spots; omega)
  have w : IntKind.i64.wrap ((t.out.length : Int) - f.out.length) = (t.out.length : Int) - f.out.length := Fz.w64 (by have := hf.out; omega) (by have := ht.out; omega)
  refine Comes_of w11 rfl rfl k11 ?_ ?_ ?_ ?_
  · simp
  · simp
  · simp
  · simp -dsimp [w11, wFix_by, isInl, w]
    refine runs_s _ _ ?_
    simp -dsimp [isInl]
    refine range_s hm hf.mem (by simp) rfl fun v T hac => ?_
    have hst : storable v = true := by
      obtain ⟨_, _, h3⟩ := hac
      rcases h3 with ⟨_, rfl⟩ | ⟨j, rfl, _⟩ <;> rfl
    simp -dsimp [-List.map_drop, drop_map, map_tail2, wFix_by, isInl, call_by c1, call_by c2, call_by c3, call_by c4, call_by c5]
    refine ⟨(shr_le _ _).1, (shr_le _ _).1, (shr_le _ _).1, (shr_le _ _).1, (shr_le _ _).1, hst, ?_⟩
    refine frz_acc 7 (k := 10) hac (by simp [byT]) (by simp; exact fun x _ => ⟨_, rfl⟩) (fun H' _ _ => ?_)
    simp -dsimp [-List.map_drop, drop_map, diffD]
    try rfl
end Fz.D
set_option maxRecDepth 100000
namespace Fz.D
open Go
def by8 (b : List Int) : Prop := ∀ x ∈ b, 0 ≤ x ∧ x < 256
/-- Bytes as a text. -/
def bstr (b : List Int) : ByteArray := bytesV (b.map (V.int .u8))
theorem all8 {b : List Int} (h : by8 b) : allU8 (b.map (V.int .u8)) = true := by
  unfold allU8
  rw [List.all_map, List.all_eq_true]
  intro x hx
  have := h x hx
  simp [this.1, this.2]
def u8f (x : Int) : UInt8 := x.toNat.toUInt8
theorem bstr_eq (b : List Int) : bstr b = ⟨(b.map u8f).toArray⟩ := by
  unfold bstr bytesV
  rw [List.map_map]; rfl
theorem bstr_inj {a b : List Int} (ha : by8 a) (hb : by8 b) (h : bstr a = bstr b) : a = b := by
  rw [bstr_eq, bstr_eq] at h
  have h1 : a.map u8f = b.map u8f := by
    have := congrArg (fun x => x.data.toList) h
    simpa using this
  have key : ∀ (l : List Int), by8 l → (l.map u8f).map (fun u => (u.toNat : Int)) = l := by
    intro l hl
    rw [List.map_map]
    conv => rhs; rw [← List.map_id l]
    refine List.map_congr_left fun x hx => ?_
    have := hl x hx
    have e : (u8f x).toNat = x.toNat := by
      show x.toNat % 256 = _
      omega
    simp only [Function.comp_apply, id_eq, e]
    omega
  rw [← key a ha, ← key b hb, h1]
theorem nmB_len (s : ByteArray) : (nmB s).length = s.size := by
  unfold nmB
  rw [List.length_map, Array.length_toList]; rfl
def fewB (s : St) : Bool := (s.words.take 41).all (fun w => decide (w.name.size ≤ 60)) && (decide (s.mem.length ≤ 600) && (decide (s.data.length ≤ 40) && (decide (s.ret.length ≤ 40) && (decide (s.ctl.length ≤ 200) && (decide (s.words.length ≤ 40) && (decide (s.spots.length ≤ 100) && decide (s.out.length ≤ 200)))))))
theorem all_take {α : Type} {f : α → Bool} {l : List α} {i : Nat} (h : i < l.length) : (l.take (i + 1)).all f = ((l.take i).all f && f l[i]) := by
  rw [List.take_succ_eq_append_getElem h, List.all_append, List.all_cons, List.all_nil, Bool.and_true]
theorem all_false {α : Type} {f : α → Bool} {l : List α} {i n : Nat} (h : i < l.length) (hn : i < n) (hf : f l[i] = false) : (l.take n).all f = false := by
  rw [List.all_eq_false]
  exact ⟨l[i], List.mem_take_iff_getElem.2 ⟨i, by omega, rfl⟩, by simp [hf]⟩
theorem few_s (s : St) : Comes p 9 [stV s] (.bool (fewB s)) := by
  refine Comes_of w9 rfl rfl k9 ?_ ?_ ?_ ?_
  · simp
  · simp
  · simp
  · simp -dsimp [w9, wFix_by, isInl]
    refine xL_by (by kernel_rfl) (fun k e H => ∃ i : Nat, i ≤ 41 ∧ k = 41 - i ∧ e 1 = .ptr 0 0 ∧ e 3 = .int .i64 i ∧ H = [.live (cellsOf (stV s))] ∧ (s.words.take i).all (fun w => decide (w.name.size ≤ 60)) = true) 41 ?_ ?_
    · refine ⟨0, by omega, rfl, ?_⟩
      simp -dsimp
    rintro k e H ⟨i, hi, hk, h1, h3, rfl, hall⟩
    by_cases c1 : i < s.words.length
    · by_cases c2 : i < 41
      · have w2 : IntKind.i64.wrap ((i : Int) + 1) = ((i + 1 : Nat) : Int) := by rw [Fz.w64 (by omega) (by omega)]; omega
        have c2' : (i : Int) < 41 := by omega
        have q := all_take (f := (fun w => decide (w.name.size ≤ 60))) c1
        by_cases c3 : s.words[i].name.size ≤ 60
        · have c3' : ¬ ((s.words[i].name.size : Nat) : Int) > 60 := by omega
          have c3'' : ¬ (60 < ((s.words[i].name.size : Nat) : Int)) := by omega
          simp -dsimp [h1, h3, c1, c2, c2', c3', c3'', w2]
          refine ⟨41 - (i + 1), by omega, i + 1, by omega, rfl, ?_⟩
          rw [q, hall]
          simp -dsimp [h1, h3, c3]
        · have c3' : ((s.words[i].name.size : Nat) : Int) > 60 := by omega
          have c3'' : 60 < ((s.words[i].name.size : Nat) : Int) := by omega
          have z : fewB s = false := by
            have := all_false (f := (fun w => decide (w.name.size ≤ 60))) (n := 41) c1 c2 (by simp; omega)
            unfold fewB
            rw [this]; simp
          simp -dsimp [h1, h3, c1, c2, c2', c3', c3'', wFix_by, isInl, z]
      have hi' : i = 41 := by omega
      have c2' : ¬ (i : Int) < 41 := by omega
      have a0 : (s.words.take 41).all (fun w => decide (w.name.size ≤ 60)) = true := by rw [← hi']; exact hall
      have f0 : ¬ (i < s.words.length ∧ i < 41) := by omega
      by_cases d0 : ¬ s.mem.length ≤ 600
      · have d0' : ¬ (((s.mem.length : Nat) : Int) ≤ 600) := by omega
        simp -dsimp [h1, h3, wFix_by, isInl, c1, c2, c2', d0, d0', fewB]
      rw [Classical.not_not] at d0
      have d0' : (((s.mem.length : Nat) : Int) ≤ 600) := by omega
      by_cases d1 : ¬ s.data.length ≤ 40
      · have d1' : ¬ (((s.data.length : Nat) : Int) ≤ 40) := by omega
        simp -dsimp [h1, h3, wFix_by, isInl, c1, c2, c2', d0, d0', d1, d1', fewB]
      rw [Classical.not_not] at d1
      have d1' : (((s.data.length : Nat) : Int) ≤ 40) := by omega
      by_cases d2 : ¬ s.ret.length ≤ 40
      · have d2' : ¬ (((s.ret.length : Nat) : Int) ≤ 40) := by omega
        simp -dsimp [h1, h3, wFix_by, isInl, c1, c2, c2', d0, d0', d1, d1', d2, d2', fewB]
      rw [Classical.not_not] at d2
      have d2' : (((s.ret.length : Nat) : Int) ≤ 40) := by omega
      by_cases d3 : ¬ s.ctl.length ≤ 200
      · have d3' : ¬ (((s.ctl.length : Nat) : Int) ≤ 200) := by omega
        simp -dsimp [h1, h3, wFix_by, isInl, c1, c2, c2', d0, d0', d1, d1', d2, d2', d3, d3', fewB]
      rw [Classical.not_not] at d3
      have d3' : (((s.ctl.length : Nat) : Int) ≤ 200) := by omega
      by_cases d4 : ¬ s.words.length ≤ 40
      · have d4' : ¬ (((s.words.length : Nat) : Int) ≤ 40) := by omega
        simp -dsimp [h1, h3, wFix_by, isInl, c1, c2, c2', d0, d0', d1, d1', d2, d2', d3, d3', d4, d4', fewB]
      rw [Classical.not_not] at d4
      have d4' : (((s.words.length : Nat) : Int) ≤ 40) := by omega
      by_cases d5 : ¬ s.spots.length ≤ 100
      · have d5' : ¬ (((s.spots.length : Nat) : Int) ≤ 100) := by omega
        simp -dsimp [h1, h3, wFix_by, isInl, c1, c2, c2', d0, d0', d1, d1', d2, d2', d3, d3', d4, d4', d5, d5', fewB]
      rw [Classical.not_not] at d5
      have d5' : (((s.spots.length : Nat) : Int) ≤ 100) := by omega
      by_cases d6 : ¬ s.out.length ≤ 200
      · have d6' : ¬ (((s.out.length : Nat) : Int) ≤ 200) := by omega
        simp -dsimp [h1, h3, wFix_by, isInl, c1, c2, c2', d0, d0', d1, d1', d2, d2', d3, d3', d4, d4', d5, d5', d6, d6', fewB]
      rw [Classical.not_not] at d6
      have d6' : (((s.out.length : Nat) : Int) ≤ 200) := by omega
      simp -dsimp [h1, h3, wFix_by, isInl, c1, c2, c2', d0, d0', d1, d1', d2, d2', d3, d3', d4, d4', d5, d5', d6, d6', a0, fewB]
    have a0 : (s.words.take 41).all (fun w => decide (w.name.size ≤ 60)) = true := by
      rw [List.take_of_length_le (by omega)]
      rw [List.take_of_length_le (by omega)] at hall
      exact hall
    by_cases d0 : ¬ s.mem.length ≤ 600
    · have d0' : ¬ (((s.mem.length : Nat) : Int) ≤ 600) := by omega
      simp -dsimp [h1, h3, wFix_by, isInl, c1, d0, d0', fewB]
    rw [Classical.not_not] at d0
    have d0' : (((s.mem.length : Nat) : Int) ≤ 600) := by omega
    by_cases d1 : ¬ s.data.length ≤ 40
    · have d1' : ¬ (((s.data.length : Nat) : Int) ≤ 40) := by omega
      simp -dsimp [h1, h3, wFix_by, isInl, c1, d0, d0', d1, d1', fewB]
    rw [Classical.not_not] at d1
    have d1' : (((s.data.length : Nat) : Int) ≤ 40) := by omega
    by_cases d2 : ¬ s.ret.length ≤ 40
    · have d2' : ¬ (((s.ret.length : Nat) : Int) ≤ 40) := by omega
      simp -dsimp [h1, h3, wFix_by, isInl, c1, d0, d0', d1, d1', d2, d2', fewB]
    rw [Classical.not_not] at d2
    have d2' : (((s.ret.length : Nat) : Int) ≤ 40) := by omega
    by_cases d3 : ¬ s.ctl.length ≤ 200
    · have d3' : ¬ (((s.ctl.length : Nat) : Int) ≤ 200) := by omega
      simp -dsimp [h1, h3, wFix_by, isInl, c1, d0, d0', d1, d1', d2, d2', d3, d3', fewB]
    rw [Classical.not_not] at d3
    have d3' : (((s.ctl.length : Nat) : Int) ≤ 200) := by omega
    by_cases d4 : ¬ s.words.length ≤ 40
    · have d4' : ¬ (((s.words.length : Nat) : Int) ≤ 40) := by omega
      simp -dsimp [h1, h3, wFix_by, isInl, c1, d0, d0', d1, d1', d2, d2', d3, d3', d4, d4', fewB]
    rw [Classical.not_not] at d4
    have d4' : (((s.words.length : Nat) : Int) ≤ 40) := by omega
    by_cases d5 : ¬ s.spots.length ≤ 100
    · have d5' : ¬ (((s.spots.length : Nat) : Int) ≤ 100) := by omega
      simp -dsimp [h1, h3, wFix_by, isInl, c1, d0, d0', d1, d1', d2, d2', d3, d3', d4, d4', d5, d5', fewB]
    rw [Classical.not_not] at d5
    have d5' : (((s.spots.length : Nat) : Int) ≤ 100) := by omega
    by_cases d6 : ¬ s.out.length ≤ 200
    · have d6' : ¬ (((s.out.length : Nat) : Int) ≤ 200) := by omega
      simp -dsimp [h1, h3, wFix_by, isInl, c1, d0, d0', d1, d1', d2, d2', d3, d3', d4, d4', d5, d5', d6, d6', fewB]
    rw [Classical.not_not] at d6
    have d6' : (((s.out.length : Nat) : Int) ≤ 200) := by omega
    simp -dsimp [h1, h3, wFix_by, isInl, c1, d0, d0', d1, d1', d2, d2', d3, d3', d4, d4', d5, d5', d6, d6', a0, fewB]
def fewD (d : De) : Bool := (d.mem.take 21).all (fun w => decide (w.b.length ≤ 100)) && ((d.wt.take 21).all (fun w => decide (w.name.size ≤ 60)) && (decide (d.mem.length ≤ 20) && (decide (d.dt.length ≤ 20) && (decide (d.rt.length ≤ 20) && (decide (d.ct.length ≤ 20) && (decide (d.wt.length ≤ 20) && decide (d.st.length ≤ 20)))))))
theorem few18_s (d : De) : Comes p 16 [deV d] (.bool (fewD d)) := by
  refine Comes_of w16 rfl rfl k16 ?_ ?_ ?_ ?_
  · simp
  · simp
  · simp
  · simp -dsimp [w16, wFix_by, isInl]
    refine xL_by (by kernel_rfl) (fun k e H => ∃ i : Nat, i ≤ 21 ∧ k = 21 - i ∧ e 1 = .ptr 0 0 ∧ e 3 = .int .i64 i ∧ H = [.live (cellsOf (deV d))] ∧ (d.mem.take i).all (fun w => decide (w.b.length ≤ 100)) = true) 21 ?_ ?_
    · refine ⟨0, by omega, rfl, ?_⟩
      simp -dsimp
    rintro k e H ⟨i, hi, hk, h1, h3, rfl, hall⟩
    by_cases c1 : i < d.mem.length
    · by_cases c2 : i < 21
      · have w2 : IntKind.i64.wrap ((i : Int) + 1) = ((i + 1 : Nat) : Int) := by rw [Fz.w64 (by omega) (by omega)]; omega
        have c2' : (i : Int) < 21 := by omega
        have q := all_take (f := (fun w => decide (w.b.length ≤ 100))) c1
        by_cases c3 : d.mem[i].b.length ≤ 100
        · have c3' : ¬ ((d.mem[i].b.length : Nat) : Int) > 100 := by omega
          have c3'' : ¬ (100 < ((d.mem[i].b.length : Nat) : Int)) := by omega
          simp -dsimp [h1, h3, c1, c2, c2', c3', c3'', w2]
          refine ⟨21 - (i + 1), by omega, i + 1, by omega, rfl, ?_⟩
          rw [q, hall]
          simp -dsimp [h1, h3, c3]
        · have c3' : ((d.mem[i].b.length : Nat) : Int) > 100 := by omega
          have c3'' : 100 < ((d.mem[i].b.length : Nat) : Int) := by omega
          have z : fewD d = false := by
            have := all_false (f := (fun w => decide (w.b.length ≤ 100))) (n := 21) c1 c2 (by simp; omega)
            unfold fewD
            rw [this]; simp
          simp -dsimp [h1, h3, c1, c2, c2', c3', c3'', wFix_by, isInl, z]
      have hi' : i = 21 := by omega
      have c2' : ¬ (i : Int) < 21 := by omega
      have a0 : (d.mem.take 21).all (fun w => decide (w.b.length ≤ 100)) = true := by rw [← hi']; exact hall
      have f0 : ¬ (i < d.mem.length ∧ i < 21) := by omega
      simp -dsimp [h1, h3, c1, c2, c2']
      refine xL_by (by kernel_rfl) (fun k e H => ∃ i : Nat, i ≤ 21 ∧ k = 21 - i ∧ e 1 = .ptr 0 0 ∧ e 4 = .int .i64 i ∧ H = [.live (cellsOf (deV d))] ∧ (d.wt.take i).all (fun w => decide (w.name.size ≤ 60)) = true) 21 ?_ ?_
      · refine ⟨0, by omega, rfl, ?_⟩
        simp -dsimp [h1]
      rintro k e H ⟨i, hi, hk, h1, h3, rfl, hall⟩
      by_cases c1 : i < d.wt.length
      · by_cases c2 : i < 21
        · have w2 : IntKind.i64.wrap ((i : Int) + 1) = ((i + 1 : Nat) : Int) := by rw [Fz.w64 (by omega) (by omega)]; omega
          have c2' : (i : Int) < 21 := by omega
          have q := all_take (f := (fun w => decide (w.name.size ≤ 60))) c1
          by_cases c3 : d.wt[i].name.size ≤ 60
          · have c3' : ¬ ((d.wt[i].name.size : Nat) : Int) > 60 := by omega
            have c3'' : ¬ (60 < ((d.wt[i].name.size : Nat) : Int)) := by omega
            simp -dsimp [h1, h3, c1, c2, c2', c3', c3'', w2]
            refine ⟨21 - (i + 1), by omega, i + 1, by omega, rfl, ?_⟩
            rw [q, hall]
            simp -dsimp [h1, h3, c3]
          · have c3' : ((d.wt[i].name.size : Nat) : Int) > 60 := by omega
            have c3'' : 60 < ((d.wt[i].name.size : Nat) : Int) := by omega
            have z : fewD d = false := by
              have := all_false (f := (fun w => decide (w.name.size ≤ 60))) (n := 21) c1 c2 (by simp; omega)
              unfold fewD
              rw [this]; simp
            simp -dsimp [h1, h3, c1, c2, c2', c3', c3'', wFix_by, isInl, z]
        have hi' : i = 21 := by omega
        have c2' : ¬ (i : Int) < 21 := by omega
        have a1 : (d.wt.take 21).all (fun w => decide (w.name.size ≤ 60)) = true := by rw [← hi']; exact hall
        have f1 : ¬ (i < d.wt.length ∧ i < 21) := by omega
        by_cases d0 : ¬ d.mem.length ≤ 20
        · have d0' : ¬ (((d.mem.length : Nat) : Int) ≤ 20) := by omega
          simp -dsimp [h1, h3, wFix_by, isInl, c1, c2, c2', d0, d0', fewD]
        rw [Classical.not_not] at d0
        have d0' : (((d.mem.length : Nat) : Int) ≤ 20) := by omega
        by_cases d1 : ¬ d.dt.length ≤ 20
        · have d1' : ¬ (((d.dt.length : Nat) : Int) ≤ 20) := by omega
          simp -dsimp [h1, h3, wFix_by, isInl, c1, c2, c2', d0, d0', d1, d1', fewD]
        rw [Classical.not_not] at d1
        have d1' : (((d.dt.length : Nat) : Int) ≤ 20) := by omega
        by_cases d2 : ¬ d.rt.length ≤ 20
        · have d2' : ¬ (((d.rt.length : Nat) : Int) ≤ 20) := by omega
          simp -dsimp [h1, h3, wFix_by, isInl, c1, c2, c2', d0, d0', d1, d1', d2, d2', fewD]
        rw [Classical.not_not] at d2
        have d2' : (((d.rt.length : Nat) : Int) ≤ 20) := by omega
        by_cases d3 : ¬ d.ct.length ≤ 20
        · have d3' : ¬ (((d.ct.length : Nat) : Int) ≤ 20) := by omega
          simp -dsimp [h1, h3, wFix_by, isInl, c1, c2, c2', d0, d0', d1, d1', d2, d2', d3, d3', fewD]
        rw [Classical.not_not] at d3
        have d3' : (((d.ct.length : Nat) : Int) ≤ 20) := by omega
        by_cases d4 : ¬ d.wt.length ≤ 20
        · have d4' : ¬ (((d.wt.length : Nat) : Int) ≤ 20) := by omega
          simp -dsimp [h1, h3, wFix_by, isInl, c1, c2, c2', d0, d0', d1, d1', d2, d2', d3, d3', d4, d4', fewD]
        rw [Classical.not_not] at d4
        have d4' : (((d.wt.length : Nat) : Int) ≤ 20) := by omega
        by_cases d5 : ¬ d.st.length ≤ 20
        · have d5' : ¬ (((d.st.length : Nat) : Int) ≤ 20) := by omega
          simp -dsimp [h1, h3, wFix_by, isInl, c1, c2, c2', d0, d0', d1, d1', d2, d2', d3, d3', d4, d4', d5, d5', fewD]
        rw [Classical.not_not] at d5
        have d5' : (((d.st.length : Nat) : Int) ≤ 20) := by omega
        simp -dsimp [h1, h3, wFix_by, isInl, c1, c2, c2', d0, d0', d1, d1', d2, d2', d3, d3', d4, d4', d5, d5', a0, a1, fewD]
      have a1 : (d.wt.take 21).all (fun w => decide (w.name.size ≤ 60)) = true := by
        rw [List.take_of_length_le (by omega)]
        rw [List.take_of_length_le (by omega)] at hall
        exact hall
      by_cases d0 : ¬ d.mem.length ≤ 20
      · have d0' : ¬ (((d.mem.length : Nat) : Int) ≤ 20) := by omega
        simp -dsimp [h1, h3, wFix_by, isInl, c1, d0, d0', fewD]
      rw [Classical.not_not] at d0
      have d0' : (((d.mem.length : Nat) : Int) ≤ 20) := by omega
      by_cases d1 : ¬ d.dt.length ≤ 20
      · have d1' : ¬ (((d.dt.length : Nat) : Int) ≤ 20) := by omega
        simp -dsimp [h1, h3, wFix_by, isInl, c1, d0, d0', d1, d1', fewD]
      rw [Classical.not_not] at d1
      have d1' : (((d.dt.length : Nat) : Int) ≤ 20) := by omega
      by_cases d2 : ¬ d.rt.length ≤ 20
      · have d2' : ¬ (((d.rt.length : Nat) : Int) ≤ 20) := by omega
        simp -dsimp [h1, h3, wFix_by, isInl, c1, d0, d0', d1, d1', d2, d2', fewD]
      rw [Classical.not_not] at d2
      have d2' : (((d.rt.length : Nat) : Int) ≤ 20) := by omega
      by_cases d3 : ¬ d.ct.length ≤ 20
      · have d3' : ¬ (((d.ct.length : Nat) : Int) ≤ 20) := by omega
        simp -dsimp [h1, h3, wFix_by, isInl, c1, d0, d0', d1, d1', d2, d2', d3, d3', fewD]
      rw [Classical.not_not] at d3
      have d3' : (((d.ct.length : Nat) : Int) ≤ 20) := by omega
      by_cases d4 : ¬ d.wt.length ≤ 20
      · have d4' : ¬ (((d.wt.length : Nat) : Int) ≤ 20) := by omega
        simp -dsimp [h1, h3, wFix_by, isInl, c1, d0, d0', d1, d1', d2, d2', d3, d3', d4, d4', fewD]
      rw [Classical.not_not] at d4
      have d4' : (((d.wt.length : Nat) : Int) ≤ 20) := by omega
      by_cases d5 : ¬ d.st.length ≤ 20
      · have d5' : ¬ (((d.st.length : Nat) : Int) ≤ 20) := by omega
        simp -dsimp [h1, h3, wFix_by, isInl, c1, d0, d0', d1, d1', d2, d2', d3, d3', d4, d4', d5, d5', fewD]
      rw [Classical.not_not] at d5
      have d5' : (((d.st.length : Nat) : Int) ≤ 20) := by omega
      simp -dsimp [h1, h3, wFix_by, isInl, c1, d0, d0', d1, d1', d2, d2', d3, d3', d4, d4', d5, d5', a0, a1, fewD]
    have a0 : (d.mem.take 21).all (fun w => decide (w.b.length ≤ 100)) = true := by
      rw [List.take_of_length_le (by omega)]
      rw [List.take_of_length_le (by omega)] at hall
      exact hall
    simp -dsimp [h1, h3, c1]
    refine xL_by (by kernel_rfl) (fun k e H => ∃ i : Nat, i ≤ 21 ∧ k = 21 - i ∧ e 1 = .ptr 0 0 ∧ e 4 = .int .i64 i ∧ H = [.live (cellsOf (deV d))] ∧ (d.wt.take i).all (fun w => decide (w.name.size ≤ 60)) = true) 21 ?_ ?_
    · refine ⟨0, by omega, rfl, ?_⟩
      simp -dsimp [h1]
    rintro k e H ⟨i, hi, hk, h1, h3, rfl, hall⟩
    by_cases c1 : i < d.wt.length
    · by_cases c2 : i < 21
      · have w2 : IntKind.i64.wrap ((i : Int) + 1) = ((i + 1 : Nat) : Int) := by rw [Fz.w64 (by omega) (by omega)]; omega
        have c2' : (i : Int) < 21 := by omega
        have q := all_take (f := (fun w => decide (w.name.size ≤ 60))) c1
        by_cases c3 : d.wt[i].name.size ≤ 60
        · have c3' : ¬ ((d.wt[i].name.size : Nat) : Int) > 60 := by omega
          have c3'' : ¬ (60 < ((d.wt[i].name.size : Nat) : Int)) := by omega
          simp -dsimp [h1, h3, c1, c2, c2', c3', c3'', w2]
          refine ⟨21 - (i + 1), by omega, i + 1, by omega, rfl, ?_⟩
          rw [q, hall]
          simp -dsimp [h1, h3, c3]
        · have c3' : ((d.wt[i].name.size : Nat) : Int) > 60 := by omega
          have c3'' : 60 < ((d.wt[i].name.size : Nat) : Int) := by omega
          have z : fewD d = false := by
            have := all_false (f := (fun w => decide (w.name.size ≤ 60))) (n := 21) c1 c2 (by simp; omega)
            unfold fewD
            rw [this]; simp
          simp -dsimp [h1, h3, c1, c2, c2', c3', c3'', wFix_by, isInl, z]
      have hi' : i = 21 := by omega
      have c2' : ¬ (i : Int) < 21 := by omega
      have a1 : (d.wt.take 21).all (fun w => decide (w.name.size ≤ 60)) = true := by rw [← hi']; exact hall
      have f1 : ¬ (i < d.wt.length ∧ i < 21) := by omega
      by_cases d0 : ¬ d.mem.length ≤ 20
      · have d0' : ¬ (((d.mem.length : Nat) : Int) ≤ 20) := by omega
        simp -dsimp [h1, h3, wFix_by, isInl, c1, c2, c2', d0, d0', fewD]
      rw [Classical.not_not] at d0
      have d0' : (((d.mem.length : Nat) : Int) ≤ 20) := by omega
      by_cases d1 : ¬ d.dt.length ≤ 20
      · have d1' : ¬ (((d.dt.length : Nat) : Int) ≤ 20) := by omega
        simp -dsimp [h1, h3, wFix_by, isInl, c1, c2, c2', d0, d0', d1, d1', fewD]
      rw [Classical.not_not] at d1
      have d1' : (((d.dt.length : Nat) : Int) ≤ 20) := by omega
      by_cases d2 : ¬ d.rt.length ≤ 20
      · have d2' : ¬ (((d.rt.length : Nat) : Int) ≤ 20) := by omega
        simp -dsimp [h1, h3, wFix_by, isInl, c1, c2, c2', d0, d0', d1, d1', d2, d2', fewD]
      rw [Classical.not_not] at d2
      have d2' : (((d.rt.length : Nat) : Int) ≤ 20) := by omega
      by_cases d3 : ¬ d.ct.length ≤ 20
      · have d3' : ¬ (((d.ct.length : Nat) : Int) ≤ 20) := by omega
        simp -dsimp [h1, h3, wFix_by, isInl, c1, c2, c2', d0, d0', d1, d1', d2, d2', d3, d3', fewD]
      rw [Classical.not_not] at d3
      have d3' : (((d.ct.length : Nat) : Int) ≤ 20) := by omega
      by_cases d4 : ¬ d.wt.length ≤ 20
      · have d4' : ¬ (((d.wt.length : Nat) : Int) ≤ 20) := by omega
        simp -dsimp [h1, h3, wFix_by, isInl, c1, c2, c2', d0, d0', d1, d1', d2, d2', d3, d3', d4, d4', fewD]
      rw [Classical.not_not] at d4
      have d4' : (((d.wt.length : Nat) : Int) ≤ 20) := by omega
      by_cases d5 : ¬ d.st.length ≤ 20
      · have d5' : ¬ (((d.st.length : Nat) : Int) ≤ 20) := by omega
        simp -dsimp [h1, h3, wFix_by, isInl, c1, c2, c2', d0, d0', d1, d1', d2, d2', d3, d3', d4, d4', d5, d5', fewD]
      rw [Classical.not_not] at d5
      have d5' : (((d.st.length : Nat) : Int) ≤ 20) := by omega
      simp -dsimp [h1, h3, wFix_by, isInl, c1, c2, c2', d0, d0', d1, d1', d2, d2', d3, d3', d4, d4', d5, d5', a0, a1, fewD]
    have a1 : (d.wt.take 21).all (fun w => decide (w.name.size ≤ 60)) = true := by
      rw [List.take_of_length_le (by omega)]
      rw [List.take_of_length_le (by omega)] at hall
      exact hall
    by_cases d0 : ¬ d.mem.length ≤ 20
    · have d0' : ¬ (((d.mem.length : Nat) : Int) ≤ 20) := by omega
      simp -dsimp [h1, h3, wFix_by, isInl, c1, d0, d0', fewD]
    rw [Classical.not_not] at d0
    have d0' : (((d.mem.length : Nat) : Int) ≤ 20) := by omega
    by_cases d1 : ¬ d.dt.length ≤ 20
    · have d1' : ¬ (((d.dt.length : Nat) : Int) ≤ 20) := by omega
      simp -dsimp [h1, h3, wFix_by, isInl, c1, d0, d0', d1, d1', fewD]
    rw [Classical.not_not] at d1
    have d1' : (((d.dt.length : Nat) : Int) ≤ 20) := by omega
    by_cases d2 : ¬ d.rt.length ≤ 20
    · have d2' : ¬ (((d.rt.length : Nat) : Int) ≤ 20) := by omega
      simp -dsimp [h1, h3, wFix_by, isInl, c1, d0, d0', d1, d1', d2, d2', fewD]
    rw [Classical.not_not] at d2
    have d2' : (((d.rt.length : Nat) : Int) ≤ 20) := by omega
    by_cases d3 : ¬ d.ct.length ≤ 20
    · have d3' : ¬ (((d.ct.length : Nat) : Int) ≤ 20) := by omega
      simp -dsimp [h1, h3, wFix_by, isInl, c1, d0, d0', d1, d1', d2, d2', d3, d3', fewD]
    rw [Classical.not_not] at d3
    have d3' : (((d.ct.length : Nat) : Int) ≤ 20) := by omega
    by_cases d4 : ¬ d.wt.length ≤ 20
    · have d4' : ¬ (((d.wt.length : Nat) : Int) ≤ 20) := by omega
      simp -dsimp [h1, h3, wFix_by, isInl, c1, d0, d0', d1, d1', d2, d2', d3, d3', d4, d4', fewD]
    rw [Classical.not_not] at d4
    have d4' : (((d.wt.length : Nat) : Int) ≤ 20) := by omega
    by_cases d5 : ¬ d.st.length ≤ 20
    · have d5' : ¬ (((d.st.length : Nat) : Int) ≤ 20) := by omega
      simp -dsimp [h1, h3, wFix_by, isInl, c1, d0, d0', d1, d1', d2, d2', d3, d3', d4, d4', d5, d5', fewD]
    rw [Classical.not_not] at d5
    have d5' : (((d.st.length : Nat) : Int) ≤ 20) := by omega
    simp -dsimp [h1, h3, wFix_by, isInl, c1, d0, d0', d1, d1', d2, d2', d3, d3', d4, d4', d5, d5', a0, a1, fewD]
end Fz.D
set_option maxRecDepth 100000
namespace Fz.D
open Go
theorem by8_app {a b : List Int} (ha : by8 a) (hb : by8 b) : by8 (a ++ b) := fun x hx => by
  rcases List.mem_append.1 hx with h | h
  · exact ha x h
  · exact hb x h
theorem by8_nil : by8 [] := fun x hx => by cases hx
theorem by8_cat {ls : List (List Int)} (h : ∀ l ∈ ls, by8 l) : by8 (cat ls) := fun x hx => by
  obtain ⟨l, hl, hx⟩ := List.mem_flatten.1 hx
  exact h l hl x hx
theorem by8_numC : ∀ (k x : Nat), x < 2 ^ k → by8 (numC x)
  | 0, x, h => by
    have : x = 0 := by simpa using h
    subst this; rw [numC_zero]; exact by8_nil
  | k + 1, x, h => by
    by_cases h0 : x = 0
    · subst h0; rw [numC_zero]; exact by8_nil
    · rw [numC_pos h0]
      refine by8_app (by8_numC k (x / 128) (by rw [Nat.pow_succ] at h; omega)) fun y hy => ?_
      simp only [List.mem_cons, List.not_mem_nil, or_false] at hy
      omega
theorem by8_numB (x : Nat) : by8 (numB x) := by
  unfold numB
  refine by8_app (by8_numC (x / 128) (x / 128) Nat.lt_two_pow_self) fun y hy => ?_
  simp only [List.mem_cons, List.not_mem_nil, or_false] at hy
  omega
theorem by8_encN (n : Int) : by8 (encN n) := by8_numB _
theorem by8_encs (l : List Int) : by8 (encs l) := by8_cat fun x hx => by
  obtain ⟨n, _, rfl⟩ := List.mem_map.1 hx
  exact by8_encN n
theorem by8_encL {α : Type} {f : α → List Int} {l : List α} (h : ∀ a ∈ l, by8 (f a)) : by8 (encL f l) := by8_cat fun x hx => by
  obtain ⟨a, ha, rfl⟩ := List.mem_map.1 hx
  exact h a ha
theorem by8_nmB (s : ByteArray) : by8 (nmB s) := fun x hx => by
  obtain ⟨b, _, rfl⟩ := List.mem_map.1 hx
  have := b.toNat_lt
  omega
theorem by8_txt {b : List Int} (h : by8 b) : by8 (txt b) := by8_app (by8_encN _) h
theorem by8_encD {d : De} (h : ∀ r ∈ d.mem, by8 r.b) : by8 (encD d) := by
  unfold encD
  have h1 : by8 (encL encRun d.mem) := by8_encL fun r hr => by8_app (by8_encN _) (by8_txt (h r hr))
  have h2 : by8 (encL encSlo d.rt) := by8_encL fun r _ => by8_encs _
  have h3 : by8 (encL encWor d.wt) := by8_encL fun r _ => by8_app (by8_txt (by8_nmB _)) (by8_encs _)
  have h4 : by8 (encL encSpo d.st) := by8_encL fun r _ => by8_encs _
  exact by8_app (by8_app (by8_app (by8_app (by8_app (by8_app (by8_app (by8_app (by8_app (by8_encN _) h1) (by8_app (by8_app (by8_encN _) (by8_encN _)) (by8_encs _))) (by8_app (by8_app (by8_encN _) (by8_encN _)) h2)) (by8_app (by8_app (by8_encN _) (by8_encN _)) (by8_encs _)))
    (by8_app (by8_app (by8_encN _) (by8_encN _)) h3)) (by8_app (by8_app (by8_encN _) (by8_encN _)) h4)) (by8_encs _)) (by8_encs _)) (by8_encs _)
theorem bstr_fold (b : List Int) : bytesV (b.map (V.int .u8)) = bstr b := rfl
theorem tk_map {α β : Type} (f : α → β) (l : List α) (n : Nat) : List.take n (List.map f l) = (l.take n).map f := List.map_take.symm
def nearB (f t : St) : Bool := decide (f.mem.length = t.mem.length) && (decide (f.out.length ≤ t.out.length) && decide (bstr (t.out.take f.out.length) = bstr f.out))
theorem near_s {f t : St} (hf : by8 f.out) (ht : by8 t.out) : Comes p 10 [stV f, stV t] (.bool (nearB f t)) := by
  refine Comes_of w10 rfl rfl k10 ?_ ?_ ?_ ?_
  · simp
  · simp
  · simp
  · have c0 : decide ((f.mem.length : Int) = t.mem.length) = decide (f.mem.length = t.mem.length) := decide_eq_decide.2 Int.natCast_inj
    cases c1 : decide (f.mem.length = t.mem.length) with
    | false =>
      rw [c1] at c0
      simp -dsimp [w10, wFix_by, isInl, c0, c1, nearB]
    | true =>
      rw [c1] at c0
      by_cases c2 : f.out.length ≤ t.out.length
      · have c2' : (f.out.length : Int) ≤ t.out.length := by omega
        have a1 := all8 hf
        have a2 : allU8 ((t.out.take f.out.length).map (V.int .u8)) = true := all8 fun x hx => ht x (List.mem_of_mem_take hx)
        simp -dsimp [-List.map_take, tk_map, w10, wFix_by, isInl, c0, c1, c2, c2', nearB, byV, a1, a2, bstr_fold]
      · have c2' : ¬ (f.out.length : Int) ≤ t.out.length := by omega
        simp -dsimp [w10, wFix_by, isInl, c0, c1, c2, c2', nearB]
theorem ints_self {a : List Int} (ha : a.length ≤ 1000000) : Comes p 56 [inV a, inV a] (.bool true) := by
  refine Comes_of w56 rfl rfl k56 ?_ ?_ ?_ ?_
  · simp
  · simp
  · simp
  · simp -dsimp [w56, wFix_by, isInl]
    refine xL_by (by kernel_rfl) (fun k e H => ∃ i : Nat, i ≤ a.length ∧ k = a.length - i ∧ e 0 = inV a ∧ e 1 = inV a ∧ e 5 = .int .i64 i) a.length ?_ ?_
    · refine ⟨0, by omega, rfl, ?_⟩
      simp -dsimp
    · rintro k e H ⟨i, hi, hk, h0, h1, h5⟩
      by_cases c1 : i < a.length
      · have g1 : a[i]?.getD default = a[i] := by simp [c1]
        have w2 : IntKind.i64.wrap ((i : Int) + 1) = ((i + 1 : Nat) : Int) := by rw [Fz.w64 (by omega) (by omega)]; omega
        have z : inQ a[i] a[i] = true := by simp [inQ]
        simp -dsimp [h0, h1, h5, wFix_by, isInl, inV, c1, g1, wOpt, w2, z]
        refine ⟨a.length - (i + 1), by omega, i + 1, by omega, rfl, ?_⟩
        simp -dsimp [h0, h1, inV]
      · simp -dsimp [h0, h1, h5, wFix_by, isInl, c1]
theorem slots_self {a : List Slo} (ha : a.length ≤ 1000000) : Comes p 57 [slosV a, slosV a] (.bool true) := by
  refine Comes_of w57 rfl rfl k57 ?_ ?_ ?_ ?_
  · simp
  · simp
  · simp
  · simp -dsimp [w57, wFix_by, isInl]
    refine xL_by (by kernel_rfl) (fun k e H => ∃ i : Nat, i ≤ a.length ∧ k = a.length - i ∧ e 0 = slosV a ∧ e 1 = slosV a ∧ e 5 = .int .i64 i) a.length ?_ ?_
    · refine ⟨0, by omega, rfl, ?_⟩
      simp -dsimp
    · rintro k e H ⟨i, hi, hk, h0, h1, h5⟩
      by_cases c1 : i < a.length
      · have g1 : a[i]?.getD default = a[i] := by simp [c1]
        have w2 : IntKind.i64.wrap ((i : Int) + 1) = ((i + 1 : Nat) : Int) := by rw [Fz.w64 (by omega) (by omega)]; omega
        have z : sloQ a[i] a[i] = true := by simp [sloQ]
        simp -dsimp [h0, h1, h5, wFix_by, isInl, slosV, c1, g1, wOpt, w2, slo_leaves, z]
        refine ⟨a.length - (i + 1), by omega, i + 1, by omega, rfl, ?_⟩
        simp -dsimp [h0, h1, slosV]
      · simp -dsimp [h0, h1, h5, wFix_by, isInl, c1]
theorem words_self {a : List Wor} (ha : a.length ≤ 1000000) : Comes p 58 [worsV a, worsV a] (.bool true) := by
  refine Comes_of w58 rfl rfl k58 ?_ ?_ ?_ ?_
  · simp
  · simp
  · simp
  · simp -dsimp [w58, wFix_by, isInl]
    refine xL_by (by kernel_rfl) (fun k e H => ∃ i : Nat, i ≤ a.length ∧ k = a.length - i ∧ e 0 = worsV a ∧ e 1 = worsV a ∧ e 5 = .int .i64 i) a.length ?_ ?_
    · refine ⟨0, by omega, rfl, ?_⟩
      simp -dsimp
    · rintro k e H ⟨i, hi, hk, h0, h1, h5⟩
      by_cases c1 : i < a.length
      · have g1 : a[i]?.getD default = a[i] := by simp [c1]
        have w2 : IntKind.i64.wrap ((i : Int) + 1) = ((i + 1 : Nat) : Int) := by rw [Fz.w64 (by omega) (by omega)]; omega
        have z : worQ a[i] a[i] = true := by simp [worQ]
        simp -dsimp [h0, h1, h5, wFix_by, isInl, worsV, c1, g1, wOpt, w2, wor_leaves, z]
        refine ⟨a.length - (i + 1), by omega, i + 1, by omega, rfl, ?_⟩
        simp -dsimp [h0, h1, worsV]
      · simp -dsimp [h0, h1, h5, wFix_by, isInl, c1]
theorem spots_self {a : List Spo} (ha : a.length ≤ 1000000) : Comes p 59 [sposV a, sposV a] (.bool true) := by
  refine Comes_of w59 rfl rfl k59 ?_ ?_ ?_ ?_
  · simp
  · simp
  · simp
  · simp -dsimp [w59, wFix_by, isInl]
    refine xL_by (by kernel_rfl) (fun k e H => ∃ i : Nat, i ≤ a.length ∧ k = a.length - i ∧ e 0 = sposV a ∧ e 1 = sposV a ∧ e 5 = .int .i64 i) a.length ?_ ?_
    · refine ⟨0, by omega, rfl, ?_⟩
      simp -dsimp
    · rintro k e H ⟨i, hi, hk, h0, h1, h5⟩
      by_cases c1 : i < a.length
      · have g1 : a[i]?.getD default = a[i] := by simp [c1]
        have w2 : IntKind.i64.wrap ((i : Int) + 1) = ((i + 1 : Nat) : Int) := by rw [Fz.w64 (by omega) (by omega)]; omega
        have z : spoQ a[i] a[i] = true := by simp [spoQ]
        simp -dsimp [h0, h1, h5, wFix_by, isInl, sposV, c1, g1, wOpt, w2, spo_leaves, z]
        refine ⟨a.length - (i + 1), by omega, i + 1, by omega, rfl, ?_⟩
        simp -dsimp [h0, h1, sposV]
      · simp -dsimp [h0, h1, h5, wFix_by, isInl, c1]
theorem same_self {s : St} (hs : StLen s) (hm : by8 s.mem) (ho : by8 s.out) : Comes p 19 [stV s, stV s] (.bool true) := by
  have c1 := ints_self (a := s.data) (by have := hs.data; omega)
  have c2 := slots_self (a := s.ret) (by have := hs.ret; omega)
  have c3 := ints_self (a := s.ctl) (by have := hs.ctl; omega)
  have c4 := words_self (a := s.words) (by have := hs.words; omega)
  have c5 := spots_self (a := s.spots) (by have := hs.spots; omega)
  refine Comes_of w19 rfl rfl k19 ?_ ?_ ?_ ?_
  · simp
  · simp
  · simp
  · simp -dsimp [w19, wFix_by, isInl, call_by c1, call_by c2, call_by c3, call_by c4, call_by c5]
    simp -dsimp [byV, all8 hm, all8 ho]
theorem same18_self {d : De} (h : DeOk d) (h8 : ∀ r ∈ d.mem, by8 r.b) : Comes p 12 [deV d, deV d] (.bool true) := by
  have c1 := refPut_s h
  have e8 := all8 (by8_encD h8)
  refine Comes_of w12 rfl rfl k12 ?_ ?_ ?_ ?_
  · simp
  · simp
  · simp
  · rw [show deV d = .agg (cellsOf (deV d)) from rfl] at c1
    simp only [deV.cells] at c1
    simp -dsimp [w12, wFix_by, isInl, quiet_by c1]
    simp -dsimp [byV, e8]
end Fz.D
namespace Fz
open Go

theorem evO_congr {e1 e2 : Env} {x : Opd} (h : ∀ t ∈ usesOpd x, e1 t = e2 t) : evO e1 x = evO e2 x := by
  cases x with
  | t n => exact h n (by simp [usesOpd])
  | c v => rfl
theorem evOo_congr {e1 e2 : Env} {x : Option Opd} (h : ∀ t ∈ usesO x, e1 t = e2 t) : x.map (evO e1) = x.map (evO e2) := by
  cases x with
  | none => rfl
  | some x => simp only [Option.map_some]; rw [evO_congr (x := x) h]
theorem evOl_congr {e1 e2 : Env} {l : List Opd} (h : ∀ t ∈ l.flatMap usesOpd, e1 t = e2 t) : l.map (evO e1) = l.map (evO e2) :=
  List.map_congr_left fun x hx => evO_congr fun t ht => h t (List.mem_flatMap.2 ⟨x, hx, ht⟩)
theorem evOp_congr {e1 e2 : Env} {H : List Ob} {op : AOp} (h : ∀ t ∈ usesOp op, e1 t = e2 t) : evOp (evO e1) H op = evOp (evO e2) H op := by
  have one : ∀ x : Opd, (∀ t ∈ usesOpd x, t ∈ usesOp op) → evO e1 x = evO e2 x := fun x hx => evO_congr fun t ht => h t (hx t ht)
  have opt : ∀ x : Option Opd, (∀ t ∈ usesO x, t ∈ usesOp op) → x.map (evO e1) = x.map (evO e2) := fun x hx => evOo_congr fun t ht => h t (hx t ht)
  have lst : ∀ l : List Opd, (∀ t ∈ l.flatMap usesOpd, t ∈ usesOp op) → l.map (evO e1) = l.map (evO e2) := fun l hx => evOl_congr fun t ht => h t (hx t ht)
  have pts : ∀ l : List (Nat × Nat × Opd), (∀ t ∈ l.flatMap fun p => usesOpd p.2.2, t ∈ usesOp op) → (l.map fun p => (p.1, p.2.1, evO e1 p.2.2)) = l.map fun p => (p.1, p.2.1, evO e2 p.2.2) := fun l hx =>
    List.map_congr_left fun p hp => by rw [evO_congr fun t ht => h t (hx t (List.mem_flatMap.2 ⟨p, hp, ht⟩))]
  cases op with
  | mov x => simp only [evOp, one x (by simp [usesOp])]
  | pick c a b => simp only [evOp, one c (by simp +contextual [usesOp]), one a (by simp +contextual [usesOp]), one b (by simp +contextual [usesOp])]
  | alloc z => rfl
  | box x => simp only [evOp, one x (by simp [usesOp])]
  | build z ps => simp only [evOp, pts ps (by simp [usesOp])]
  | buildSlice n l z ps => simp only [evOp, pts ps (by simp [usesOp])]
  | load g n x => simp only [evOp, one x (by simp [usesOp])]
  | store n a x => simp only [evOp, one a (by simp +contextual [usesOp]), one x (by simp +contextual [usesOp])]
  | nilCheck x => simp only [evOp, one x (by simp [usesOp])]
  | bin o k x y => simp only [evOp, one x (by simp +contextual [usesOp]), one y (by simp +contextual [usesOp])]
  | un o x => simp only [evOp, one x (by simp [usesOp])]
  | conv k x => cases k <;> simp only [evOp, one x (by simp [usesOp])]
  | makeIface t x => simp only [evOp, one x (by simp [usesOp])]
  | makeFunc f a b => simp only [evOp, lst a (by simp +contextual [usesOp]), lst b (by simp +contextual [usesOp])]
  | makeSlice n bt z l c => simp only [evOp, one l (by simp +contextual [usesOp]), one c (by simp +contextual [usesOp])]
  | slice k x lo hi mx => simp only [evOp, one x (by simp +contextual [usesOp]), opt lo (by simp +contextual [usesOp]), opt hi (by simp +contextual [usesOp]), opt mx (by simp +contextual [usesOp])]
  | fieldAddr o x => simp only [evOp, one x (by simp [usesOp])]
  | field g o n x => simp only [evOp, one x (by simp [usesOp])]
  | indexSl n x i => simp only [evOp, one x (by simp +contextual [usesOp]), one i (by simp +contextual [usesOp])]
  | indexPA l n x i => simp only [evOp, one x (by simp +contextual [usesOp]), one i (by simp +contextual [usesOp])]
  | indexArr l n g x i => simp only [evOp, one x (by simp +contextual [usesOp]), one i (by simp +contextual [usesOp])]
  | indexStr x i => simp only [evOp, one x (by simp +contextual [usesOp]), one i (by simp +contextual [usesOp])]
  | extract i x => simp only [evOp, one x (by simp [usesOp])]
  | lenC n => rfl
  | lenS x => simp only [evOp, one x (by simp [usesOp])]
  | len x => simp only [evOp, one x (by simp [usesOp])]
  | cap x => simp only [evOp, one x (by simp [usesOp])]
  | append n bt z s x => simp only [evOp, one s (by simp +contextual [usesOp]), one x (by simp +contextual [usesOp])]
  | copy n d s => simp only [evOp, one d (by simp +contextual [usesOp]), one s (by simp +contextual [usesOp])]
  | clear z n x => simp only [evOp, one x (by simp [usesOp])]
  | max l => simp only [evOp, lst l (by simp [usesOp])]
  | pur k l => simp only [evOp, lst l (by simp [usesOp])]
  | rd k l => simp only [evOp, lst l (by simp [usesOp])]
  | mem k l => simp only [evOp, lst l (by simp [usesOp])]
  | min l => simp only [evOp, lst l (by simp [usesOp])]
  | panic x => simp only [evOp, one x (by simp [usesOp])]
  | call f l => simp only [evOp, lst l (by simp [usesOp])]
  | callv f l => simp only [evOp, one f (by simp +contextual [usesOp]), lst l (by simp +contextual [usesOp])]

theorem quietOp_congr {call : CallT} {inl : FuncId → Bool} {e1 e2 : Env} {H : List Ob} {o : AO} (h : ∀ t ∈ uses o, e1 t = e2 t) : quietOp call inl e1 H o = quietOp call inl e2 H o := by
  have h1 : evOp (evO e1) H o.op = evOp (evO e2) H o.op := evOp_congr fun t ht => h t (List.mem_append_left _ ht)
  unfold quietOp
  rw [h1]
  cases hg : o.guard with
  | none => rfl
  | some tw => obtain ⟨t, w⟩ := tw; simp only [h t (by simp [uses, hg])]
theorem effOp_congr {call : CallT} {inl : FuncId → Bool} {e1 e2 : Env} {H : List Ob} {o : AO} (h : ∀ t ∈ uses o, e1 t = e2 t) : effOp call inl e1 H o = effOp call inl e2 H o := by
  have h1 : evOp (evO e1) H o.op = evOp (evO e2) H o.op := evOp_congr fun t ht => h t (List.mem_append_left _ ht)
  unfold effOp
  rw [h1]
  cases hg : o.guard with
  | none => rfl
  | some tw => obtain ⟨t, w⟩ := tw; simp only [h t (by simp [uses, hg])]

theorem pure_heap {ρ : Opd → V} {H H' : List Ob} {op : AOp} {v : V} (hp : pureOp op = true) (h : evOp ρ H op = some (.val v H')) : H' = H := by
  have ans' : ∀ {o : Option V}, ans H o = some (.val v H') → H' = H := by
    intro o h; unfold ans at h
    obtain ⟨u, _, h⟩ := Option.map_eq_some_iff.1 h
    cases h; rfl
  cases op <;> first
    | (simp [pureOp] at hp; done)
    | (simp only [evOp] at h; exact ans' h)
    | (rename_i k x; cases k <;> simp only [evOp] at h <;> first | (cases h; done) | (split at h <;> (try cases h) <;> (try rfl) <;> (simp only [Option.bind_eq_some_iff] at h; obtain ⟨p, _, h⟩ := h; split at h <;> cases h <;> rfl)))
    | (simp only [evOp] at h
       repeat' (first | (cases h; done) | (cases h; rfl) | (split at h)))
end Fz
namespace Fz
open Go

/-- What the first k operations, those of S alone, write. -/
def envK (l : List AO) (vals : List V) (e : Env) (S : Nat → Bool) : Nat → Env
  | 0 => e
  | k + 1 => if S k then putE (envK l vals e S k) (l.getD k default).dst (vals.getD k uv) else envK l vals e S k

theorem envK_agree {l : List AO} {vals : List V} {e : Env} {S S' : Nat → Bool} {τ : Nat} : ∀ (n : Nat), (∀ i, i < n → (l.getD i default).dst = some τ → S i = S' i) → envK l vals e S n τ = envK l vals e S' n τ
  | 0, _ => rfl
  | k + 1, h => by
    have ih := envK_agree (vals := vals) (e := e) k fun i hi => h i (by omega)
    have hput : ∀ (e1 e2 : Env) (d : Option Nat) (v : V), e1 τ = e2 τ → putE e1 d v τ = putE e2 d v τ := by
      intro e1 e2 d v he
      cases d with
      | none => exact he
      | some t =>
        simp only [putE, upd]
        split
        · rfl
        · exact he
    have hno : ∀ (e1 : Env) (d : Option Nat) (v : V), d ≠ some τ → putE e1 d v τ = e1 τ := by
      intro e1 d v hd
      cases d with
      | none => rfl
      | some t => simp only [putE, upd]; rw [if_neg (fun h => hd (by rw [h]))]
    by_cases hd : (l.getD k default).dst = some τ
    · simp only [envK, h k (by omega) hd]
      split
      · exact hput _ _ _ _ ih
      · exact ih
    · simp only [envK]
      split <;> split <;> (try simp only [hno _ _ _ hd]) <;> exact ih

theorem envK_insert {l : List AO} {vals : List V} {e : Env} {S : Nat → Bool} {n j : Nat} (hj : j < n) (hS : S j = false) (hlast : ∀ i, j < i → i < n → S i = true → ∀ τ, (l.getD j default).dst = some τ → (l.getD i default).dst ≠ some τ) (τ : Nat) :
    envK l vals e (fun i => S i || i == j) n τ = putE (envK l vals e S n) (l.getD j default).dst (vals.getD j uv) τ := by
  by_cases hd : (l.getD j default).dst = some τ
  · rw [hd]
    have e1 : putE (envK l vals e S n) (some τ) (vals.getD j uv) τ = vals.getD j uv := by simp [putE, upd]
    rw [e1]
    have key : ∀ k, j < k → k ≤ n → envK l vals e (fun i => S i || i == j) k τ = vals.getD j uv := by
      intro k
      induction k with
      | zero => intro h; omega
      | succ k ih =>
        intro h1 h2
        by_cases hk : k = j
        · subst hk
          simp only [envK]
          rw [if_pos (by simp), hd]
          simp [putE, upd]
        · simp only [envK]
          have ih' := ih (by omega) (by omega)
          split
          · rename_i hs
            have hs' : S k = true := by simpa [hk] using hs
            have hne := hlast k (by omega) (by omega) hs' τ hd
            cases hdk : (l.getD k default).dst with
            | none => simpa [putE] using ih'
            | some t =>
              simp only [putE, upd]
              rw [if_neg (fun h => hne (by rw [hdk, h]))]
              exact ih'
          · exact ih'
    exact key n hj (Nat.le_refl _)
  · have e1 : putE (envK l vals e S n) (l.getD j default).dst (vals.getD j uv) τ = envK l vals e S n τ := by
      cases hdk : (l.getD j default).dst with
      | none => rfl
      | some t => simp only [putE, upd]; rw [if_neg (fun h => hd (by rw [hdk, h]))]
    rw [e1]
    refine envK_agree n fun i hi hdi => ?_
    have : i ≠ j := by rintro rfl; exact hd hdi
    simp [this]

theorem envK_before {l : List AO} {vals : List V} {e : Env} {j : Nat} : ∀ (n : Nat), j ≤ n → envK l vals e (fun i => decide (i < j)) n = envK l vals e (fun _ => true) j := by
  have h1 : ∀ k, k ≤ j → envK l vals e (fun i => decide (i < j)) k = envK l vals e (fun _ => true) k := by
    intro k
    induction k with
    | zero => intro _; rfl
    | succ k ih => intro h; simp only [envK]; rw [ih (by omega), if_pos (by simp; omega), if_pos trivial]
  intro n
  induction n with
  | zero => intro h; have : j = 0 := by omega
            subst this; rfl
  | succ n ih =>
    intro h
    by_cases hn : j = n + 1
    · subst hn; exact h1 _ (Nat.le_refl _)
    · simp only [envK]; rw [if_neg (by simp; omega)]; exact ih (by omega)

theorem envK_cons {o : AO} {l : List AO} {v : V} {vals : List V} {e : Env} : ∀ k, envK (o :: l) (v :: vals) e (fun _ => true) (k + 1) = envK l vals (putE e o.dst v) (fun _ => true) k
  | 0 => by simp [envK]
  | k + 1 => by
    have := envK_cons (o := o) (l := l) (v := v) (vals := vals) (e := e) k
    simp only [envK] at this ⊢
    simp only [if_true] at this ⊢
    rw [this]; simp

def cnt (l : List AO) : Nat := (l.filter (·.eff)).length

theorem trace_spec {call : CallT} {inl : FuncId → Bool} : ∀ (l : List AO) (e : Env) (hs : List (List Ob)) (t : List (Env × Nat × V)) (hs' : List (List Ob)) (e' : Env), trace call inl l e hs = some (t, hs', e') → hs ≠ [] →
    t.length = l.length ∧ hs'.length = hs.length + cnt l ∧ (∀ i : Nat, i < hs.length → hs'[i]? = hs[i]?) ∧ e' = envK l (t.map (·.2.2)) e (fun _ => true) l.length ∧
    ∀ (j : Nat) (o : AO), l[j]? = some o → ∃ (ej : Env) (k : Nat) (vj : V) (Hj : List Ob), t[j]? = some (ej, k, vj) ∧ ej = envK l (t.map (·.2.2)) e (fun _ => true) j ∧ hs'[hs.length - 1 + cnt (l.take j)]? = some Hj ∧
      (o.eff = true → ∃ H1, hs'[hs.length + cnt (l.take j)]? = some H1 ∧ effOp call inl ej Hj o = some (vj, H1)) ∧ (o.eff = false → quietOp call inl ej Hj o = some vj)
  | [], e, hs, t, hs', e', h, _ => by
    simp [trace] at h
    obtain ⟨rfl, rfl, rfl⟩ := h
    exact ⟨rfl, by simp [cnt], fun _ _ => rfl, rfl, fun j o hj => by simp at hj⟩
  | o :: l, e, hs, t, hs', e', h, hne => by
    have hpos : 0 < hs.length := List.length_pos_iff.2 hne
    simp only [trace] at h
    split at h
    · cases h
    · rename_i H hH
      have hlast : hs[hs.length - 1]? = some H := by rw [← hH, List.getLast?_eq_getElem?]
      split at h
      · rename_i heff
        split at h
        · cases h
        · rename_i v H1 hv
          obtain ⟨⟨t2, hs2, e2⟩, ht, h⟩ := Option.map_eq_some_iff.1 h
          cases h
          obtain ⟨g1, g2, g3, g4, g5⟩ := trace_spec l _ _ t2 _ _ ht (by simp)
          have hc : cnt (o :: l) = cnt l + 1 := by simp [cnt, heff]
          refine ⟨by simp [g1], by rw [g2, hc]; simp; omega, fun i hi => ?_, ?_, fun j o' hj => ?_⟩
          · rw [g3 i (by simp; omega), List.getElem?_append_left hi]
          · simp only [List.map_cons, List.length_cons]; rw [envK_cons]; exact g4
          · cases j with
            | zero =>
              simp at hj; subst hj
              refine ⟨e, hs.length - 1, v, H, by simp, rfl, ?_, fun _ => ⟨H1, ?_, hv⟩, fun hf => (by rw [heff] at hf; cases hf)⟩
              · simp [cnt]; rw [g3 _ (by simp; omega), List.getElem?_append_left (by omega)]; exact hlast
              · simp [cnt]; rw [g3 _ (by simp), List.getElem?_append_right (Nat.le_refl _)]; simp
            | succ j =>
              obtain ⟨ej, k, vj, Hj, q1, q2, q3, q4, q5⟩ := g5 j o' (by simpa using hj)
              have hct : cnt ((o :: l).take (j + 1)) = cnt (l.take j) + 1 := by simp [cnt, heff]
              refine ⟨ej, k, vj, Hj, by simpa using q1, ?_, ?_, fun hf => ?_, q5⟩
              · simp only [List.map_cons]; rw [envK_cons]; exact q2
              · rw [hct]; rw [← q3]; congr 1; simp; omega
              · obtain ⟨H2, r1, r2⟩ := q4 hf
                refine ⟨H2, ?_, r2⟩
                rw [hct, ← r1]; congr 1; simp; omega
      · rename_i heff
        have heff : o.eff = false := by simpa using heff
        split at h
        · cases h
        · rename_i v hv
          obtain ⟨⟨t2, hs2, e2⟩, ht, h⟩ := Option.map_eq_some_iff.1 h
          cases h
          obtain ⟨g1, g2, g3, g4, g5⟩ := trace_spec l _ _ t2 _ _ ht hne
          have hc : cnt (o :: l) = cnt l := by simp [cnt, heff]
          refine ⟨by simp [g1], by rw [g2, hc], g3, ?_, fun j o' hj => ?_⟩
          · simp only [List.map_cons, List.length_cons]; rw [envK_cons]; exact g4
          · cases j with
            | zero =>
              simp at hj; subst hj
              refine ⟨e, hs.length - 1, v, H, by simp, rfl, ?_, fun hf => (by rw [heff] at hf; cases hf), fun _ => hv⟩
              simp [cnt]; rw [g3 _ (by omega)]; exact hlast
            | succ j =>
              obtain ⟨ej, k, vj, Hj, q1, q2, q3, q4, q5⟩ := g5 j o' (by simpa using hj)
              have hct : cnt ((o :: l).take (j + 1)) = cnt (l.take j) := by simp [cnt, heff]
              refine ⟨ej, k, vj, Hj, by simpa using q1, ?_, by rw [hct]; exact q3, fun hf => by rw [hct]; exact q4 hf, q5⟩
              simp only [List.map_cons]; rw [envK_cons]; exact q2

theorem steady_spec {call : CallT} {inl : FuncId → Bool} {e : Env} {v : V} {o : AO} : ∀ {hs : List (List Ob)}, steady call inl e v o hs = true → ∀ H ∈ hs, quietOp call inl e H o = some v
  | [], _, H, hH => by simp at hH
  | H0 :: r, h, H, hH => by
    simp only [steady, Bool.and_eq_true] at h
    rcases List.mem_cons.1 hH with rfl | hH
    · have := h.1
      split at this
      · rename_i u hu; rw [hu, veq_eq u v this]
      · cases this
    · exact steady_spec h.2 H hH

theorem steadyAll_spec {call : CallT} {inl : FuncId → Bool} {ops : List AO} {an : List (List Nat)} {hs : List (List Ob)} : ∀ (l : List AO) (s : Nat) (t : List (Env × Nat × V)), steadyAll call inl ops an hs (l.zipIdx s) t = true →
    ∀ (j : Nat) (o : AO) (ej : Env) (k : Nat) (vj : V), l[j]? = some o → t[j]? = some (ej, k, vj) → o.eff = false → ∀ (q : Nat) (H : List Ob), loOf ops an (s + j) ≤ q → q ≤ hiOf ops an (s + j) → hs[q]? = some H → quietOp call inl ej H o = some vj
  | [], s, t, _, j, o, ej, k, vj, hj, _, _, _, _, _, _, _ => by simp at hj
  | o0 :: l, s, [], h, _, _, _, _, _, _, _, _, _, _, _, _, _ => by simp [List.zipIdx_cons, steadyAll] at h
  | o0 :: l, s, (e0, k0, v0) :: t, h, j, o, ej, k, vj, hj, ht, hf, q, H, h1, h2, h3 => by
    simp only [List.zipIdx_cons, steadyAll, Bool.and_eq_true] at h
    cases j with
    | zero =>
      simp at hj ht
      subst hj
      obtain ⟨rfl, rfl, rfl⟩ := ht
      have hst := h.1
      rw [hf, Bool.false_or] at hst
      refine steady_spec hst H ?_
      rw [List.mem_iff_getElem?]
      refine ⟨q - loOf ops an s, ?_⟩
      rw [Nat.add_zero] at h1 h2
      rw [List.getElem?_take, if_pos (by omega), List.getElem?_drop, show loOf ops an s + (q - loOf ops an s) = q from by omega]
      exact h3
    | succ j =>
      exact steadyAll_spec l (s + 1) t h.2 j o ej k vj (by simpa using hj) (by simpa using ht) hf q H (by rwa [show s + 1 + j = s + (j + 1) from by omega]) (by rwa [show s + 1 + j = s + (j + 1) from by omega]) h3

theorem ancsGo_spec : ∀ (l : List AO) (acc : List (List Nat)), (∀ (j : Nat) (o : AO), l[j]? = some o → ∀ i ∈ o.after, i < acc.length + j) →
    (∀ i : Nat, i < acc.length → (ancsGo acc l)[i]? = acc[i]?) ∧ ∀ (j : Nat) (o : AO), l[j]? = some o → (ancsGo acc l)[acc.length + j]? = some (o.after.flatMap fun i => i :: (ancsGo acc l).getD i [])
  | [], acc, _ => ⟨fun _ _ => rfl, fun j o hj => by simp at hj⟩
  | o :: l, acc, h => by
    simp only [ancsGo]
    obtain ⟨g1, g2⟩ := ancsGo_spec l (acc ++ [o.after.flatMap fun i => i :: acc.getD i []]) fun j o' hj i hi => by
      have := h (j + 1) o' (by simpa using hj) i hi
      simp; omega
    refine ⟨fun i hi => ?_, fun j o' hj => ?_⟩
    · rw [g1 i (by simp; omega), List.getElem?_append_left hi]
    · cases j with
      | zero =>
        simp at hj; subst hj
        rw [Nat.add_zero, g1 _ (by simp), List.getElem?_append_right (Nat.le_refl _)]
        simp only [Nat.sub_self, List.getElem?_cons_zero, Option.some.injEq]
        have key : ∀ (m : List Nat), (∀ i ∈ m, i < acc.length) → (m.flatMap fun i => i :: acc.getD i []) = m.flatMap fun i => i :: (ancsGo (acc ++ [o.after.flatMap fun i => i :: acc.getD i []]) l).getD i [] := by
          intro m
          induction m with
          | nil => intro _; rfl
          | cons q m ih =>
            intro hm
            simp only [List.flatMap_cons]
            rw [ih fun i hi => hm i (by simp [hi])]
            have hq := hm q (by simp)
            have : (ancsGo (acc ++ [o.after.flatMap fun i => i :: acc.getD i []]) l).getD q [] = acc.getD q [] := by
              rw [List.getD_eq_getElem?_getD, List.getD_eq_getElem?_getD, g1 q (by simp; omega), List.getElem?_append_left hq]
            rw [this]
        exact key o.after fun i hi => by have := h 0 o (by simp) i hi; omega
      | succ j =>
        have := g2 j o' (by simpa using hj)
        rw [← this]; congr 1; simp; omega
end Fz
namespace Fz
open Go

theorem ceK_mono {ops : List AO} {p q : Nat → Bool} : ∀ n, (∀ i, i < n → p i = true → (ops.getD i default).eff = true → q i = true) → ceK ops p n ≤ ceK ops q n
  | 0, _ => Nat.le_refl _
  | n + 1, h => by
    have ih := ceK_mono (ops := ops) (p := p) (q := q) n fun i hi => h i (by omega)
    simp only [ceK]
    have := h n (by omega)
    by_cases hp : p n = true
    · by_cases he : (ops.getD n default).eff = true
      · simp only [hp, he, this hp he, Bool.and_self, if_true]; omega
      · have : (ops.getD n default).eff = false := Bool.eq_false_iff.2 he
        simp only [this, Bool.and_false]; simp; omega
    · have : p n = false := Bool.eq_false_iff.2 hp
      rw [if_neg (show ¬ (p n && (ops.getD n default).eff) = true by simp [this])]
      exact Nat.add_le_add ih (Nat.zero_le _)
theorem ceK_congr {ops : List AO} {p q : Nat → Bool} (n : Nat) (h : ∀ i, i < n → (ops.getD i default).eff = true → p i = q i) : ceK ops p n = ceK ops q n :=
  Nat.le_antisymm (ceK_mono n fun i hi hp he => by rw [← h i hi he]; exact hp) (ceK_mono n fun i hi hp he => by rw [h i hi he]; exact hp)
theorem ceK_insert {ops : List AO} {p : Nat → Bool} {j : Nat} (hp : p j = false) : ∀ n, j < n → ceK ops (fun i => p i || i == j) n = ceK ops p n + (if (ops.getD j default).eff then 1 else 0)
  | 0, h => by omega
  | n + 1, h => by
    simp only [ceK]
    by_cases e : j = n
    · subst e
      have : ceK ops (fun i => p i || i == j) j = ceK ops p j := ceK_congr j fun i hi _ => by
        have : i ≠ j := by omega
        simp [this]
      simp only [this, hp, Bool.false_or, BEq.rfl, Bool.true_and, Bool.false_and]; simp
    · rw [ceK_insert hp n (by omega)]
      have : (n == j) = false := by simp; omega
      simp only [this, Bool.or_false]; omega
theorem ceK_before {ops : List AO} {j : Nat} : ∀ n, j ≤ n → ceK ops (fun i => decide (i < j)) n = ceK ops (fun _ => true) j
  | 0, h => by have : j = 0 := by omega
               subst this; rfl
  | n + 1, h => by
    by_cases e : j = n + 1
    · subst e; exact ceK_congr _ fun i hi _ => by simp [hi]
    · simp only [ceK]; rw [ceK_before n (by omega)]
      have : decide (n < j) = false := by simp; omega
      simp [this]
theorem ceK_cnt {ops : List AO} : ∀ j, j ≤ ops.length → ceK ops (fun _ => true) j = cnt (ops.take j)
  | 0, _ => by simp [ceK, cnt]
  | j + 1, h => by
    simp only [ceK]
    rw [ceK_cnt j (by omega), List.take_succ_eq_append_getElem (by omega)]
    have : ops.getD j default = ops[j] := by simp [List.getD, List.getElem?_eq_getElem (show j < ops.length by omega)]
    rw [this]
    simp only [cnt, List.filter_append, List.length_append, Bool.true_and]
    congr 1
    by_cases he : ops[j].eff = true <;> simp [he]

theorem filter_le {g h : Nat → Bool} (hgh : ∀ i, g i = true → h i = true) : ∀ m : List Nat, (m.filter g).length ≤ (m.filter h).length
  | [] => Nat.le_refl _
  | q :: m => by
    have ih := filter_le hgh m
    simp only [List.filter_cons]
    split
    · rename_i hg; rw [if_pos (hgh q hg)]; simpa using ih
    · split
      · simp; omega
      · exact ih
theorem filter_lt {g h : Nat → Bool} {j : Nat} (hgh : ∀ i, g i = true → h i = true) (hg : g j = false) (hh : h j = true) : ∀ m : List Nat, j ∈ m → (m.filter g).length < (m.filter h).length
  | [], hm => by cases hm
  | q :: m, hm => by
    simp only [List.filter_cons]
    by_cases hq : q = j
    · subst hq
      rw [if_neg (by simp [hg]), if_pos hh]
      have := filter_le hgh m
      simp; omega
    · have hm' : j ∈ m := (List.mem_cons.1 hm).resolve_left fun h => hq h.symm
      have ih := filter_lt hgh hg hh m hm'
      split
      · rename_i hg; rw [if_pos (hgh q hg)]; simpa using ih
      · split
        · simp; omega
        · exact ih

section
variable {ro : Option Nat} {bud : Nat} {P : Program} {L : LpT} {call : CallT} (hcall : CallOk P L call) {inl : FuncId → Bool} {ops : Array Oper} {nt : Nat}
variable {e : Env} {H : List Ob} {K : Kn} {β : Bi} {a : Act} {w : World} {Q : Exit → Act → World → Prop} {next : Act → World → Prop}
include hcall

theorem quiet_wp {i : Nat} {o : Oper} {ao : AO} {v : V} (hq : quietOp call inl e H ao = some v) (hL : K.lp = L) (hI : Inv K β H w) (hE : ER K β nt e a) (ho : ops[i]? = some o) (hc : cOperL P ops o = some ao)
    (hn : ∀ c K' β' w', VR K' β' v c → Inv K' β' H w' → Ev K β H w K' β' H w' → next (a.put o.dst c) w') : wpOpIn (Fr ro) bud P ops Q i next a w := by
  obtain ⟨hop, hd, ao', hc', hg', _⟩ := cOperL_op hc
  obtain ⟨g1, g2⟩ := guard_sound ⟨_, hc', hg'⟩ hE
  unfold wpOpIn
  simp only [ho]
  have go : (match evOp (evO e) H ao.op with
    | some (.val v _) => if pureOp ao.op then some v else none
    | some (.call f args) => match mapOpt (lendV H depthF) args with
      | some l => if groundL l then (match doCall call inl f l [] with
        | some (.ret v, []) => if ground v && (listFree v || groundL args) then some v else none
        | _ => none) else none
      | none => none
    | _ => none) = some v → o.wpIn (Fr ro) bud P a w next Q := by
    intro hgo
    split at hgo
    · rename_i u H' hr
      split at hgo <;> cases hgo
      rename_i hp
      have hH := pure_heap hp hr
      subst hH
      obtain ⟨c, w', K', β', h1, h2, h3, h4⟩ := evOp_soundL (P := P) hI hE hop hr
      refine ⟨fun _ _ => trivial, ?_⟩
      rw [semAt_opL hop, h1, Oper.uponIn_value]
      exact hn c K' β' w' h2 h3 h4
    · rename_i f args hr
      obtain ⟨cargs, h1, h2⟩ := evOp_soundL (P := P) hI hE hop hr
      split at hgo
      · rename_i l hl
        split at hgo
        · rename_i hgl
          split at hgo
          · rename_i u hdc
            split at hgo <;> cases hgo
            rename_i hcond
            simp only [Bool.and_eq_true, Bool.or_eq_true] at hcond
            obtain ⟨hgv, hor⟩ := hcond
            have fin : ∀ (w' : World) (c : Value), (∃ K' β', VR K' β' v c ∧ Inv K' β' H w' ∧ Ev K β H w K' β' H w') → next (a.put o.dst c) w' := by
              rintro w' c ⟨K', β', q1, q2, q3⟩
              exact hn c K' β' w' q1 q2 q3
            have post : ∃ (Kx : Kn), Kx.lp = L ∧ Inv Kx noB [] w ∧ LR Kx noB l cargs.toList ∧ ∀ (w' : World) (c : Value), CallPost Kx noB [] w (.ret v) [] (.returned c) w' → next (a.put o.dst c) w' := by
              rcases Bool.eq_false_or_eq_true (groundL args) with hga | hga
              · have hll : l = args := by
                  have : ∀ (m x : List V), m.all ground = true → mapOpt (lendV H depthF) m = some x → x = m := by
                    intro m
                    induction m with
                    | nil => intro x _ h; simp [mapOpt] at h; exact h
                    | cons q m ih =>
                      intro x hg h
                      simp only [List.all_cons, Bool.and_eq_true] at hg
                      simp only [mapOpt] at h
                      split at h <;> cases h
                      rename_i y z hy hz
                      rw [lend_ground H _ _ _ hg.1 hy, ih _ hg.2 hz]
                  exact this _ _ (by rw [← groundL_eq]; exact hga) hl
                subst hll
                refine ⟨K, hL, emp_inv hI, ground_LR K.le_refl h2 hga, fun w' c hp => ?_⟩
                obtain ⟨K', β', q1, q2, q3⟩ := hp
                obtain ⟨r1, r2⟩ := quiet_inv hI q2 q3
                exact fin w' c ⟨K', β, ground_VR (Kn.le_refl _) q1 hgv, r1, r2⟩
              · have hlf : listFree v = true := hor.resolve_right (by simp [hga])
                refine ⟨allK K.lp w, hL, allK_inv _ w, ground_LR (Kn.le_refl _) (mapOpt_LR (lendV_sound hI depthF) hl h2) hgl, fun w' c hp => ?_⟩
                obtain ⟨K', β', q1, q2, q3⟩ := hp
                obtain ⟨r1, r2⟩ := lent_inv hI q3
                exact fin w' c ⟨K, β, listFree_VR v c hlf q1, r1, r2⟩
            obtain ⟨Kx, i0, i1, i2, i3⟩ := post
            refine ⟨fun _ _ => trivial, ?_⟩
            rw [semAt_opL hop]
            rcases doCall_sound hcall hdc i0 i1 i2 with ⟨c, w', g1, g2⟩ | ⟨g, gs, g1, g2⟩ | ⟨l, fn, tmps, asg, bo, g1, g2⟩
            · rw [h1, g1, Oper.uponIn_value]; exact i3 w' c g2
            · rw [h1, g1, Oper.uponIn_enter]
              refine ⟨fun h => Bool.noConfusion h, callsIn_fr (g2.mono ?_)⟩
              rintro en w' hp
              cases en with
              | returned c => exact i3 w' c hp
              | panicked chain => obtain ⟨K', β', q1, _⟩ := hp; exact q1.elim
              | outgrown => obtain ⟨K', β', q1, _⟩ := hp; exact q1.elim
            · rw [h1, g1, Oper.uponIn_round]
              refine ⟨fun h => Bool.noConfusion h, roundIn_fr (g2.mono ?_)⟩
              rintro en w' hp
              cases en with
              | returned c => exact i3 w' c hp
              | panicked chain => obtain ⟨K', β', q1, _⟩ := hp; exact q1.elim
              | outgrown => obtain ⟨K', β', q1, _⟩ := hp; exact q1.elim
          · cases hgo
        · cases hgo
      · cases hgo
    · cases hgo
  have skip : v = uv → next (a.put o.dst Go.undef) w := fun hv => hn _ K β w (by rw [hv]; exact vr_uv K β) hI (.refl K β H w)
  unfold quietOp at hq
  cases hg : ao.guard with
  | none =>
    rw [hg] at hq
    rw [if_pos (g1 hg)]
    exact go hq
  | some tw =>
    obtain ⟨t, want⟩ := tw
    rw [hg] at hq
    obtain ⟨g3, g4⟩ := g2 t want hg
    simp only [] at hq
    split at hq
    · rename_i b hb
      split at hq
      · rename_i hbw
        rw [g3 b hb, if_pos (by simpa using hbw)]
        exact go hq
      · rename_i hbw
        rw [g3 b hb, if_neg (by simpa using hbw)]
        exact ⟨fun _ _ => trivial, skip (Option.some.inj hq).symm⟩
    · rename_i hb
      rw [g4 hb, if_neg (by simp)]
      exact ⟨fun _ _ => trivial, skip (Option.some.inj hq).symm⟩
    · cases hq

theorem eff_wp {i : Nat} {o : Oper} {ao : AO} {v : V} {H1 : List Ob} (hq : effOp call inl e H ao = some (v, H1)) (hL : K.lp = L) (hI : Inv K β H w) (hE : ER K β nt e a) (ho : ops[i]? = some o) (hc : cOperL P ops o = some ao)
    (hn : ∀ c K' β' w', VR K' β' v c → Inv K' β' H1 w' → Ev K β H w K' β' H1 w' → next (a.put o.dst c) w') : wpOpIn (Fr ro) bud P ops Q i next a w := by
  obtain ⟨hop, hd, ao', hc', hg', _⟩ := cOperL_op hc
  obtain ⟨g1, g2⟩ := guard_sound ⟨_, hc', hg'⟩ hE
  unfold wpOpIn
  simp only [ho]
  have go : (match evOp (evO e) H ao.op with
    | some (.val v H') => some (v, H')
    | some (.skip H') => some (uv, H')
    | some (.call f args) => match doCall call inl f args H with
      | some (.ret v, H') => some (v, H')
      | _ => none
    | _ => none) = some (v, H1) → o.wpIn (Fr ro) bud P a w next Q := by
    intro hgo
    cases hr : evOp (evO e) H ao.op with
    | none => rw [hr] at hgo; cases hgo
    | some r =>
      rw [hr] at hgo
      refine op_wp hcall (inl := inl) hop hr hL hI hE ?_ ?_ ?_
      · rintro u H2 (rfl | ⟨rfl, rfl⟩ | ⟨f, args, rfl, hdc⟩) c K1 β1 w1 hv i1 e1
        · cases hgo; exact hn c K1 β1 w1 hv i1 e1
        · cases hgo; exact hn c K1 β1 w1 hv i1 e1
        · simp only [hdc] at hgo; cases hgo; exact hn c K1 β1 w1 hv i1 e1
      · rintro u H2 (rfl | ⟨f, args, rfl, hdc⟩) c K1 β1 w1 hv i1 e1
        · cases hgo
        · simp only [hdc] at hgo; cases hgo
      · rintro f args rfl
        cases hdc : doCall call inl f args H with
        | none => simp only [hdc] at hgo; cases hgo
        | some y => exact ⟨y, rfl⟩
  have skip : v = uv → H1 = H → next (a.put o.dst Go.undef) w := fun hv hH => by
    subst hH; exact hn _ K β w (by rw [hv]; exact vr_uv K β) hI (.refl K β _ w)
  unfold effOp at hq
  cases hg : ao.guard with
  | none =>
    rw [hg] at hq
    rw [if_pos (g1 hg)]
    exact go hq
  | some tw =>
    obtain ⟨t, want⟩ := tw
    rw [hg] at hq
    obtain ⟨g3, g4⟩ := g2 t want hg
    simp only [] at hq
    split at hq
    · rename_i b hb
      split at hq
      · rename_i hbw
        rw [g3 b hb, if_pos (by simpa using hbw)]
        exact go hq
      · rename_i hbw
        rw [g3 b hb, if_neg (by simpa using hbw)]
        cases hq; exact ⟨fun _ _ => trivial, skip rfl rfl⟩
    · rename_i hb
      rw [g4 hb, if_neg (by simp)]
      cases hq; exact ⟨fun _ _ => trivial, skip rfl rfl⟩
    · cases hq

theorem draw_sound (hm : P.follows .mixedOrders = true) {l : List AO} (hlen : l.length = ops.size) (hops : ∀ (j : Nat) (ao : AO), l[j]? = some ao → ∃ o, ops[j]? = some o ∧ cOperL P ops o = some ao) (hdst : ∀ ao ∈ l, ∀ t, ao.dst = some t → t < nt)
    {x : X} {e' : Env} {H' : List Ob} (h : runDraw call inl l e H = some (x, e', H')) (hL : K.lp = L) (hI : Inv K β H w) (hE : ER K β nt e a) (id : Nat)
    (hQ : ∀ ex a' w', Post K β H w nt x e' H' a.defers ex a' w' → Q ex a' w') : (Code.region id ops true).wpIn (Fr ro) bud P Q a w := by
  unfold runDraw at h
  split at h
  · cases h
  · rename_i t hs e1 htr
    split at h
    · rename_i hok
      simp only [Bool.and_eq_true] at hok
      obtain ⟨hok, hst⟩ := hok
      split at h
      · rename_i Hl hlast
        cases h
        obtain ⟨t1, t2, t3, t4, t5⟩ := trace_spec l e [H] t hs e' htr (by simp)
        generalize hvals : t.map (·.2.2) = vals at t4 t5
        unfold okDraw at hok
        simp only [Bool.and_eq_true] at hok
        obtain ⟨hafter, htouch⟩ := hok
        -- what stands ahead stands ahead
        have haft : ∀ (j : Nat) (o : AO), l[j]? = some o → ∀ i ∈ o.after, i < j := by
          intro j o hj i hi
          have := List.all_eq_true.1 hafter (o, j) (by rw [List.mem_zipIdx_iff_getElem?]; simpa using hj)
          have := List.all_eq_true.1 this i hi
          simpa using this
        have hanc : ∀ (j : Nat) (o : AO), l[j]? = some o → (ancs l)[j]? = some (o.after.flatMap fun i => i :: (ancs l).getD i []) := by
          intro j o hj
          have := (ancsGo_spec l [] fun j o hj i hi => by simpa using haft j o hj i hi).2 j o hj
          simpa [ancs] using this
        have htc : ∀ (i j : Nat) (p q : AO), l[i]? = some p → l[j]? = some q → i < j → (touches p q = true ∨ (p.eff = true ∧ q.eff = true)) → i ∈ (ancs l).getD j [] := by
          intro i j p q hi hj hij hor
          have := List.all_eq_true.1 htouch (p, i) (by rw [List.mem_zipIdx_iff_getElem?]; simpa using hi)
          have := List.all_eq_true.1 this (q, j) (by rw [List.mem_zipIdx_iff_getElem?]; simpa using hj)
          simp only [Bool.or_eq_true, Bool.not_eq_true', Bool.and_eq_false_iff, decide_eq_false_iff_not] at this
          rcases this with h | h
          · rcases h with h | h
            · exact absurd hij h
            · rcases hor with h2 | h2
              · rw [h2] at h; simp at h
              · rw [h2.1, h2.2] at h; simp at h
          · simpa using h
        have getl : ∀ i, i < l.length → ∃ o, l[i]? = some o ∧ l.getD i default = o := fun i hi => ⟨l[i], List.getElem?_eq_getElem hi, by simp [List.getD, hi]⟩
        have val : ∀ (j : Nat) (ej : Env) (k : Nat) (vj : V), t[j]? = some (ej, k, vj) → vals.getD j uv = vj := by
          intro j ej k vj hj
          rw [← hvals]; simp [List.getD, hj]
        -- the claim, for whatever has been done
        have main : ∀ (fuel : Nat) (listed : Array Bool) (K1 : Kn) (β1 : Bi) (a1 : Act) (w1 : World) (Hk : List Ob), listed.size = ops.size →
            (∀ (i : Nat) (o : AO), listed.getD i false = true → l[i]? = some o → ∀ p ∈ o.after, listed.getD p false = true) →
            ((List.range ops.size).filter fun i => !listed.getD i false).length ≤ fuel →
            ER K1 β1 nt (envK l vals e (fun i => listed.getD i false) l.length) a1 → hs[ceK l (fun i => listed.getD i false) l.length]? = some Hk → Inv K1 β1 Hk w1 → Ev K β H w K1 β1 Hk w1 → a1.defers = a.defers →
            wpAnyIn (Fr ro) bud P .any ops Q fuel listed a1 w1 := by
          intro fuel
          have last : ∀ (listed : Array Bool) (K1 : Kn) (β1 : Bi) (a1 : Act) (w1 : World) (Hk : List Ob), listed.size = ops.size →
              Region.ready .any ops listed = [] →
              ER K1 β1 nt (envK l vals e (fun i => listed.getD i false) l.length) a1 → hs[ceK l (fun i => listed.getD i false) l.length]? = some Hk → Inv K1 β1 Hk w1 → Ev K β H w K1 β1 Hk w1 → a1.defers = a.defers → Q .normal a1 w1 := by
            intro listed K1 β1 a1 w1 Hk hsz hr hE1 hHk hI1 hEv hdf
            have all : ∀ j, j < ops.size → listed.getD j false = true := by
              intro j
              induction j using Nat.strongRecOn with
              | _ j ih =>
                intro hj
                apply Decidable.byContradiction
                intro hn
                obtain ⟨o, ho, _⟩ := getl j (by omega)
                obtain ⟨oo, hoo, hco⟩ := hops j o ho
                have : j ∈ Region.ready .any ops listed := by
                  unfold Region.ready
                  rw [List.mem_filter]
                  refine ⟨List.mem_range.2 hj, ?_⟩
                  have h1 : listed.getD j true = false := by
                    have hjl : j < listed.size := by omega
                    simp [Array.getD_eq_getD_getElem?, hjl] at hn ⊢
                    exact hn
                  simp only [h1, Bool.not_false, Bool.true_and, hoo, Option.map_some, Option.getD_some]
                  rw [Array.all_eq_true']
                  intro ed hed
                  cases hb : Region.binds .any ed with
                  | false => simp
                  | true =>
                    have hin : ed.on ∈ o.after := by
                      obtain ⟨_, _, ao', hco', _, hca⟩ := cOperL_op hco
                      rw [← hca]
                      unfold cOper at hco'
                      split at hco' <;> cases hco'
                      simp only [List.mem_map, List.mem_filter]
                      exact ⟨ed, ⟨by simpa using hed, hb⟩, rfl⟩
                    have hlt := haft j o ho ed.on hin
                    simp [ih ed.on hlt (by omega)]
                rw [hr] at this; cases this
            have eAll : envK l vals e (fun i => listed.getD i false) l.length = envK l vals e (fun _ => true) l.length := by
              funext τ; exact envK_agree _ fun i hi _ => all i (by omega)
            have cAll : ceK l (fun i => listed.getD i false) l.length = cnt l := by
              rw [ceK_congr (q := fun _ => true) _ fun i hi _ => all i (by omega), ceK_cnt _ (Nat.le_refl _), List.take_length]
            rw [eAll, ← t4] at hE1
            have hH : Hk = H' := by
              rw [cAll] at hHk
              rw [List.getLast?_eq_getElem?, t2] at hlast
              simp only [List.length_singleton] at hlast
              rw [show 1 + cnt l - 1 = cnt l from by omega] at hlast
              rw [hlast] at hHk; exact (Option.some.inj hHk).symm
            subst hH
            exact hQ _ _ _ ⟨K1, β1, trivial, hE1, hI1, hEv, hdf⟩
          induction fuel with
          | zero =>
            intro listed K1 β1 a1 w1 Hk hsz hcl hfuel hE1 hHk hI1 hEv hdf
            have hr : Region.ready .any ops listed = [] := by
              unfold Region.ready
              rw [List.filter_eq_nil_iff]
              intro i hi hc
              simp only [Bool.and_eq_true, Bool.not_eq_true'] at hc
              have hn : ((List.range ops.size).filter fun i => !listed.getD i false) = [] := List.eq_nil_of_length_eq_zero (by omega)
              have := List.filter_eq_nil_iff.1 hn i hi
              have hil : i < listed.size := by rw [hsz]; exact List.mem_range.1 hi
              have h1 := hc.1
              simp [Array.getD_eq_getD_getElem?, hil] at this h1
              rw [this] at h1; cases h1
            exact ⟨hr, last listed K1 β1 a1 w1 Hk hsz hr hE1 hHk hI1 hEv hdf⟩
          | succ fuel ih =>
            intro listed K1 β1 a1 w1 Hk hsz hcl hfuel hE1 hHk hI1 hEv hdf
            refine ⟨fun hr => last listed K1 β1 a1 w1 Hk hsz hr hE1 hHk hI1 hEv hdf, fun j hj => ?_⟩
            unfold Region.ready at hj
            rw [List.mem_filter] at hj
            obtain ⟨hjr, hj⟩ := hj
            have hjn : j < ops.size := List.mem_range.1 hjr
            have hjl : j < listed.size := by omega
            simp only [Bool.and_eq_true, Bool.not_eq_true'] at hj
            obtain ⟨hj1, hj2⟩ := hj
            have hSj : listed.getD j false = false := by
              simp [Array.getD_eq_getD_getElem?, hjl] at hj1 ⊢; exact hj1
            obtain ⟨o, ho, hod⟩ := getl j (by omega)
            obtain ⟨oo, hoo, hco⟩ := hops j o ho
            have haftS : ∀ p ∈ o.after, listed.getD p false = true := by
              intro p hp
              obtain ⟨_, _, ao', hco', _, hca⟩ := cOperL_op hco
              rw [← hca] at hp
              unfold cOper at hco'
              split at hco' <;> cases hco'
              simp only [List.mem_map, List.mem_filter] at hp
              obtain ⟨ed, ⟨hed, hb⟩, rfl⟩ := hp
              rw [hoo] at hj2
              simp only [Option.map_some, Option.getD_some] at hj2
              rw [Array.all_eq_true'] at hj2
              have := hj2 ed (by simpa using hed)
              simpa [hb] using this
            -- what stands ahead, the farther ones too, is done
            have ancS : ∀ (j : Nat) (o : AO), l[j]? = some o → (∀ p ∈ o.after, listed.getD p false = true) → ∀ q ∈ (ancs l).getD j [], listed.getD q false = true := by
              intro j
              induction j using Nat.strongRecOn with
              | _ j ihj =>
                intro o ho hp q hq
                rw [List.getD_eq_getElem?_getD, hanc j o ho, Option.getD_some, List.mem_flatMap] at hq
                obtain ⟨p, hpm, hq⟩ := hq
                rcases List.mem_cons.1 hq with rfl | hq
                · exact hp _ hpm
                · have hpl := haft j o ho p hpm
                  have hjl := (List.getElem?_eq_some_iff.1 ho).1
                  obtain ⟨po, hpo, _⟩ := getl p (by omega)
                  exact ihj p hpl po hpo (hcl p po (hp p hpm) hpo) q hq
            have anc1 := ancS j o ho haftS
            have anc2 : ∀ (i : Nat) (oi : AO), l[i]? = some oi → listed.getD i false = true → j ∉ (ancs l).getD i [] := by
              intro i oi hi hSi hmem
              have := ancS i oi hi (hcl i oi hSi hi) j hmem
              rw [hSj] at this; cases this
            -- the temporaries that it looks at
            obtain ⟨ej, k, vj, Hj, q1, q2, q3, q4, q5⟩ := t5 j o ho
            have hvj := val j ej k vj q1
            have henv : ∀ τ ∈ uses o, envK l vals e (fun i => listed.getD i false) l.length τ = ej τ := by
              intro τ hτ
              rw [q2, ← envK_before l.length (by omega)]
              refine envK_agree _ fun i hi hdi => ?_
              obtain ⟨oi, hoi, hoid⟩ := getl i hi
              rw [hoid] at hdi
              by_cases hij : i < j
              · have : i ∈ (ancs l).getD j [] := htc i j oi o hoi ho hij (.inl (by simp [touches, hdi, hτ]))
                simp [anc1 i this, hij]
              · have hSi : listed.getD i false = false := by
                  apply Bool.eq_false_iff.2
                  intro hSi
                  have hne : i ≠ j := by rintro rfl; rw [hSj] at hSi; cases hSi
                  exact anc2 i oi hoi hSi (htc j i o oi ho hoi (by omega) (.inl (by simp [touches, hdi, hτ])))
                rw [hSi]; simp [hij]
            -- behind it
            have hset : ∀ i, (listed.setIfInBounds j true).getD i false = (listed.getD i false || i == j) := by
              intro i
              simp only [Array.getD_eq_getD_getElem?, Array.getElem?_setIfInBounds]
              by_cases hij : j = i
              · subst hij; simp [hjl]
              · have : (i == j) = false := by simp; omega
                simp [hij, this]
            have after : ∀ (c : Value) (K2 : Kn) (β2 : Bi) (w2 : World) (H2 : List Ob), VR K2 β2 vj c → Inv K2 β2 H2 w2 → Ev K1 β1 Hk w1 K2 β2 H2 w2 →
                hs[ceK l (fun i => listed.getD i false || i == j) l.length]? = some H2 → wpAnyIn (Fr ro) bud P .any ops Q fuel (listed.setIfInBounds j true) (a1.put oo.dst c) w2 := by
              intro c K2 β2 w2 H2 hv i2 e2 hH2
              have hfun : (fun i => (listed.setIfInBounds j true).getD i false) = fun i => listed.getD i false || i == j := funext hset
              refine ih (listed.setIfInBounds j true) K2 β2 _ w2 H2 (by simpa using hsz) ?_ ?_ ?_ (by rw [hfun]; exact hH2) i2 (hEv.trans e2) (by rw [put_defers]; exact hdf)
              · intro i oi hSi hoi p hp
                rw [hset] at hSi ⊢
                rw [Bool.or_eq_true] at hSi
                rcases hSi with hSi | hSi
                · simp [hcl i oi hSi hoi p hp]
                · have : i = j := by simpa using hSi
                  subst this
                  rw [ho] at hoi; cases hoi
                  simp [haftS p hp]
              · have hfl : (fun i => !(listed.setIfInBounds j true).getD i false) = fun i => !(listed.getD i false) && !(i == j) := by
                  funext i; rw [hset]; cases listed.getD i false <;> simp
                rw [hfl]
                have hlt := filter_lt (g := fun i => !(listed.getD i false) && !(i == j)) (h := fun i => !(listed.getD i false)) (j := j) (fun i hi => (Bool.and_eq_true _ _ ▸ hi : _ ∧ _).1) (by simp) (by simp [hSj])
                have := hlt (List.range ops.size) hjr
                omega
              · have hdd := (cOperL_op hco).2.1
                have hput := (hE1.mono e2.k e2.b).put (d := o.dst) (hdst o (List.mem_of_getElem? ho)) hv
                refine ⟨by rw [← hdd]; exact hput.size, fun τ => ?_⟩
                rw [hfun, envK_insert (by omega) hSj ?_ τ, hod, hvj, ← hdd]
                · exact hput.val τ
                · intro i hji hil hSi τ hd1 hd2
                  obtain ⟨oi, hoi, hoid⟩ := getl i hil
                  rw [hod] at hd1; rw [hoid] at hd2
                  exact anc2 i oi hoi hSi (htc j i o oi ho hoi hji (.inl (by simp [touches, hd1, hd2])))
            cases heff : o.eff with
            | true =>
              obtain ⟨H2, r1, r2⟩ := q4 heff
              have hcj : ceK l (fun i => listed.getD i false) l.length = cnt (l.take j) := by
                rw [← ceK_cnt j (by omega), ← ceK_before l.length (by omega)]
                refine ceK_congr _ fun i hi hei => ?_
                obtain ⟨oi, hoi, hoid⟩ := getl i hi
                rw [hoid] at hei
                by_cases hij : i < j
                · have := htc i j oi o hoi ho hij (.inr ⟨hei, heff⟩)
                  simp [anc1 i this, hij]
                · have hSi : listed.getD i false = false := by
                    apply Bool.eq_false_iff.2
                    intro hSi
                    have hne : i ≠ j := by rintro rfl; rw [hSj] at hSi; cases hSi
                    exact anc2 i oi hoi hSi (htc j i o oi ho hoi (by omega) (.inr ⟨heff, hei⟩))
                  rw [hSi]; simp [hij]
              have hHj : Hj = Hk := by
                rw [hcj] at hHk
                simp only [List.length_singleton, Nat.sub_self, Nat.zero_add] at q3
                rw [q3] at hHk; exact Option.some.inj hHk
              subst hHj
              rw [← effOp_congr henv] at r2
              refine eff_wp hcall r2 (hEv.k.2.2.trans hL) hI1 hE1 hoo hco fun c K2 β2 w2 hv i2 e2 => after c K2 β2 w2 H2 hv i2 e2 ?_
              rw [ceK_insert hSj _ (by omega), hod, heff, hcj]
              simp only [List.length_singleton] at r1
              rw [← r1]; congr 1; simp; omega
            | false =>
              have hq := steadyAll_spec l 0 t hst j o ej k vj ho q1 heff (ceK l (fun i => listed.getD i false) l.length) Hk ?_ ?_ hHk
              · rw [← quietOp_congr henv] at hq
                refine quiet_wp hcall hq (hEv.k.2.2.trans hL) hI1 hE1 hoo hco fun c K2 β2 w2 hv i2 e2 => after c K2 β2 w2 Hk hv i2 e2 ?_
                rw [ceK_insert hSj _ (by omega), hod, heff]; simpa using hHk
              · rw [Nat.zero_add]
                exact ceK_mono _ fun i hi hp _ => anc1 i (by simpa using hp)
              · rw [Nat.zero_add]
                refine ceK_mono _ fun i hi hp _ => ?_
                obtain ⟨oi, hoi, _⟩ := getl i hi
                simpa using anc2 i oi hoi hp
        refine wpIn_region_any hm ?_
        refine main ops.size (Array.replicate ops.size false) K β a _ H (by simp) ?_ ?_ ?_ ?_ (hI.drawn rfl) (.drawn rfl rfl rfl rfl) rfl
        · intro i o hi
          simp [Array.getD_eq_getD_getElem?, Array.getElem?_replicate] at hi
          split at hi <;> simp at hi
        · exact Nat.le_trans (List.length_filter_le _ _) (by simp)
        · have hz : ∀ i, (Array.replicate ops.size false).getD i false = false := fun i => by
            simp only [Array.getD_eq_getD_getElem?, Array.getElem?_replicate]; split <;> rfl
          have : ∀ n, envK l vals e (fun i => (Array.replicate ops.size false).getD i false) n = e := by
            intro n
            induction n with
            | zero => rfl
            | succ n ih =>
              simp only [envK]
              rw [if_neg (by rw [hz]; simp)]; exact ih
          rw [this]; exact hE
        · have hz : ∀ i, (Array.replicate ops.size false).getD i false = false := fun i => by
            simp only [Array.getD_eq_getD_getElem?, Array.getElem?_replicate]; split <;> rfl
          have : ∀ n, ceK l (fun i => (Array.replicate ops.size false).getD i false) n = 0 := by
            intro n
            induction n with
            | zero => rfl
            | succ n ih =>
              simp only [ceK]
              rw [ih, if_neg (by rw [hz]; simp)]
          rw [this, t3 0 (by simp)]; rfl
      · cases h
    · cases h
end
end Fz
namespace Fz
open Go

/-- A new block that is no object here. -/
theorem Inv.junk {K : Kn} {β : Bi} {H : List Ob} {w w' : World} (h : Inv K β H w) {x : Obj} (hh : w'.heap = w.heap.push x) (h1 : w'.os = w.os) (h2 : w'.tape = w.tape) (h3 : w'.output = w.output) :
    Inv K β H w' ∧ Ev K β H w K β H w' := by
  refine ⟨⟨fun b o hb => ?_, fun b z hz => ?_, h.dom, fun id o ho => ?_, h.inj⟩, ⟨K.le_refl, fun _ _ h => h, Nat.le_refl _, fun x hx _ => by rw [hh, push_get hx], by rw [hh]; simp, h1, h2, h3, fun _ h => .inl h, fun _ _ h => .inl h, fun _ _ => rfl⟩⟩
  · have := h.fixed b o hb; rw [hh, push_get (heap_lt this)]; exact this
  · obtain ⟨cs, e, fr, g1, g2⟩ := h.size b z hz
    exact ⟨cs, e, fr, by rw [hh, push_get (heap_lt g1)]; exact g1, g2⟩
  · refine (h.obj id o ho).mono K.le_refl (fun _ _ h => h) fun b hl hb hf => ⟨hf, ?_⟩
    obtain ⟨b', q1, q2, _⟩ := (h.obj id o ho).lt hl
    rw [hb] at q1; cases q1
    rw [hh, push_get q2]

/-- A block that is no object here is written. -/
theorem Inv.junkPut {K : Kn} {β : Bi} {H : List Ob} {w w' : World} (h : Inv K β H w) {b : Nat} {x' : Obj} (hb : ¬ liveB H β b) (hf : K.fixed b = none) (hz : K.size b = none)
    (hh : ∀ y, w'.heap[y]? = if y = b then some x' else w.heap[y]?) (hs : w'.heap.size = w.heap.size) (h1 : w'.os = w.os) (h2 : w'.tape = w.tape) (h3 : w'.output = w.output) :
    Inv K β H w' ∧ ∀ {K0 : Kn} {β0 : Bi} {H0 : List Ob} {w0 : World}, Ev K0 β0 H0 w0 K β H w → (liveB H0 β0 b ∨ w0.heap.size ≤ b) → Ev K0 β0 H0 w0 K β H w' := by
  refine ⟨⟨fun y o hy => ?_, fun y z hy => ?_, h.dom, fun id o ho => ?_, h.inj⟩, fun {K0 β0 H0 w0} e hor => ?_⟩
  · rw [hh]
    by_cases ey : y = b
    · subst ey; rw [hf] at hy; cases hy
    · rw [if_neg ey]; exact h.fixed y o hy
  · rw [hh]
    by_cases ey : y = b
    · subst ey; rw [hz] at hy; cases hy
    · rw [if_neg ey]; exact h.size y z hy
  · refine (h.obj id o ho).mono K.le_refl (fun _ _ h => h) fun y hl hy hf => ⟨hf, ?_⟩
    rw [hh, if_neg]
    intro ey; subst ey
    exact hb ⟨id, ⟨o, ho, hl⟩, hy⟩
  · refine ⟨e.k, e.b, e.hl, fun x hx hn => ?_, by rw [hs]; exact e.size, h1.trans e.os, h2.trans e.tape, h3.trans e.output, e.live, e.fix, e.bx⟩
    rw [hh, if_neg]
    · exact e.frame x hx hn
    · intro ex; subst ex
      rcases hor with hl | hl
      · exact hn hl
      · omega

theorem putObj_get {w : World} {b : Nat} {o : Obj} (hb : b < w.heap.size) (x : Nat) : (w.putObj b o).heap[x]? = if x = b then some o else w.heap[x]? := by
  by_cases e : x = b
  · subst e; rw [if_pos rfl, World.putObj_heap_same hb]
  · rw [if_neg e, World.putObj_heap_other e]

/-! ### Marks -/

def mark (D : Nat) : Deferred := { target := .collected D, args := #[] }

structure Mk (K : Kn) (β : Bi) (H : List Ob) (w : World) (D : Nat) : Prop where
  there : w.heap[D]? = some (.deferred (some []))
  dead : ¬ liveB H β D
  fix : K.fixed D = none

theorem Mk.ev {K K' : Kn} {β β' : Bi} {H H' : List Ob} {w w' : World} {D : Nat} (h : Mk K β H w D) (e : Ev K β H w K' β' H' w') : Mk K' β' H' w' D := by
  have hlt := heap_lt h.there
  refine ⟨(e.frame D hlt h.dead).trans h.there, fun hl => (e.live D hl).elim h.dead fun hge => by omega, ?_⟩
  cases hf : K'.fixed D with
  | none => rfl
  | some o =>
    rcases e.fix D o hf with h' | h' | h'
    · rw [h.fix] at h'; cases h'
    · exact absurd h' h.dead
    · omega

/-- The deferred calls: marks ahead of those that there were. -/
def Marked (b : Bool) (K : Kn) (β : Bi) (H : List Ob) (w : World) (n : Nat) (ds' ds : List Deferred) : Prop :=
  ∃ Ds : List Nat, (b = false → Ds = []) ∧ ds' = Ds.map mark ++ ds ∧ Ds.Pairwise (· > ·) ∧ ∀ D ∈ Ds, n ≤ D ∧ Mk K β H w D

theorem Marked.refl (b : Bool) (K : Kn) (β : Bi) (H : List Ob) (w : World) (n : Nat) (ds : List Deferred) : Marked b K β H w n ds ds :=
  ⟨[], fun _ => rfl, rfl, .nil, fun D h => by cases h⟩
theorem Marked.low {b : Bool} {K : Kn} {β : Bi} {H : List Ob} {w : World} {n m : Nat} {ds' ds : List Deferred} (h : Marked b K β H w m ds' ds) (hle : n ≤ m) : Marked b K β H w n ds' ds := by
  obtain ⟨Ds, h1, h2, h3, h4⟩ := h
  exact ⟨Ds, h1, h2, h3, fun D hD => ⟨Nat.le_trans hle (h4 D hD).1, (h4 D hD).2⟩⟩
theorem Marked.weak {b b' : Bool} {K : Kn} {β : Bi} {H : List Ob} {w : World} {n : Nat} {ds' ds : List Deferred} (h : Marked b K β H w n ds' ds) (hb : b' = false → b = false) : Marked b' K β H w n ds' ds := by
  obtain ⟨Ds, h1, h2⟩ := h
  exact ⟨Ds, fun h => h1 (hb h), h2⟩
theorem Marked.ev {b : Bool} {K K' : Kn} {β β' : Bi} {H H' : List Ob} {w w' : World} {n : Nat} {ds' ds : List Deferred} (h : Marked b K β H w n ds' ds) (e : Ev K β H w K' β' H' w') : Marked b K' β' H' w' n ds' ds := by
  obtain ⟨Ds, h1, h2, h3, h4⟩ := h
  exact ⟨Ds, h1, h2, h3, fun D hD => ⟨(h4 D hD).1, (h4 D hD).2.ev e⟩⟩
theorem Marked.trans {b c : Bool} {K K' : Kn} {β β' : Bi} {H H' : List Ob} {w w' : World} {n : Nat} {d0 d1 d2 : List Deferred} (h : Marked b K β H w n d1 d0) (e : Ev K β H w K' β' H' w') (hn : n ≤ w.heap.size)
    (g : Marked c K' β' H' w' w.heap.size d2 d1) : Marked (b || c) K' β' H' w' n d2 d0 := by
  obtain ⟨Ds, h1, h2, h3, h4⟩ := h
  obtain ⟨Es, g1, g2, g3, g4⟩ := g
  refine ⟨Es ++ Ds, fun hb => ?_, by rw [g2, h2]; simp, ?_, ?_⟩
  · simp only [Bool.or_eq_false_iff] at hb
    rw [h1 hb.1, g1 hb.2]; rfl
  · rw [List.pairwise_append]
    refine ⟨g3, h3, fun a ha d hd => ?_⟩
    have q1 := (g4 a ha).1
    have q2 := heap_lt (h4 d hd).2.there
    show a > d
    omega
  · intro D hD
    rcases List.mem_append.1 hD with hD | hD
    · exact ⟨Nat.le_trans hn (g4 D hD).1, (g4 D hD).2⟩
    · exact ⟨(h4 D hD).1, (h4 D hD).2.ev e⟩

/-- What code comes to. -/
def PostM (b : Bool) (K : Kn) (β : Bi) (H : List Ob) (w : World) (nt : Nat) (x : X) (e' : Env) (H' : List Ob) (ds : List Deferred) : Exit → Act → World → Prop :=
  fun ex a' w' => ∃ K' β', XR K' β' x ex ∧ ER K' β' nt e' a' ∧ Inv K' β' H' w' ∧ Ev K β H w K' β' H' w' ∧ Marked b K' β' H' w' w.heap.size a'.defers ds

theorem Post.marked {b : Bool} {K : Kn} {β : Bi} {H : List Ob} {w w' : World} {nt : Nat} {x : X} {e' : Env} {H' : List Ob} {ds : List Deferred} {ex : Exit} {a' : Act} (h : Post K β H w nt x e' H' ds ex a' w') :
    PostM b K β H w nt x e' H' ds ex a' w' := by
  obtain ⟨K', β', h1, h2, h3, h4, h5⟩ := h
  exact ⟨K', β', h1, h2, h3, h4, h5 ▸ .refl ..⟩

theorem PostM.after {b c d : Bool} {K K1 : Kn} {β β1 : Bi} {H H1 H' : List Ob} {w w1 w' : World} {nt : Nat} {x : X} {e' : Env} {ds d1 : List Deferred} {ex : Exit} {a' : Act} (h : Ev K β H w K1 β1 H1 w1)
    (m : Marked b K1 β1 H1 w1 w.heap.size d1 ds) (hd : d = false → b = false ∧ c = false) (g : PostM c K1 β1 H1 w1 nt x e' H' d1 ex a' w') : PostM d K β H w nt x e' H' ds ex a' w' := by
  obtain ⟨K2, β2, q1, q2, q3, q4, q5⟩ := g
  exact ⟨K2, β2, q1, q2, q3, h.trans q4, (m.trans q4 h.size q5).weak fun hd' => by simp [hd hd']⟩

theorem PostM.weak {b c : Bool} {K : Kn} {β : Bi} {H H' : List Ob} {w w' : World} {nt : Nat} {x : X} {e' : Env} {ds : List Deferred} {ex : Exit} {a' : Act} (hd : c = false → b = false) (g : PostM b K β H w nt x e' H' ds ex a' w') :
    PostM c K β H w nt x e' H' ds ex a' w' := by
  obtain ⟨K2, β2, q1, q2, q3, q4, q5⟩ := g
  exact ⟨K2, β2, q1, q2, q3, q4, q5.weak hd⟩

/-- The marks are come to, one by one. -/
theorem leaves_marks {P : Program} {F : Fence} {n : Nat} {fn : Func} {tmps : Array Value} {R : Ending → World → Prop} {u : FrameMode} (hu : u ≠ .run) {K : Kn} {β : Bi} {H : List Ob} {rest : List Deferred} {K0 : Kn} {β0 : Bi} {H0 : List Ob} {w0 : World}
    (hr : ∀ w, Inv K β H w → Ev K0 β0 H0 w0 K β H w → LeavesInM F n P fn tmps R rest u w) :
    ∀ (Ds : List Nat) (w : World), Ds.Pairwise (· > ·) → (∀ D ∈ Ds, w0.heap.size ≤ D ∧ Mk K β H w D) → Inv K β H w → Ev K0 β0 H0 w0 K β H w → LeavesInM F n P fn tmps R (Ds.map mark ++ rest) u w
  | [], w, _, _, hI, hE => hr w hI hE
  | D :: Ds, w, hp, hD, hI, hE => by
    obtain ⟨h1, h2⟩ := hD D (by simp)
    have hlt := heap_lt h2.there
    obtain ⟨i1, e1⟩ := hI.junkPut (w' := w.putObj D (.deferred none)) h2.dead h2.fix (size_none hI h2.there (by simp)) (fun y => putObj_get hlt y) (by simp) rfl rfl rfl
    have hE1 := e1 hE (.inr h1)
    rw [List.pairwise_cons] at hp
    refine ⟨hu, .inl ⟨D, _, rfl, run_takeDeferred h2.there, leaves_marks hu hr Ds _ hp.2 (fun D' hD' => ?_) i1 hE1⟩⟩
    obtain ⟨g1, g2⟩ := hD D' (by simp [hD'])
    have hne : D' ≠ D := by have := hp.1 D' hD'; omega
    exact ⟨g1, by rw [World.putObj_heap_other hne]; exact g2.there, g2.dead, g2.fix⟩
end Fz
