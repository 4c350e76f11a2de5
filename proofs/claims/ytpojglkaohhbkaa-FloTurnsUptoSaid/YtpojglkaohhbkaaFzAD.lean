/- Laws by which 'simp' carries code out: the operations. -/
import Derived.Test.YtpojglkaohhbkaaFzAC
namespace Fz
open Go
section acts
variable {p : AP} {e : Env} {H : List Ob} {K R : V → List Ob → Prop} {Q : V → Prop}
@[simp ↓] theorem wAct_mov {x : Opd} : wAct p e H K R (.mov x) = wOp (evO e) H K (.mov x) := (rfl)
@[simp ↓] theorem wQ_mov {x : Opd} : wQ p e H Q (.mov x) = wOp (evO e) H (fun v _ => Q v) (.mov x) := propext ⟨fun h => h.2, fun h => ⟨rfl, h⟩⟩
@[simp ↓] theorem wAct_pick {c a b : Opd} : wAct p e H K R (.pick c a b) = wOp (evO e) H K (.pick c a b) := (rfl)
@[simp ↓] theorem wQ_pick {c a b : Opd} : wQ p e H Q (.pick c a b) = wOp (evO e) H (fun v _ => Q v) (.pick c a b) := propext ⟨fun h => h.2, fun h => ⟨rfl, h⟩⟩
@[simp ↓] theorem wAct_alloc {z : List V} : wAct p e H K R (.alloc z) = wOp (evO e) H K (.alloc z) := (rfl)
@[simp ↓] theorem wAct_box {x : Opd} : wAct p e H K R (.box x) = wOp (evO e) H K (.box x) := (rfl)
@[simp ↓] theorem wAct_build {z : List V} {ps : List (Nat × Nat × Opd)} : wAct p e H K R (.build z ps) = wOp (evO e) H K (.build z ps) := (rfl)
@[simp ↓] theorem wQ_build {z : List V} {ps : List (Nat × Nat × Opd)} : wQ p e H Q (.build z ps) = wOp (evO e) H (fun v _ => Q v) (.build z ps) := propext ⟨fun h => h.2, fun h => ⟨rfl, h⟩⟩
@[simp ↓] theorem wAct_buildSlice {n len : Nat} {z : List V} {ps : List (Nat × Nat × Opd)} : wAct p e H K R (.buildSlice n len z ps) = wOp (evO e) H K (.buildSlice n len z ps) := (rfl)
@[simp ↓] theorem wAct_load {agg : Bool} {n : Nat} {x : Opd} : wAct p e H K R (.load agg n x) = wOp (evO e) H K (.load agg n x) := (rfl)
@[simp ↓] theorem wQ_load {agg : Bool} {n : Nat} {x : Opd} : wQ p e H Q (.load agg n x) = wOp (evO e) H (fun v _ => Q v) (.load agg n x) := propext ⟨fun h => h.2, fun h => ⟨rfl, h⟩⟩
@[simp ↓] theorem wAct_store {n : Nat} {a x : Opd} : wAct p e H K R (.store n a x) = wOp (evO e) H K (.store n a x) := (rfl)
@[simp ↓] theorem wAct_nilCheck {x : Opd} : wAct p e H K R (.nilCheck x) = wOp (evO e) H K (.nilCheck x) := (rfl)
@[simp ↓] theorem wQ_nilCheck {x : Opd} : wQ p e H Q (.nilCheck x) = wOp (evO e) H (fun v _ => Q v) (.nilCheck x) := propext ⟨fun h => h.2, fun h => ⟨rfl, h⟩⟩
@[simp ↓] theorem wAct_bin {op : BinOp} {k : EqK} {x y : Opd} : wAct p e H K R (.bin op k x y) = wOp (evO e) H K (.bin op k x y) := (rfl)
@[simp ↓] theorem wQ_bin {op : BinOp} {k : EqK} {x y : Opd} : wQ p e H Q (.bin op k x y) = wOp (evO e) H (fun v _ => Q v) (.bin op k x y) := propext ⟨fun h => h.2, fun h => ⟨rfl, h⟩⟩
@[simp ↓] theorem wAct_un {op : UnOp} {x : Opd} : wAct p e H K R (.un op x) = wOp (evO e) H K (.un op x) := (rfl)
@[simp ↓] theorem wQ_un {op : UnOp} {x : Opd} : wQ p e H Q (.un op x) = wOp (evO e) H (fun v _ => Q v) (.un op x) := propext ⟨fun h => h.2, fun h => ⟨rfl, h⟩⟩
@[simp ↓] theorem wAct_conv {k : CvK} {x : Opd} : wAct p e H K R (.conv k x) = wOp (evO e) H K (.conv k x) := (rfl)
@[simp ↓] theorem wQ_conv_int {k : IntKind} {x : Opd} : wQ p e H Q (.conv (.int k) x) = wOp (evO e) H (fun v _ => Q v) (.conv (.int k) x) := propext ⟨fun h => h.2, fun h => ⟨rfl, h⟩⟩
@[simp ↓] theorem wQ_conv_s2s {x : Opd} : wQ p e H Q (.conv .s2s x) = wOp (evO e) H (fun v _ => Q v) (.conv .s2s x) := propext ⟨fun h => h.2, fun h => ⟨rfl, h⟩⟩
@[simp ↓] theorem wQ_conv_b2s {x : Opd} : wQ p e H Q (.conv .b2s x) = wOp (evO e) H (fun v _ => Q v) (.conv .b2s x) := propext ⟨fun h => h.2, fun h => ⟨rfl, h⟩⟩
@[simp ↓] theorem wAct_makeIface {t : TypeId} {x : Opd} : wAct p e H K R (.makeIface t x) = wOp (evO e) H K (.makeIface t x) := (rfl)
@[simp ↓] theorem wQ_makeIface {t : TypeId} {x : Opd} : wQ p e H Q (.makeIface t x) = wOp (evO e) H (fun v _ => Q v) (.makeIface t x) := propext ⟨fun h => h.2, fun h => ⟨rfl, h⟩⟩
@[simp ↓] theorem wAct_makeFunc {f : Fn} {a b : List Opd} : wAct p e H K R (.makeFunc f a b) = wOp (evO e) H K (.makeFunc f a b) := (rfl)
@[simp ↓] theorem wQ_makeFunc {f : Fn} {a b : List Opd} : wQ p e H Q (.makeFunc f a b) = wOp (evO e) H (fun v _ => Q v) (.makeFunc f a b) := propext ⟨fun h => h.2, fun h => ⟨rfl, h⟩⟩
@[simp ↓] theorem wAct_makeSlice {n bytes : Nat} {z : List V} {l c : Opd} : wAct p e H K R (.makeSlice n bytes z l c) = wOp (evO e) H K (.makeSlice n bytes z l c) := (rfl)
@[simp ↓] theorem wAct_slice {k : SlK} {x : Opd} {lo hi mx : Option Opd} : wAct p e H K R (.slice k x lo hi mx) = wOp (evO e) H K (.slice k x lo hi mx) := (rfl)
@[simp ↓] theorem wQ_slice {k : SlK} {x : Opd} {lo hi mx : Option Opd} : wQ p e H Q (.slice k x lo hi mx) = wOp (evO e) H (fun v _ => Q v) (.slice k x lo hi mx) := propext ⟨fun h => h.2, fun h => ⟨rfl, h⟩⟩
@[simp ↓] theorem wAct_fieldAddr {off : Nat} {x : Opd} : wAct p e H K R (.fieldAddr off x) = wOp (evO e) H K (.fieldAddr off x) := (rfl)
@[simp ↓] theorem wQ_fieldAddr {off : Nat} {x : Opd} : wQ p e H Q (.fieldAddr off x) = wOp (evO e) H (fun v _ => Q v) (.fieldAddr off x) := propext ⟨fun h => h.2, fun h => ⟨rfl, h⟩⟩
@[simp ↓] theorem wAct_field {agg : Bool} {off n : Nat} {x : Opd} : wAct p e H K R (.field agg off n x) = wOp (evO e) H K (.field agg off n x) := (rfl)
@[simp ↓] theorem wQ_field {agg : Bool} {off n : Nat} {x : Opd} : wQ p e H Q (.field agg off n x) = wOp (evO e) H (fun v _ => Q v) (.field agg off n x) := propext ⟨fun h => h.2, fun h => ⟨rfl, h⟩⟩
@[simp ↓] theorem wAct_indexSl {n : Nat} {x i : Opd} : wAct p e H K R (.indexSl n x i) = wOp (evO e) H K (.indexSl n x i) := (rfl)
@[simp ↓] theorem wQ_indexSl {n : Nat} {x i : Opd} : wQ p e H Q (.indexSl n x i) = wOp (evO e) H (fun v _ => Q v) (.indexSl n x i) := propext ⟨fun h => h.2, fun h => ⟨rfl, h⟩⟩
@[simp ↓] theorem wAct_indexPA {al n : Nat} {x i : Opd} : wAct p e H K R (.indexPA al n x i) = wOp (evO e) H K (.indexPA al n x i) := (rfl)
@[simp ↓] theorem wQ_indexPA {al n : Nat} {x i : Opd} : wQ p e H Q (.indexPA al n x i) = wOp (evO e) H (fun v _ => Q v) (.indexPA al n x i) := propext ⟨fun h => h.2, fun h => ⟨rfl, h⟩⟩
@[simp ↓] theorem wAct_indexArr {al n : Nat} {agg : Bool} {x i : Opd} : wAct p e H K R (.indexArr al n agg x i) = wOp (evO e) H K (.indexArr al n agg x i) := (rfl)
@[simp ↓] theorem wQ_indexArr {al n : Nat} {agg : Bool} {x i : Opd} : wQ p e H Q (.indexArr al n agg x i) = wOp (evO e) H (fun v _ => Q v) (.indexArr al n agg x i) := propext ⟨fun h => h.2, fun h => ⟨rfl, h⟩⟩
@[simp ↓] theorem wAct_indexStr {x i : Opd} : wAct p e H K R (.indexStr x i) = wOp (evO e) H K (.indexStr x i) := (rfl)
@[simp ↓] theorem wQ_indexStr {x i : Opd} : wQ p e H Q (.indexStr x i) = wOp (evO e) H (fun v _ => Q v) (.indexStr x i) := propext ⟨fun h => h.2, fun h => ⟨rfl, h⟩⟩
@[simp ↓] theorem wAct_extract {i : Nat} {x : Opd} : wAct p e H K R (.extract i x) = wOp (evO e) H K (.extract i x) := (rfl)
@[simp ↓] theorem wQ_extract {i : Nat} {x : Opd} : wQ p e H Q (.extract i x) = wOp (evO e) H (fun v _ => Q v) (.extract i x) := propext ⟨fun h => h.2, fun h => ⟨rfl, h⟩⟩
@[simp ↓] theorem wAct_lenC {n : Nat} : wAct p e H K R (.lenC n) = wOp (evO e) H K (.lenC n) := (rfl)
@[simp ↓] theorem wQ_lenC {n : Nat} : wQ p e H Q (.lenC n) = wOp (evO e) H (fun v _ => Q v) (.lenC n) := propext ⟨fun h => h.2, fun h => ⟨rfl, h⟩⟩
@[simp ↓] theorem wAct_lenS {x : Opd} : wAct p e H K R (.lenS x) = wOp (evO e) H K (.lenS x) := (rfl)
@[simp ↓] theorem wQ_lenS {x : Opd} : wQ p e H Q (.lenS x) = wOp (evO e) H (fun v _ => Q v) (.lenS x) := propext ⟨fun h => h.2, fun h => ⟨rfl, h⟩⟩
@[simp ↓] theorem wAct_len {x : Opd} : wAct p e H K R (.len x) = wOp (evO e) H K (.len x) := (rfl)
@[simp ↓] theorem wQ_len {x : Opd} : wQ p e H Q (.len x) = wOp (evO e) H (fun v _ => Q v) (.len x) := propext ⟨fun h => h.2, fun h => ⟨rfl, h⟩⟩
@[simp ↓] theorem wAct_cap {x : Opd} : wAct p e H K R (.cap x) = wOp (evO e) H K (.cap x) := (rfl)
@[simp ↓] theorem wQ_cap {x : Opd} : wQ p e H Q (.cap x) = wOp (evO e) H (fun v _ => Q v) (.cap x) := propext ⟨fun h => h.2, fun h => ⟨rfl, h⟩⟩
@[simp ↓] theorem wAct_append {n bytes : Nat} {zs : Option (List V)} {s x : Opd} : wAct p e H K R (.append n bytes zs s x) = wOp (evO e) H K (.append n bytes zs s x) := (rfl)
@[simp ↓] theorem wAct_copy {n : Nat} {d s : Opd} : wAct p e H K R (.copy n d s) = wOp (evO e) H K (.copy n d s) := (rfl)
@[simp ↓] theorem wAct_clear {z : List V} {n : Nat} {x : Opd} : wAct p e H K R (.clear z n x) = wOp (evO e) H K (.clear z n x) := (rfl)
@[simp ↓] theorem wAct_max {l : List Opd} : wAct p e H K R (.max l) = wOp (evO e) H K (.max l) := (rfl)
@[simp ↓] theorem wQ_max {l : List Opd} : wQ p e H Q (.max l) = wOp (evO e) H (fun v _ => Q v) (.max l) := propext ⟨fun h => h.2, fun h => ⟨rfl, h⟩⟩
@[simp ↓] theorem wAct_min {l : List Opd} : wAct p e H K R (.min l) = wOp (evO e) H K (.min l) := (rfl)
@[simp ↓] theorem wQ_min {l : List Opd} : wQ p e H Q (.min l) = wOp (evO e) H (fun v _ => Q v) (.min l) := propext ⟨fun h => h.2, fun h => ⟨rfl, h⟩⟩
end acts

section ops
variable {H : List Ob} {K : V → List Ob → Prop} {ρ : Opd → V}
@[simp ↓] theorem wOp_mov {x : Opd} : wOp ρ H K (.mov x) = wVal (ρ x) fun v => K v H := (rfl)
@[simp ↓] theorem wOp_pick {c a b : Opd} : wOp ρ H K (.pick c a b) = xBool (ρ c) (wVal (ρ a) fun v => K v H) (wVal (ρ b) fun v => K v H) := (rfl)
@[simp ↓] theorem wOp_alloc {z : List V} : wOp ρ H K (.alloc z) = wVal H fun H => K (.ptr H.length 0) (H ++ [.live z]) := (rfl)
@[simp ↓] theorem wOp_box {x : Opd} : wOp ρ H K (.box x) = wVal (ρ x) fun v => isAny v = false ∧ wVal H fun H => K (.ptr H.length 0) (H ++ [.live (cellsOf v)]) := (rfl)
/-- Parts, laid one by one. -/
def wBuild (ρ : Opd → V) (cells : List V) (K : List V → Prop) : List (Nat × Nat × Opd) → Prop
  | [] => K cells
  | (off, n, x) :: r => wVal (ρ x) fun v => wVal (cellsOf v) fun c => (c.length = n ∧ off + n ≤ cells.length ∧ isAny v = false) ∧ wVal (splice cells off c) fun cells => wBuild ρ cells K r
@[simp ↓] theorem wBuild_nil {c : List V} {K : List V → Prop} : wBuild ρ c K [] = K c := (rfl)
@[simp ↓] theorem wBuild_cons {off n : Nat} {x : Opd} {r : List (Nat × Nat × Opd)} {cells : List V} {K : List V → Prop} : wBuild ρ cells K ((off, n, x) :: r) =
    wVal (ρ x) fun v => wVal (cellsOf v) fun c => (c.length = n ∧ off + n ≤ cells.length ∧ isAny v = false) ∧ wVal (splice cells off c) fun cells => wBuild ρ cells K r := (rfl)
theorem wFill_eq {K : List V → Prop} : ∀ (ps : List (Nat × Nat × Opd)) (cells : List V), wFill cells K (ps.map fun p => (p.1, p.2.1, ρ p.2.2)) = wBuild ρ cells K ps
  | [], _ => rfl
  | (off, n, x) :: r, cells => by rw [List.map_cons, wFill, wFill_eq]; rfl
@[simp ↓] theorem wOp_build {z : List V} {ps : List (Nat × Nat × Opd)} : wOp ρ H K (.build z ps) = wBuild ρ z (fun l => K (.agg l) H) ps := wFill_eq ps z
@[simp ↓] theorem wOp_buildSlice {n len : Nat} {z : List V} {ps : List (Nat × Nat × Opd)} : wOp ρ H K (.buildSlice n len z ps) =
    wVal (zeros z len) fun z => wBuild ρ z (fun cells => if len = 0 then K (.list [] true) H else wVal H fun H => K (.own H.length 0 len n) (H ++ [.live cells])) ps := wFill_eq ps _
@[simp ↓] theorem wOp_load {n : Nat} {x : Opd} : wOp ρ H K (.load false n x) = xPeek H n (ρ x) fun l => wOne l fun v => K v H := (rfl)
@[simp ↓] theorem wOp_loadA {n : Nat} {x : Opd} : wOp ρ H K (.load true n x) = xPeek H n (ρ x) fun l => K (.agg l) H := (rfl)
@[simp ↓] theorem wOp_store {n : Nat} {a x : Opd} : wOp ρ H K (.store n a x) = wPtr (ρ a) fun id off => wVal (cellsOf (ρ x)) fun c => wVal H fun H => wMut H id fun l =>
    (c.length = n ∧ off + n ≤ l.length ∧ c.all storable = true) ∧ wVal (splice l off c) fun l => K uv (H.set id (.live l)) := by
  simp only [wOp, wPtr]; generalize ρ a = v; cases v <;> rfl
@[simp ↓] theorem wOp_nilCheck {x : Opd} : wOp ρ H K (.nilCheck x) = wNil (ρ x) fun v => K v H := (rfl)
@[simp ↓] theorem wOp_bin {op : BinOp} {k : EqK} {x y : Opd} : wOp ρ H K (.bin op k x y) = xBin op k (ρ x) (ρ y) fun v => K v H := (rfl)
@[simp ↓] theorem wOp_un {op : UnOp} {x : Opd} : wOp ρ H K (.un op x) = xUn op (ρ x) fun v => K v H := (rfl)
@[simp ↓] theorem wOp_convI {k : IntKind} {x : Opd} : wOp ρ H K (.conv (.int k) x) = xInt (ρ x) fun _ n => wVal (k.wrap n) fun n => K (.int k n) H := (rfl)
@[simp ↓] theorem wOp_convS {x : Opd} : wOp ρ H K (.conv .s2s x) = wStr (ρ x) fun s => K (.str s) H := by
  simp only [wOp, wStr]; generalize ρ x = v; cases v <;> first | rfl | simp [wVal, wGet, wAt, wMut]
@[simp ↓] theorem wOp_convB {x : Opd} : wOp ρ H K (.conv .b2s x) = wSl (ρ x) (fun l c => xElems H 1 (.list l c) fun p _ => allU8 p = true ∧ wVal (bytesV p) fun s => K (.str s) H)
    (fun a b c d => xElems H 1 (.own a b c d) fun p _ => allU8 p = true ∧ wVal (bytesV p) fun s => K (.str s) H) := by
  simp only [wOp, wSl, wVal]; generalize ρ x = v; cases v <;> first | rfl | simp [wVal, wGet, wAt, wMut]
@[simp ↓] theorem wOp_makeIface {t : TypeId} {x : Opd} : wOp ρ H K (.makeIface t x) = wVal (ρ x) fun v => isAny v = false ∧ K (.iface t v) H := (rfl)
@[simp ↓] theorem wOp_makeFunc {f : Fn} {a b : List Opd} : wOp ρ H K (.makeFunc f a b) = wVal (a.map ρ) fun a => wVal (b.map ρ) fun b => K (.fn f a b) H := (rfl)
@[simp ↓] theorem wOp_makeSlice {n bytes : Nat} {z : List V} {l c : Opd} : wOp ρ H K (.makeSlice n bytes z l c) = xInt (ρ l) fun _ l => xInt (ρ c) fun _ c =>
    (0 ≤ l ∧ l ≤ c ∧ c * bytes ≤ 2 ^ 47 ∧ c ≤ 2 ^ 47 ∧ (z.length = n ∧ n ≠ 0)) ∧
      if c = 0 then K (.list [] true) H else wVal H fun H => wVal (zeros z c.toNat) fun z => K (.own H.length 0 l.toNat n) (H ++ [.live z]) := (rfl)
@[simp ↓] theorem wOp_slice {k : SlK} {x : Opd} {lo hi mx : Option Opd} : wOp ρ H K (.slice k x lo hi mx) = xSlice H k (ρ x) (lo.map ρ) (hi.map ρ) (mx.map ρ) fun v => K v H := (rfl)
@[simp ↓] theorem wOp_fieldAddr {off : Nat} {x : Opd} : wOp ρ H K (.fieldAddr off x) = wPR (ρ x) (fun id o => wVal (o + off) fun o => K (.ptr id o) H) (fun l => off ≤ l.length ∧ wVal (l.drop off) fun l => K (.ref l) H) := by
  simp only [wOp, wPR, wVal]; generalize ρ x = v; cases v <;> first | rfl | simp [wVal, wGet, wAt, wMut]
@[simp ↓] theorem wOp_field {off n : Nat} {x : Opd} : wOp ρ H K (.field false off n x) = wAgg (ρ x) fun l => off + n ≤ l.length ∧ wGet l off fun v => K v H := by
  simp only [wOp, wAgg, wGet]; split <;> simp_all
@[simp ↓] theorem wOp_fieldA {off n : Nat} {x : Opd} : wOp ρ H K (.field true off n x) = wAgg (ρ x) fun l => off + n ≤ l.length ∧ wVal ((l.drop off).take n) fun l => K (.agg l) H := by
  simp only [wOp, wAgg, wVal]; split <;> simp_all
@[simp ↓] theorem wOp_indexSl {n : Nat} {x i : Opd} : wOp ρ H K (.indexSl n x i) = xInt (ρ i) fun _ j => 0 ≤ j ∧ wSl (ρ x) (fun l _ => wVal j.toNat fun j => wGet l j fun v => wVal (cellsOf v) fun c => c.length = n ∧ K (.ref c) H)
    (fun id off len m => (j < len ∧ m = n) ∧ K (.ptr id (off + j.toNat * n)) H) := by
  simp only [wOp, wSl, wVal, wGet]; generalize ρ x = v; cases v <;> first | rfl | simp [wVal, wGet, wAt, wMut]
@[simp ↓] theorem wOp_indexPA {al n : Nat} {x i : Opd} : wOp ρ H K (.indexPA al n x i) = xInt (ρ i) fun _ j => 0 ≤ j ∧ wPR (ρ x) (fun id off => j < al ∧ K (.ptr id (off + j.toNat * n)) H)
    (fun l => (j < al ∧ j.toNat * n ≤ l.length) ∧ wVal (l.drop (j.toNat * n)) fun l => K (.ref l) H) := by
  simp only [wOp, wPR, wVal]; generalize ρ x = v; cases v <;> first | rfl | simp [wVal, wGet, wAt, wMut]
@[simp ↓] theorem wOp_indexArr {al n : Nat} {x i : Opd} : wOp ρ H K (.indexArr al n false x i) = xInt (ρ i) fun _ j => wAgg (ρ x) fun l => (0 ≤ j ∧ j < al ∧ j.toNat * n + n ≤ l.length) ∧ wGet l (j.toNat * n) fun v => K v H := by
  simp only [wOp, xInt, wAgg, wGet]; generalize ρ i = u; generalize ρ x = v; cases u <;> first | rfl | (cases v <;> simp)
@[simp ↓] theorem wOp_indexArrA {al n : Nat} {x i : Opd} : wOp ρ H K (.indexArr al n true x i) = xInt (ρ i) fun _ j => wAgg (ρ x) fun l => (0 ≤ j ∧ j < al ∧ j.toNat * n + n ≤ l.length) ∧ wVal ((l.drop (j.toNat * n)).take n) fun l => K (.agg l) H := by
  simp only [wOp, xInt, wAgg, wVal]; generalize ρ i = u; generalize ρ x = v; cases u <;> first | rfl | (cases v <;> simp)
@[simp ↓] theorem wOp_indexStr {x i : Opd} : wOp ρ H K (.indexStr x i) = xInt (ρ i) fun _ j => 0 ≤ j ∧ wStr (ρ x) fun s => wAt s.data.toList j.toNat fun b => K (.int .u8 b.toNat) H := by
  simp only [wOp, wStr, wAt]; generalize ρ x = v; cases v <;> first | rfl | simp [wVal, wGet, wAt, wMut]
@[simp ↓] theorem wOp_extract {i : Nat} {x : Opd} : wOp ρ H K (.extract i x) = wTup (ρ x) fun l => wGet l i fun v => K v H := (rfl)
@[simp ↓] theorem wOp_lenC {n : Nat} : wOp ρ H K (.lenC n) = K (.int .i64 n) H := (rfl)
@[simp ↓] theorem wOp_lenS {x : Opd} : wOp ρ H K (.lenS x) = wStr (ρ x) fun s => K (.int .i64 s.size) H := (rfl)
@[simp ↓] theorem wOp_len {x : Opd} : wOp ρ H K (.len x) = wSl (ρ x) (fun l _ => wVal (V.int .i64 l.length) fun v => K v H) (fun _ _ n _ => K (.int .i64 n) H) := (rfl)
@[simp ↓] theorem wOp_cap {x : Opd} : wOp ρ H K (.cap x) = wSl (ρ x) (fun l c => c = true ∧ wVal (V.int .i64 l.length) fun v => K v H) (fun _ _ _ _ => False) := by
  simp only [wOp, wSl, wVal]; generalize ρ x = v; cases v <;> simp
@[simp ↓] theorem wOp_append {n bytes : Nat} {s x : Opd} : wOp ρ H K (.append n bytes none s x) = wVal H fun H => xElems H n (ρ x) fun xs k => xAppend H n bytes (ρ s) xs k K := (rfl)
@[simp ↓] theorem wOp_appendN {n bytes : Nat} {z : List V} {s x : Opd} : wOp ρ H K (.append n bytes (some z) s x) = xInt (ρ x) fun _ l => (0 ≤ l ∧ l ≤ 2 ^ 47 ∧ l * bytes ≤ 2 ^ 47 ∧ z.length = n) ∧
    wVal H fun H => xAppend H n bytes (ρ s) (zeros z l.toNat) l.toNat K := (rfl)
@[simp ↓] theorem wOp_copy {n : Nat} {d s : Opd} : wOp ρ H K (.copy n d s) = wVal H fun H => xElems H n (ρ s) fun xs k => wSl (ρ d) (fun l _ => l = [] ∧ K (.int .i64 0) H)
    (fun id off len m => wMut H id fun l => (m = n ∧ off + len * n ≤ l.length ∧ (xs.take (Nat.min k len * n)).all storable = true) ∧
      K (.int .i64 (Nat.min k len : Nat)) (H.set id (.live (splice l off (xs.take (Nat.min k len * n)))))) := by
  simp only [wOp, wSl, wVal, wMut]; generalize ρ d = v; cases v <;> first | rfl | simp [wVal, wGet, wAt, wMut]
@[simp ↓] theorem wOp_clear {z : List V} {n : Nat} {x : Opd} : wOp ρ H K (.clear z n x) = wVal H fun H => wSl (ρ x) (fun l _ => l = [] ∧ K uv H)
    (fun id off len m => wMut H id fun l => (m = n ∧ z.length = n ∧ off + len * n ≤ l.length ∧ z.all storable = true) ∧ K uv (H.set id (.live (splice l off (zeros z len))))) := by
  simp only [wOp, wSl, wVal, wMut]; generalize ρ x = v; cases v <;> first | rfl | simp [wVal, wGet, wAt, wMut]
@[simp ↓] theorem wOp_max {l : List Opd} : wOp ρ H K (.max l) = wOpt (maxV (l.map ρ)) fun v => K v H := (rfl)
@[simp ↓] theorem wOp_min {l : List Opd} : wOp ρ H K (.min l) = wOpt (minV (l.map ρ)) fun v => K v H := (rfl)
end ops

/-! ### Numbers and truths -/
section bin
variable {k : IntKind} {ek : EqK} {a b : Int} {K : V → Prop}
@[simp] theorem wBin_add : xBin .add ek (.int k a) (.int k b) K = wVal (k.wrap (a + b)) fun n => K (.int k n) := by simp [xBin, wBin, binV, wVal]
@[simp] theorem wBin_sub : xBin .sub ek (.int k a) (.int k b) K = wVal (k.wrap (a - b)) fun n => K (.int k n) := by simp [xBin, wBin, binV, wVal]
@[simp] theorem wBin_mul : xBin .mul ek (.int k a) (.int k b) K = wVal (k.wrap (a * b)) fun n => K (.int k n) := by simp [xBin, wBin, binV, wVal]
@[simp] theorem wBin_quo : xBin .quo ek (.int k a) (.int k b) K = (b ≠ 0 ∧ wVal (k.wrap (a.tdiv b)) fun n => K (.int k n)) := by
  by_cases h : b = 0 <;> simp [xBin, wBin, binV, wVal, h]
@[simp] theorem wBin_rem : xBin .rem ek (.int k a) (.int k b) K = (b ≠ 0 ∧ wVal (a.tmod b) fun n => K (.int k n)) := by
  by_cases h : b = 0 <;> simp [xBin, wBin, binV, wVal, h]
@[simp] theorem wBin_lss : xBin .lss ek (.int k a) (.int k b) K = K (.bool (decide (a < b))) := by simp [xBin, wBin, binV, cmpInt]
@[simp] theorem wBin_leq : xBin .leq ek (.int k a) (.int k b) K = K (.bool (decide (a ≤ b))) := by simp [xBin, wBin, binV, cmpInt]
@[simp] theorem wBin_gtr : xBin .gtr ek (.int k a) (.int k b) K = K (.bool (decide (b < a))) := by simp [xBin, wBin, binV, cmpInt]
@[simp] theorem wBin_geq : xBin .geq ek (.int k a) (.int k b) K = K (.bool (decide (b ≤ a))) := by simp [xBin, wBin, binV, cmpInt]
@[simp] theorem wBin_eql : xBin .eql ek (.int k a) (.int k b) K = K (.bool (decide (a = b))) := by
  simp only [xBin, wBin, binV, cmpInt, if_true, Option.map_some, Option.some.injEq, exists_eq_left']
  rw [show (a == b) = decide (a = b) from by by_cases h : a = b <;> simp [h]]
@[simp] theorem wBin_neq : xBin .neq ek (.int k a) (.int k b) K = K (.bool (decide (a ≠ b))) := by
  simp only [xBin, wBin, binV, cmpInt, if_true, Option.map_some, Option.some.injEq, exists_eq_left']
  rw [show (a != b) = decide (a ≠ b) from by by_cases h : a = b <;> simp [h]]
@[simp] theorem wUn_not {t : Bool} : xUn .not (.bool t) K = K (.bool (!t)) := by simp [xUn, wUn, unV]
@[simp] theorem wUn_neg : xUn .neg (.int k a) K = wVal (k.wrap (0 - a)) fun n => K (.int k n) := by simp [xUn, wUn, unV, wVal]
end bin
end Fz
