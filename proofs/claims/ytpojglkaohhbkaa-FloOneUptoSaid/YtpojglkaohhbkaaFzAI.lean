/- Laws by which 'simp' carries code out: maps, texts gone through, types asked, floats. -/
import Derived.Test.YtpojglkaohhbkaaFzAH
namespace Fz
open Go

theorem ex2 {α β : Type} {a : α} {b : β} {K : α → β → Prop} : (∃ x y, (a = x ∧ b = y) ∧ K x y) = K a b :=
  propext ⟨by rintro ⟨_, _, ⟨rfl, rfl⟩, h⟩; exact h, fun h => ⟨_, _, ⟨rfl, rfl⟩, h⟩⟩
def xPur (k : PK) (l : List V) (K : V → Prop) [Tok K] : Prop := wPur k l K
def xRd (H : List Ob) (k : RK) (l : List V) (K : V → Prop) [Tok H] [Tok K] : Prop := wRd H k l K
def xMem (H : List Ob) (k : MK) (l : List V) (Q : V → List Ob → Prop) [Tok H] [Tok Q] : Prop := wMem H k l Q
/-- A map's keys and values. -/
def wMapOf (H : List Ob) (m : V) (K : List V → List V → Prop) [Tok H] [Tok K] : Prop := ∃ ks vs, mapOf H m = some (ks, vs) ∧ K ks vs
def wML (H : List Ob) (id : Nat) (K : List V → List V → Prop) [Tok K] : Prop := ∃ ks vs, H[id]? = some (.mlive ks vs) ∧ K ks vs
def wIter (H : List Ob) (id : Nat) (K : ByteArray → Nat → Prop) [Tok K] : Prop := ∃ s pos, H[id]? = some (.iter s pos) ∧ K s pos
/-- Where a key stands; what, if it doesn't. -/
def wFind (kk : KyK) (k : V) (ks : List V) (i : Nat) (F : Nat → Prop) (N : Prop) [Tok F] [Tok N] : Prop := ∃ r, findV kk k ks i = some r ∧ match r with | some j => F j | none => N

section
variable {p : AP} {e : Env} {H : List Ob} {K R : V → List Ob → Prop} {Q : V → Prop} {ρ : Opd → V}
@[simp ↓] theorem wAct_pur {k : PK} {l : List Opd} : wAct p e H K R (.pur k l) = wOp (evO e) H K (.pur k l) := (rfl)
@[simp ↓] theorem wQ_pur {k : PK} {l : List Opd} : wQ p e H Q (.pur k l) = wOp (evO e) H (fun v _ => Q v) (.pur k l) := propext ⟨fun h => h.2, fun h => ⟨rfl, h⟩⟩
@[simp ↓] theorem wAct_rd {k : RK} {l : List Opd} : wAct p e H K R (.rd k l) = wOp (evO e) H K (.rd k l) := (rfl)
@[simp ↓] theorem wQ_rd {k : RK} {l : List Opd} : wQ p e H Q (.rd k l) = wOp (evO e) H (fun v _ => Q v) (.rd k l) := propext ⟨fun h => h.2, fun h => ⟨rfl, h⟩⟩
@[simp ↓] theorem wAct_mem {k : MK} {l : List Opd} : wAct p e H K R (.mem k l) = wOp (evO e) H K (.mem k l) := (rfl)
@[simp ↓] theorem wOp_pur {k : PK} {l : List Opd} : wOp ρ H K (.pur k l) = xPur k (l.map ρ) fun v => K v H := (rfl)
@[simp ↓] theorem wOp_rd {k : RK} {l : List Opd} : wOp ρ H K (.rd k l) = xRd H k (l.map ρ) fun v => K v H := (rfl)
@[simp ↓] theorem wOp_mem {k : MK} {l : List Opd} : wOp ρ H K (.mem k l) = xMem H k (l.map ρ) K := (rfl)
end

section
variable {H : List Ob} {K : V → Prop} {Q : V → List Ob → Prop}
@[simp] theorem xPur_i2f {k : FloatKind} {j : IntKind} {n : Int} : xPur (.i2f k) [.int j n] K = wVal (k.nearest n) fun b => K (.float k b) := by simp [xPur, wPur, purV]
@[simp] theorem xPur_f2i {k : IntKind} {j : FloatKind} {b : Nat} : xPur (.f2i k) [.float j b] K = wOpt ((j.decode b).toInt .zero) fun n => (k.min ≤ n ∧ n ≤ k.max) ∧ K (.int k n) := by
  simp only [xPur, wPur, purV, wOpt]
  cases (j.decode b).toInt .zero with
  | none => simp
  | some n => by_cases h : k.min ≤ n ∧ n ≤ k.max <;> simp [h]
@[simp] theorem xPur_i2s {j : IntKind} {n : Int} : xPur .i2s [.int j n] K = wVal (Utf8.encode n) fun s => K (.str s) := by simp [xPur, wPur, purV]
@[simp] theorem xPur_assert {t u : TypeId} {v : V} : xPur (.assert t none) [.iface u v] K = (u = t ∧ K v) := by
  by_cases h : u = t <;> simp [xPur, wPur, purV, h]
@[simp] theorem xPur_assertOk {t u : TypeId} {z v : V} : xPur (.assert t (some z)) [.iface u v] K = if u = t then K (.tuple [v, .bool true]) else K (.tuple [z, .bool false]) := by
  by_cases h : u = t <;> simp [xPur, wPur, purV, h]
@[simp] theorem xPur_assertNil {t : TypeId} {z : V} : xPur (.assert t (some z)) [.niliface] K = K (.tuple [z, .bool false]) := by simp [xPur, wPur, purV]
@[simp] theorem xRd_lookup {kk : KyK} {z m k : V} {ok : Bool} : xRd H (.lookup kk z ok) [m, k] K = wMapOf H m fun ks vs => wFind kk k ks 0 (fun i => wGet vs i fun v => if ok = true then K (.tuple [v, .bool true]) else K v) (if ok = true then K (.tuple [z, .bool false]) else K z) := by
  simp only [xRd, wRd, rdV, wMapOf, wFind, wGet]
  refine propext ⟨?_, ?_⟩
  · rintro ⟨v, h1, h2⟩
    split at h1 <;> try (cases h1; done)
    rename_i ks vs hm
    refine ⟨ks, vs, hm, ?_⟩
    split at h1 <;> try (cases h1; done)
    · rename_i i hf
      split at h1 <;> cases h1
      rename_i v hv
      refine ⟨some i, hf, v, hv, ?_⟩
      cases ok <;> exact h2
    · rename_i hf
      cases h1
      refine ⟨none, hf, ?_⟩
      cases ok <;> exact h2
  · rintro ⟨ks, vs, hm, r, hf, h⟩
    cases r with
    | none => exact ⟨if ok then .tuple [z, .bool false] else z, by simp only [hm, hf], by cases ok <;> exact h⟩
    | some i =>
      obtain ⟨v, hv, h⟩ := h
      exact ⟨if ok then .tuple [v, .bool true] else v, by simp only [hm, hf, hv], by cases ok <;> exact h⟩
@[simp] theorem wMapOf_nil {K : List V → List V → Prop} : wMapOf H .nilmap K = K [] [] := by
  show (∃ ks vs, some (([] : List V), ([] : List V)) = some (ks, vs) ∧ K ks vs) = _
  simp only [Option.some.injEq, Prod.mk.injEq, ex2]
@[simp] theorem wMapOf_map {ks vs : List V} {K : List V → List V → Prop} : wMapOf H (.map ks vs) K = K ks vs := by simp [ex2, wMapOf, mapOf]
@[simp] theorem wMapOf_ref {id : Nat} {K : List V → List V → Prop} : wMapOf H (.mref id) K = wML H id K := by
  simp only [wMapOf, mapOf, wML]
  refine propext ⟨?_, ?_⟩
  · rintro ⟨ks, vs, h1, h2⟩
    split at h1 <;> cases h1
    rename_i h
    exact ⟨ks, vs, h, h2⟩
  · rintro ⟨ks, vs, h1, h2⟩
    exact ⟨ks, vs, by rw [h1], h2⟩
@[simp] theorem wML_zero {ks vs : List V} {H : List Ob} {K : List V → List V → Prop} : wML (.mlive ks vs :: H) 0 K = K ks vs := by simp [ex2, wML]
@[simp] theorem wML_succ {o : Ob} {H : List Ob} {n : Nat} {K : List V → List V → Prop} : wML (o :: H) (n + 1) K = wML H n K := by simp [ex2, wML]
@[simp] theorem wML_end {ks vs : List V} {H : List Ob} {K : List V → List V → Prop} : wML (H ++ [.mlive ks vs]) H.length K = K ks vs := by simp [ex2, wML]
@[simp] theorem wML_j {J r : List Ob} {x : Ob} {K : List V → List V → Prop} : wML (J ++ x :: r) J.length K = wML (x :: r) 0 K := by simp [ex2, wML]
@[simp] theorem wML_jn {J r : List Ob} {n : Nat} {K : List V → List V → Prop} : wML (J ++ r) (J.length + n) K = wML r n K := by simp [ex2, wML]
@[simp] theorem wIter_zero {s : ByteArray} {pos : Nat} {H : List Ob} {K : ByteArray → Nat → Prop} : wIter (.iter s pos :: H) 0 K = K s pos := by simp [ex2, wIter]
@[simp] theorem wIter_succ {o : Ob} {H : List Ob} {n : Nat} {K : ByteArray → Nat → Prop} : wIter (o :: H) (n + 1) K = wIter H n K := by simp [ex2, wIter]
@[simp] theorem wIter_end {s : ByteArray} {pos : Nat} {H : List Ob} {K : ByteArray → Nat → Prop} : wIter (H ++ [.iter s pos]) H.length K = K s pos := by simp [ex2, wIter]
@[simp] theorem wFind_nil {kk : KyK} {k : V} {i : Nat} {F : Nat → Prop} {N : Prop} : wFind kk k [] i F N = N := by simp [wFind, findV]
@[simp] theorem wFind_int {q : IntKind} {a b : Int} {es : List V} {i : Nat} {F : Nat → Prop} {N : Prop} : wFind .int (.int q a) (.int q b :: es) i F N = if a = b then F i else wFind .int (.int q a) es (i + 1) F N := by
  by_cases h : a = b
  · simp [wFind, findV, keyEq, h]
  · have : (a == b) = false := beq_eq_false_iff_ne.2 h
    simp only [wFind, findV, keyEq, if_true, this, if_neg h]
@[simp] theorem wFind_str {a b : ByteArray} {es : List V} {i : Nat} {F : Nat → Prop} {N : Prop} : wFind .str (.str a) (.str b :: es) i F N = if a = b then F i else wFind .str (.str a) es (i + 1) F N := by
  by_cases h : a = b
  · subst h; simp [wFind, findV, keyEq]
  · have : (a.data.toList == b.data.toList) = false := by rw [bytes_beq, decide_eq_false h]
    simp only [wFind, findV, keyEq, this, if_neg h]
@[simp] theorem xMem_makeMap : xMem H .makeMap [] Q = wVal H fun H => Q (.mref H.length) (H ++ [.mlive [] []]) := by simp [ex2, xMem, wMem, memV, wVal]
@[simp] theorem xMem_makeMap1 {k : IntKind} {n : Int} : xMem H .makeMap [.int k n] Q = wVal H fun H => Q (.mref H.length) (H ++ [.mlive [] []]) := by simp [ex2, xMem, wMem, memV, wVal]
@[simp] theorem xMem_mapPut {kk : KyK} {id : Nat} {k v : V} : xMem H (.mapPut kk) [.mref id, k, v] Q = wML H id fun ks vs => wFind kk k ks 0 (fun _ => False) (wVal (ks ++ [k]) fun ks => wVal (vs ++ [v]) fun vs => Q uv (H.set id (.mlive ks vs))) := by
  simp only [xMem, wMem, memV, wML, wFind, wVal]
  refine propext ⟨?_, ?_⟩
  · rintro ⟨v', H', h1, h2⟩
    rcases h1 with h1 | ⟨h1, rfl⟩
    · repeat' split at h1
      all_goals cases h1
    · split at h1 <;> try (cases h1; done)
      rename_i ks vs ho
      split at h1 <;> cases h1
      rename_i hf
      exact ⟨ks, vs, ho, none, hf, h2⟩
  · rintro ⟨ks, vs, ho, r, hf, h⟩
    cases r with
    | some j => cases h
    | none => exact ⟨uv, _, .inr ⟨by rw [ho]; simp only [hf], rfl⟩, h⟩
@[simp] theorem xMem_range {s : ByteArray} : xMem H .range [.str s] Q = wVal H fun H => Q (.ptr H.length 0) (H ++ [.iter s 0]) := by simp [ex2, xMem, wMem, memV, wVal]
@[simp] theorem xMem_next {id : Nat} : xMem H .next [.ptr id 0] Q = wIter H id fun s pos => if pos < s.size then
    wVal (Utf8.decode s pos) fun d => Q (.tuple [.bool true, .int .i64 pos, .int .i32 d.1]) (H.set id (.iter s (pos + d.2))) else Q (.tuple [.bool false]) H := by
  simp only [xMem, wMem, memV, wIter, wVal]
  refine propext ⟨?_, ?_⟩
  · rintro ⟨v', H', h1, h2⟩
    split at h1
    · rename_i s pos ho
      refine ⟨s, pos, ho, ?_⟩
      by_cases hp : pos < s.size
      · rw [if_pos hp] at h1 ⊢
        rcases h1 with h1 | ⟨h1, _⟩ <;> cases h1
        exact h2
      · rw [if_neg hp] at h1 ⊢
        rcases h1 with h1 | ⟨h1, _⟩ <;> cases h1
        exact h2
    · rcases h1 with h1 | ⟨h1, _⟩ <;> cases h1
  · rintro ⟨s, pos, ho, h⟩
    by_cases hp : pos < s.size
    · rw [if_pos hp] at h
      exact ⟨_, _, .inl (by rw [ho]; simp only [if_pos hp]), h⟩
    · rw [if_neg hp] at h
      exact ⟨_, _, .inl (by rw [ho]; simp only [if_neg hp]), h⟩
end

/-! ### Floats -/
section
variable {k : FloatKind} {a b : Nat} {ek : EqK} {K : V → Prop}
/-- What may be no number. -/
def wFl (k : FloatKind) (o : Option Nat) (K : V → Prop) [Tok K] : Prop := K (floatV k o)
@[simp] theorem wFl_some {n : Nat} : wFl k (some n) K = K (.float k n) := (rfl)
@[simp] theorem wFl_none : wFl k none K = K (.fnan k) := (rfl)
@[simp] theorem wBin_fadd : xBin .add ek (.float k a) (.float k b) K = wFl k (k.format.add a b) K := by simp [xBin, wBin, binV, wFl]
@[simp] theorem wBin_fsub : xBin .sub ek (.float k a) (.float k b) K = wFl k (k.format.sub a b) K := by simp [xBin, wBin, binV, wFl]
@[simp] theorem wBin_fmul : xBin .mul ek (.float k a) (.float k b) K = wFl k (k.format.mul a b) K := by simp [xBin, wBin, binV, wFl]
@[simp] theorem wBin_fquo : xBin .quo ek (.float k a) (.float k b) K = wFl k (k.format.div a b) K := by simp [xBin, wBin, binV, wFl]
@[simp] theorem wBin_feql : xBin .eql ek (.float k a) (.float k b) K = K (.bool (k.format.order a b == some .eq)) := by simp [xBin, wBin, binV, cmpF]
@[simp] theorem wBin_fneq : xBin .neq ek (.float k a) (.float k b) K = K (.bool (k.format.order a b != some .eq)) := by simp [xBin, wBin, binV, cmpF]
@[simp] theorem wBin_flss : xBin .lss ek (.float k a) (.float k b) K = K (.bool (k.format.order a b == some .lt)) := by simp [xBin, wBin, binV, cmpF]
@[simp] theorem wBin_fgtr : xBin .gtr ek (.float k a) (.float k b) K = K (.bool (k.format.order a b == some .gt)) := by simp [xBin, wBin, binV, cmpF]
@[simp] theorem wBin_fleq : xBin .leq ek (.float k a) (.float k b) K = K (.bool (k.format.order a b == some .lt || k.format.order a b == some .eq)) := by simp [xBin, wBin, binV, cmpF]
@[simp] theorem wBin_fgeq : xBin .geq ek (.float k a) (.float k b) K = K (.bool (k.format.order a b == some .gt || k.format.order a b == some .eq)) := by simp [xBin, wBin, binV, cmpF]
@[simp] theorem wBin_nneq : xBin .neq ek (.fnan k) (.fnan k) K = K (.bool true) := by simp [xBin, wBin, binV, cmpF]; rfl
@[simp] theorem wBin_neql : xBin .eql ek (.fnan k) (.fnan k) K = K (.bool false) := by simp [xBin, wBin, binV, cmpF]
@[simp] theorem wUn_fneg : xUn .neg (.float k a) K = wVal (Op.negFloat k a) fun b => K (.float k b) := by simp [xUn, wUn, unV, wVal]
end
end Fz
