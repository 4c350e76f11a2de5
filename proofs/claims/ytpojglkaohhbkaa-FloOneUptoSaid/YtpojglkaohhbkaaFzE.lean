/- Each operation is carried out as the abstract interpreter says: operands, what is read, what is pure. -/
import Derived.Test.YtpojglkaohhbkaaFzD
namespace Fz
open Go

/-- A list of values stands for a list of the model's. -/
def LR (K : Kn) (β : Bi) (l : List V) (cs : List Value) : Prop := l.length = cs.length ∧ ∀ i v, l[i]? = some v → VR K β v (cs.getD i Go.undef)

theorem LR.nil (K : Kn) (β : Bi) : LR K β [] [] := ⟨rfl, fun i v h => by simp at h⟩
theorem LR.cons {K : Kn} {β : Bi} {v : V} {c : Value} {l : List V} {cs : List Value} (h : VR K β v c) (hl : LR K β l cs) : LR K β (v :: l) (c :: cs) := by
  refine ⟨by simp [hl.1], fun i u hu => ?_⟩
  cases i with
  | zero => simp at hu; subst hu; exact h
  | succ i => simpa using hl.2 i u (by simpa using hu)
theorem LR.head {K : Kn} {β : Bi} {v : V} {l : List V} {cs : List Value} (h : LR K β (v :: l) cs) : ∃ c r, cs = c :: r ∧ VR K β v c ∧ LR K β l r := by
  cases cs with
  | nil => have := h.1; simp at this
  | cons c r =>
    refine ⟨c, r, rfl, by simpa using h.2 0 v (by simp), by have := h.1; simp at this; exact this, fun i u hu => ?_⟩
    simpa using h.2 (i + 1) u (by simpa using hu)
theorem LR.mono {K K' : Kn} {β β' : Bi} (hK : K.le K') (hβ : ∀ i b, β i = some b → β' i = some b) {l : List V} {cs : List Value} (h : LR K β l cs) : LR K' β' l cs :=
  ⟨h.1, fun i v hv => (h.2 i v hv).mono hK hβ⟩
theorem LR.append {K : Kn} {β : Bi} {l m : List V} {cs ds : List Value} (h : LR K β l cs) (g : LR K β m ds) : LR K β (l ++ m) (cs ++ ds) := by
  refine ⟨by simp [h.1, g.1], fun i v hv => ?_⟩
  by_cases e : i < l.length
  · rw [List.getElem?_append_left e] at hv
    have := h.2 i v hv
    simp only [List.getD, List.getElem?_append_left (by rw [← h.1]; exact e)] at this ⊢
    exact this
  · rw [List.getElem?_append_right (by omega)] at hv
    have := g.2 _ v hv
    simp only [List.getD, List.getElem?_append_right (show cs.length ≤ i by rw [← h.1]; omega), ← h.1] at this ⊢
    exact this
theorem LR.take {K : Kn} {β : Bi} {l : List V} {cs : List Value} (h : LR K β l cs) (n : Nat) : LR K β (l.take n) (cs.take n) := by
  refine ⟨by simp [h.1], fun i v hv => ?_⟩
  by_cases e : i < n
  · simp [List.getElem?_take, e] at hv
    have := h.2 i v hv
    simpa [List.getD, List.getElem?_take, e] using this
  · simp [List.getElem?_take, e] at hv
theorem LR.drop {K : Kn} {β : Bi} {l : List V} {cs : List Value} (h : LR K β l cs) (n : Nat) : LR K β (l.drop n) (cs.drop n) := by
  refine ⟨by simp [h.1], fun i v hv => ?_⟩
  simp only [List.getElem?_drop] at hv
  have := h.2 _ v hv
  simpa [List.getD, List.getElem?_drop] using this
theorem LR.get {K : Kn} {β : Bi} {l : List V} {cs : List Value} (h : LR K β l cs) {i : Nat} {v : V} (hv : l[i]? = some v) : ∃ c, cs[i]? = some c ∧ VR K β v c := by
  have hi : i < cs.length := by rw [← h.1]; exact (List.getElem?_eq_some_iff.1 hv).1
  have := h.2 i v hv
  exact ⟨cs[i], List.getElem?_eq_getElem hi, by simpa [List.getD, hi] using this⟩
theorem LR.of_arr {K : Kn} {β : Bi} {l : List V} {cs : Array Value} (hl : l.length = cs.size) (h : ∀ i v, l[i]? = some v → VR K β v (cs.getD i Go.undef)) : LR K β l cs.toList := by
  refine ⟨by simpa using hl, fun i v hv => ?_⟩
  have := h i v hv
  simpa [List.getD, Array.getD_eq_getD_getElem?] using this
theorem LR.to_arr {K : Kn} {β : Bi} {l : List V} {cs : Array Value} (h : LR K β l cs.toList) : l.length = cs.size ∧ ∀ i v, l[i]? = some v → VR K β v (cs.getD i Go.undef) := by
  refine ⟨by simpa using h.1, fun i v hv => ?_⟩
  have := h.2 i v hv
  simpa [List.getD, Array.getD_eq_getD_getElem?] using this
theorem LR.arr {K : Kn} {β : Bi} {l : List V} {cs : List Value} (h : LR K β l cs) : l.length = cs.toArray.size ∧ ∀ i v, l[i]? = some v → VR K β v (cs.toArray.getD i Go.undef) :=
  LR.to_arr (cs := cs.toArray) (by simpa using h)
theorem LR.csR {K : Kn} {β : Bi} {l : List V} {cs : List Value} (h : LR K β l cs) : CsR K β l cs.toArray := ⟨Nat.le_of_eq h.arr.1, h.arr.2⟩
theorem LR.single {K : Kn} {β : Bi} {v : V} {c : Value} (h : VR K β v c) : LR K β [v] [c] := .cons h (.nil K β)
theorem LR.splice {K : Kn} {β : Bi} {l x : List V} {cs ds : List Value} (h : LR K β l cs) (g : LR K β x ds) (off : Nat) :
    LR K β (Fz.splice l off x) (cs.take off ++ ds ++ cs.drop (off + ds.length)) := by
  unfold Fz.splice
  rw [← g.1]
  exact ((h.take off).append g).append (h.drop _)
theorem LR.mapOpt {K : Kn} {β : Bi} {α : Type} {f : α → Option V} {g : α → Value} : ∀ {l : List α} {x : List V}, Fz.mapOpt f l = some x → (∀ a v, a ∈ l → f a = some v → VR K β v (g a)) → LR K β x (l.map g)
  | [], x, h, _ => by simp [Fz.mapOpt] at h; subst h; exact .nil K β
  | a :: l, x, h, hf => by
    simp only [Fz.mapOpt] at h
    cases ha : f a with
    | none => simp [ha] at h
    | some v =>
      cases hl : Fz.mapOpt f l with
      | none => simp [ha, hl] at h
      | some y =>
        simp [ha, hl] at h; subst h
        exact .cons (hf a v (by simp) ha) (LR.mapOpt hl fun b u hb hu => hf b u (by simp [hb]) hu)

theorem cells_LR {K : Kn} {β : Bi} {v : V} {c : Value} (h : VR K β v c) (ha : v ≠ .any) : LR K β (cellsOf v) c.cells.toList := by
  cases h with
  | agg hl h => exact .of_arr hl h
  | any => exact absurd rfl ha
  | bool b => exact .single (.bool b)
  | int k n => exact .single (.int k n)
  | float k b => exact .single (.float k b)
  | fnan k b h => exact .single (.fnan k b h)
  | str s => exact .single (.str s)
  | nilp => exact .single .nilp
  | ptr h => exact .single (.ptr h)
  | ref hb hl h => exact .single (.ref hb hl h)
  | lnil h => exact .single (.lnil h)
  | list hb hu hn hl hc hcl h => exact .single (.list hb hu hn hl hc hcl h)
  | own h hz hl hz' hn => exact .single (.own h hz hl hz' hn)
  | tuple hl h => exact .single (.tuple hl h)
  | fn hl h hm h' => exact .single (.fn hl h hm h')
  | nilfn => exact .single .nilfn
  | iface h => exact .single (.iface h)
  | niliface => exact .single .niliface
  | nilmap => exact .single .nilmap
  | mref h => exact .single (.mref h)
  | map hb hk hv h h' => exact .single (.map hb hk hv h h')

theorem ofVal_VR (K : Kn) (β : Bi) : ∀ (d : Nat) (c : Value) (v : V), ofVal d c = some v → VR K β v c
  | 0, _, _, h => by simp [ofVal] at h
  | d + 1, c, v, h => by
    unfold ofVal at h
    split at h <;> (try cases h) <;> (try (exact .bool _)) <;> (try (exact .int _ _)) <;> (try (exact .float _ _)) <;> (try (exact .str _)) <;> (try (exact .nilp)) <;> (try (exact .nilmap)) <;> (try (exact .nilfn)) <;> (try (exact .niliface))
    · exact .lnil fun _ => rfl
    · rename_i cs
      cases hm : mapOpt (ofVal d) cs.toList with
      | none => simp [hm] at h
      | some l =>
        simp [hm] at h; subst h
        have := LR.mapOpt (K := K) (β := β) (g := fun x => x) hm fun a v _ hv => ofVal_VR K β d a v hv
        simp only [List.map_id'] at this
        exact .agg this.to_arr.1 this.to_arr.2
    · rename_i cs
      cases hm : mapOpt (ofVal d) cs.toList with
      | none => simp [hm] at h
      | some l =>
        simp [hm] at h; subst h
        have := LR.mapOpt (K := K) (β := β) (g := fun x => x) hm fun a v _ hv => ofVal_VR K β d a v hv
        simp only [List.map_id'] at this
        exact .tuple this.to_arr.1 this.to_arr.2
theorem ofVal_any {d : Nat} {c : Value} {v : V} (h : ofVal d c = some v) : v ≠ .any := by
  rintro rfl
  cases d with
  | zero => simp [ofVal] at h
  | succ d =>
    unfold ofVal at h
    split at h <;> first
      | (cases h; done)
      | (cases hm : mapOpt (ofVal d) (Array.toList ‹Array Value›) <;> simp [hm] at h)

/-- The temporaries, and what stands for them. -/
structure ER (K : Kn) (β : Bi) (nt : Nat) (e : Env) (a : Act) : Prop where
  size : nt ≤ a.tmps.size
  val : ∀ t, VR K β (e t) (a.tmps.getD t Go.undef)

theorem ER.mono {K K' : Kn} {β β' : Bi} (hK : K.le K') (hβ : ∀ i b, β i = some b → β' i = some b) {nt : Nat} {e : Env} {a : Act} (h : ER K β nt e a) : ER K' β' nt e a :=
  ⟨h.size, fun t => (h.val t).mono hK hβ⟩
theorem ER.put {K : Kn} {β : Bi} {nt : Nat} {e : Env} {a : Act} (h : ER K β nt e a) {d : Option Nat} (hd : ∀ t, d = some t → t < nt) {v : V} {c : Value} (hv : VR K β v c) :
    ER K β nt (putE e d v) (a.put d c) := by
  cases d with
  | none => exact h
  | some t =>
    have ht : t < a.tmps.size := Nat.lt_of_lt_of_le (hd t rfl) h.size
    refine ⟨by simpa [Act.put] using h.size, fun i => ?_⟩
    by_cases ei : i = t
    · subst ei; simpa [putE, upd, Act.put, ht] using hv
    · have := h.val i
      simpa [putE, upd, Act.put, ei, Array.getElem?_setIfInBounds, Ne.symm ei] using this
theorem ER.opd {K : Kn} {β : Bi} {nt : Nat} {e : Env} {a : Act} (h : ER K β nt e a) {x : Operand} {y : Opd} (hc : cOpd x = some y) : VR K β (evO e y) (a.eval x) := by
  cases x with
  | tmp t => simp [cOpd] at hc; subst hc; exact h.val t
  | const v =>
    simp only [cOpd] at hc
    cases ho : ofVal 4 v with
    | none => simp [ho] at hc
    | some u => simp [ho] at hc; subst hc; exact ofVal_VR K β 4 v u ho
  | func f => simp [cOpd] at hc; subst hc; exact .fn rfl (fun i v h => by simp at h) rfl (fun i v h => by simp at h)
  | global g => simp [cOpd] at hc

def OpOk (P : Program) (K : Kn) (β : Bi) (H : List Ob) (w : World) (r : Result Next) : OR → Prop
  | .val v H' => ∃ c w' K' β', r = .ok (.value c) w' ∧ VR K' β' v c ∧ Inv K' β' H' w' ∧ Ev K β H w K' β' H' w'
  | .skip H' => ∃ w' K' β', r = .ok .skip w' ∧ Inv K' β' H' w' ∧ Ev K β H w K' β' H' w'
  | .panic v H' => ∃ c w' K' β', r = .halt (.panic c) w' ∧ VR K' β' v c ∧ Inv K' β' H' w' ∧ Ev K β H w K' β' H' w'
  | .call f args => ∃ cargs : Array Value, r = (callFunc f cargs).run P w ∧ LR K β args cargs.toList

theorem OpOk.pure {P : Program} {K : Kn} {β : Bi} {H : List Ob} {w : World} {r : Result Next} {v : V} {c : Value} (hI : Inv K β H w) (hr : r = .ok (.value c) w) (hv : VR K β v c) :
    OpOk P K β H w r (.val v H) := ⟨c, w, K, β, hr, hv, hI, .refl K β H w⟩

/-! ### Reading -/

theorem cell_of_heap {w : World} {b o : Nat} {cs : Array Value} {e : TypeId} {fr : Nat × Nat} (h : w.heap[b]? = some (.cells cs e fr)) : w.cell? ⟨b, o, none⟩ = cs[o]? := by
  simp [World.cell?, h]

/-- What a pointer leads to. -/
structure Seen (K : Kn) (β : Bi) (w : World) (b o n : Nat) (l : List V) (ds : List Value) : Prop where
  rel : LR K β l ds
  len : l.length = n
  cell : ∀ j x, ds[j]? = some x → w.cell? ⟨b, o + j, none⟩ = some x

theorem seen_of {K : Kn} {β : Bi} {w : World} {b o n k : Nat} {l : List V} {cs : Array Value} {e : TypeId} {fr : Nat × Nat} (hw : w.heap[b]? = some (.cells cs e fr))
    (hl : k + l.length ≤ cs.size) (h : ∀ i v, l[i]? = some v → VR K β v (cs.getD (k + i) Go.undef)) (off : Nat) (ho : o = k + off) (hn : off + n ≤ l.length) :
    Seen K β w b o n ((l.drop off).take n) ((cs.toList.drop o).take n) := by
  subst ho
  refine ⟨⟨by simp; omega, fun i v hv => ?_⟩, by simp; omega, fun j x hx => ?_⟩
  · by_cases e : i < n
    · simp [List.getElem?_take, e, List.getElem?_drop] at hv
      have := h _ v hv
      simpa [List.getD, List.getElem?_take, e, List.getElem?_drop, Array.getD_eq_getD_getElem?, Nat.add_assoc] using this
    · simp [List.getElem?_take, e] at hv
  · rw [cell_of_heap hw]
    by_cases e : j < n
    · simpa [List.getElem?_take, e, List.getElem?_drop] using hx
    · simp [List.getElem?_take, e] at hx

theorem peek_sound {K : Kn} {β : Bi} {H : List Ob} {w : World} (hI : Inv K β H w) {v : V} {c : Value} (hv : VR K β v c) {n : Nat} {l : List V} (hp : peek H n v = some l) :
    ∃ b o ds, c = .pointer (some ⟨b, o, none⟩) ∧ Seen K β w b o n l ds := by
  cases v <;> simp only [peek] at hp <;> try (cases hp; done)
  case ref m =>
    split at hp <;> cases hp
    cases hv with
    | ref hb hl h =>
      rename_i hn b o cs e fr
      exact ⟨b, o, _, rfl, by simpa using seen_of (hI.fixed _ _ hb) hl h 0 (Nat.add_zero o).symm (by omega)⟩
  case ptr id off =>
    cases hv with
    | ptr hβ =>
      rename_i b
      cases ho : H[id]? with
      | none => simp [ho] at hp
      | some ob =>
        have hob := hI.obj id ob ho
        cases ob <;> simp only [ho] at hp <;> try (cases hp; done)
        case live m =>
          obtain ⟨b', cs, e, h1, h2, h3, h4, h5, h6⟩ := hob
          rw [hβ] at h1; cases h1
          split at hp <;> cases hp
          exact ⟨b, off, _, rfl, seen_of h4 (k := 0) (by omega) (by simpa using h6) off (by omega) (by omega)⟩
        case fixed m =>
          obtain ⟨b', cs, e, fr, h1, h2, h3, h5, h6⟩ := hob
          rw [hβ] at h1; cases h1
          split at hp <;> cases hp
          exact ⟨b, off, _, rfl, seen_of (hI.fixed _ _ h2) (k := 0) (by omega) (by simpa using h6) off (by omega) (by omega)⟩

theorem addr_add (b o n : Nat) : (⟨b, o, none⟩ : Addr).add n = ⟨b, o + n, none⟩ := by
  unfold Addr.add; split
  · subst_vars; rfl
  · rfl

theorem seen_load {P : Program} {K : Kn} {β : Bi} {w : World} {b o n : Nat} {l : List V} {ds : List Value} (h : Seen K β w b o n l ds) :
    (loadCells ⟨b, o, none⟩ n).run P w = .ok ds.toArray w := by
  rw [← h.len, h.rel.1]
  exact run_loadCells_list w _ ds fun j x hx => by rw [addr_add]; exact h.cell j x hx

theorem isAgg_run {P : Program} {t : TypeId} {a : Bool} (h : tAgg P t = some a) (w : World) : (isAgg t).run P w = .ok a w := by
  unfold tAgg at h
  cases hu : P.underlying t with
  | none => simp [hu] at h
  | some d =>
    have hr := run_underlying hu w
    cases d <;> simp [hu] at h <;> subst h <;> simp [isAgg, hr]
theorem sizeOf_run {P : Program} {t : TypeId} {n : Nat} (h : tSize P t = some n) (w : World) : (Go.sizeOf t).run P w = .ok n w := by
  unfold tSize at h
  cases hi : P.info? t with
  | none => simp [hi] at h
  | some i => simp [hi] at h; simp [Go.sizeOf, typeInfo, hi, h]
theorem zero_run {P : Program} {t : TypeId} {z : List V} (h : tZero P t = some z) (K : Kn) (β : Bi) : ∃ c, (∀ w, (zeroValue t).run P w = .ok c w) ∧ LR K β z c.cells.toList := by
  unfold tZero at h
  cases hi : P.info? t with
  | none => simp [hi] at h
  | some i =>
    cases hz : i.zero with
    | none => simp [hi, hz] at h
    | some c =>
      simp [hi, hz] at h
      obtain ⟨v, hv, rfl⟩ := h
      exact ⟨c, fun w => by simp [zeroValue, typeInfo, hi, hz], cells_LR (ofVal_VR K β 4 c v hv) (ofVal_any hv)⟩

theorem loadVar_sound {P : Program} {K : Kn} {β : Bi} {H : List Ob} {w : World} (hI : Inv K β H w) {v : V} {c : Value} (hv : VR K β v c) {n : Nat} {t : TypeId} {a : Bool} {l : List V} (hp : peek H n v = some l)
    (ha : tAgg P t = some a) (hn : tSize P t = some n) : ∃ b o, c = .pointer (some ⟨b, o, none⟩) ∧
      (a = true → ∃ d, (loadVar t ⟨b, o, none⟩).run P w = .ok d w ∧ VR K β (.agg l) d) ∧
      (a = false → ∀ u, l = [u] → ∃ d, (loadVar t ⟨b, o, none⟩).run P w = .ok d w ∧ VR K β u d) := by
  obtain ⟨b, o, ds, hc, hs⟩ := peek_sound hI hv hp
  refine ⟨b, o, hc, fun hat => ?_, fun haf u hu => ?_⟩
  · subst hat
    refine ⟨.agg ds.toArray, ?_, .agg hs.rel.arr.1 hs.rel.arr.2⟩
    simp [loadVar, isAgg_run ha, sizeOf_run hn, seen_load hs]
  · subst haf; subst hu
    obtain ⟨d, hd, hvd⟩ := hs.rel.get (i := 0) (v := u) (by simp)
    refine ⟨d, ?_, hvd⟩
    have := hs.cell 0 d hd
    simp at this
    simp [loadVar, isAgg_run ha, this]
end Fz
