/- Each operation is carried out as the abstract interpreter says: maps, texts gone through, types asked. -/
import Derived.Test.YtnngbniomonabaaFzLaw3M1
import Derived.Lib.ConvBytes
import Derived.Laws.StructEq
import Derived.Laws.Cover3
import Derived.CallsIn
import Derived.OrdersIn
import Derived.LoopNIn
import Derived.RangeFuncRecord
import Derived.RangeFuncCalls
import Derived.Orders
set_option linter.all false
set_option linter.unusedVariables false
set_option linter.unusedSimpArgs false
set_option linter.unnecessarySimpa false
namespace Fz
open Go

theorem flat_chunks (n : Nat) : ∀ (k : Nat) (l : List V), l.length = k * n → flat (chunks n k l) = l ∧ (chunks n k l).length = k ∧ ∀ v ∈ chunks n k l, (cellsOf v).length = n
  | 0, l, h => by
    have : l = [] := List.eq_nil_of_length_eq_zero (by omega)
    subst this
    simp [chunks, flat]
  | k + 1, l, h => by
    rw [Nat.add_mul] at h
    obtain ⟨h1, h2, h3⟩ := flat_chunks n k (l.drop n) (by simp; omega)
    simp only [chunks]
    refine ⟨?_, by simp [h2], ?_⟩
    · simp only [flat, List.flatMap_cons, cellsOf] at h1 ⊢
      rw [h1, List.take_append_drop]
    · intro v hv
      rcases List.mem_cons.1 hv with rfl | hv
      · simp [cellsOf]; omega
      · exact h3 v hv
theorem flat_leafy : ∀ {l : List V}, l.all leafy = true → flat l = l ∧ ∀ v ∈ l, (cellsOf v).length = 1
  | [], _ => by simp [flat]
  | v :: l, h => by
    simp only [List.all_cons, Bool.and_eq_true] at h
    obtain ⟨h1, h2⟩ := flat_leafy h.2
    have hc : cellsOf v = [v] := by
      cases v <;> first | rfl | (have := h.1; simp [leafy] at this)
    refine ⟨?_, ?_⟩
    · simp only [flat, List.flatMap_cons, hc] at h1 ⊢
      rw [h1]; rfl
    · intro u hu
      rcases List.mem_cons.1 hu with rfl | hu
      · rw [hc]; rfl
      · exact h2 u hu
theorem chunk_flat {n len : Nat} {l : List V} (hl : l.length = len * n) (h : n ≠ 1 ∨ l.all leafy = true) :
    flat (chunk n len l) = l ∧ (chunk n len l).length = len ∧ ∀ v ∈ chunk n len l, (cellsOf v).length = n := by
  unfold chunk
  by_cases e : n = 1
  · subst e
    have hall := h.resolve_left (by simp)
    rw [if_pos rfl, List.take_of_length_le (by omega)]
    obtain ⟨h1, h2⟩ := flat_leafy hall
    exact ⟨h1, by omega, h2⟩
  · rw [if_neg e]; exact flat_chunks n len l hl

/-- A new block of any kind, an object of the abstract heap. -/
theorem Inv.newO {K : Kn} {β : Bi} {H : List Ob} {w w' : World} (h : Inv K β H w) {ob : Ob} {x : Obj}
    (hh : w'.heap = w.heap.push x) (h1 : w'.os = w.os) (h2 : w'.tape = w.tape) (h3 : w'.output = w.output)
    (ho' : ObR K (setB β H.length w.heap.size) w' H.length ob) :
    let β' := setB β H.length w.heap.size
    (∀ i x, β i = some x → β' i = some x) ∧ β' H.length = some w.heap.size ∧ Inv K β' (H ++ [ob]) w' ∧ Ev K β H w K β' (H ++ [ob]) w' := by
  intro β'
  have hβ : ∀ i x, β i = some x → β' i = some x := setB_le h.freshB
  have hb : β' H.length = some w.heap.size := by simp [β', setB]
  have hβ' : ∀ i x, β' i = some x → (i = H.length ∧ x = w.heap.size) ∨ β i = some x := by
    intro i x hi
    by_cases e : i = H.length
    · subst e; rw [hb] at hi; exact .inl ⟨rfl, (Option.some.inj hi).symm⟩
    · right; simpa [β', setB, e] using hi
  have hlive : ∀ i, liveAt (H ++ [ob]) i → i = H.length ∨ liveAt H i := by
    rintro i ⟨o, ho, hl⟩
    by_cases e : i < H.length
    · rw [List.getElem?_append_left e] at ho; exact .inr ⟨o, ho, hl⟩
    · left
      have := (List.getElem?_eq_some_iff.1 ho).1
      simp at this; omega
  have hold : ∀ i b, liveAt H i → β i = some b → b < w.heap.size := by
    rintro i b ⟨o, ho, hl⟩ hi
    obtain ⟨b', g1, g2, _⟩ := (h.obj i o ho).lt hl
    rw [hi] at g1; cases g1; exact g2
  refine ⟨hβ, hb, ⟨?_, ?_, ?_, ?_, ?_⟩, ⟨K.le_refl, hβ, by simp, ?_, by rw [hh]; simp, h1, h2, h3, ?_, ?_, fun i hi => if_neg (by omega)⟩⟩
  · intro b o hf
    have := h.fixed b o hf
    rw [hh, push_get (heap_lt this)]; exact this
  · intro b z hs
    obtain ⟨cs', e', fr, g1, g2⟩ := h.size b z hs
    exact ⟨cs', e', fr, by rw [hh, push_get (heap_lt g1)]; exact g1, g2⟩
  · intro i b hi
    rcases hβ' i b hi with ⟨rfl, rfl⟩ | hi
    · simp
    · have := h.dom i b hi; simp; omega
  · intro i o ho
    by_cases e : i < H.length
    · rw [List.getElem?_append_left e] at ho
      refine (h.obj i o ho).mono K.le_refl hβ fun b hl hb' hf => ⟨hf, ?_⟩
      rw [hh, push_get (hold i b ⟨o, ho, hl⟩ hb')]
    · have hi : i = H.length := by have := (List.getElem?_eq_some_iff.1 ho).1; simp at this; omega
      subst hi
      simp at ho; subst ho
      exact ho'
  · intro i j b hi hj h1 h2
    rcases hβ' i b h1 with ⟨rfl, rfl⟩ | h1
    · rcases hβ' j _ h2 with ⟨rfl, _⟩ | h2
      · rfl
      · rcases hlive j hj with rfl | hj
        · rfl
        · have := hold j _ hj h2; omega
    · rcases hβ' j b h2 with ⟨rfl, rfl⟩ | h2
      · rcases hlive i hi with rfl | hi
        · rfl
        · have := hold i _ hi h1; omega
      · rcases hlive i hi with rfl | hi
        · rw [h.freshB] at h1; cases h1
        · rcases hlive j hj with rfl | hj
          · rw [h.freshB] at h2; cases h2
          · exact h.inj i j b hi hj h1 h2
  · intro x hx _
    rw [hh, push_get hx]
  · rintro x ⟨i, hi, hx⟩
    rcases hβ' i x hx with ⟨rfl, rfl⟩ | hx
    · exact .inr (Nat.le_refl _)
    · rcases hlive i hi with rfl | hi
      · rw [h.freshB] at hx; cases hx
      · exact .inl ⟨i, hi, hx⟩
  · intro x o hf; exact .inl hf

/-- A live object that is no cells, written anew. -/
theorem Inv.putO {K : Kn} {β : Bi} {H : List Ob} {w w' : World} (h : Inv K β H w) {id b : Nat} {o o' : Ob} {x' : Obj}
    (hi : H[id]? = some o) (hl : o.isLive = true) (hb : β id = some b) (hf : K.fixed b = none) (hz : K.size b = none)
    (hh : ∀ x, w'.heap[x]? = if x = b then some x' else w.heap[x]?) (hs : w'.heap.size = w.heap.size)
    (h1 : w'.os = w.os) (h2 : w'.tape = w.tape) (h3 : w'.output = w.output) (ho' : ObR K β w' id o') :
    Inv K β (H.set id o') w' ∧ Ev K β H w K β (H.set id o') w' := by
  have hlv : liveAt H id := ⟨_, hi, hl⟩
  have hlive : ∀ i, liveAt (H.set id o') i → liveAt H i := by
    rintro i ⟨o, ho, hl⟩
    by_cases e : id = i
    · subst e; exact hlv
    · rw [set_get e] at ho; exact ⟨o, ho, hl⟩
  refine ⟨⟨?_, ?_, ?_, ?_, ?_⟩, ⟨K.le_refl, fun _ _ h => h, by simp, ?_, by omega, h1, h2, h3, ?_, fun _ _ h => .inl h, fun _ _ => rfl⟩⟩
  · intro x y hy
    rw [hh]
    by_cases ex : x = b
    · subst ex; rw [hf] at hy; cases hy
    · rw [if_neg ex]; exact h.fixed x y hy
  · intro x z hy
    rw [hh]
    by_cases ex : x = b
    · subst ex; rw [hz] at hy; cases hy
    · rw [if_neg ex]; exact h.size x z hy
  · intro i x hx; have := h.dom i x hx; simpa using this
  · intro i y ho
    by_cases ei : id = i
    · subst ei
      rw [set_self hi] at ho; cases ho
      exact ho'
    · rw [set_get ei] at ho
      refine (h.obj i y ho).mono K.le_refl (fun _ _ h => h) fun x hl' hx hf => ⟨hf, ?_⟩
      rw [hh, if_neg]
      intro ex; subst ex
      exact ei (h.inj id i x hlv ⟨y, ho, hl'⟩ hb hx)
  · intro i j x hi' hj' hx hy
    exact h.inj i j x (hlive i hi') (hlive j hj') hx hy
  · intro x hx hn
    rw [hh, if_neg]
    intro ex; subst ex
    exact hn ⟨id, hlv, hb⟩
  · rintro x ⟨i, hi', hx⟩
    exact .inl ⟨i, hlive i hi', hx⟩

theorem size_none {K : Kn} {β : Bi} {H : List Ob} {w : World} (h : Inv K β H w) {b : Nat} {x : Obj} (hb : w.heap[b]? = some x) (hx : ∀ cs e fr, x ≠ .cells cs e fr) : K.size b = none := by
  cases hz : K.size b with
  | none => rfl
  | some z =>
    obtain ⟨cs, e, fr, h1, _⟩ := h.size b z hz
    rw [hb] at h1
    exact absurd (Option.some.inj h1) (hx _ _ _)

theorem tOne_VR {P : Program} {t : TypeId} {z : V} (h : tOne P t = some z) (K : Kn) (β : Bi) : ∃ c, (∀ w, (zeroValue t).run P w = .ok c w) ∧ VR K β z c := by
  unfold tOne at h
  cases hi : P.info? t with
  | none => simp [hi] at h
  | some i =>
    cases hz : i.zero with
    | none => simp [hi, hz] at h
    | some c =>
      simp only [hi, hz, Option.bind_some] at h
      exact ⟨c, fun w => by simp [zeroValue, typeInfo, hi, hz], ofVal_VR K β 4 c z h⟩

theorem checkKey_ok {P : Program} {kt : TypeId} {kk : KyK} (hk : cKey P kt = some kk) (b : Bool) (c : Value) (w : World) : (Instr.checkKey b 10000 kt c).run P w = .ok () w := by
  unfold cKey at hk
  split at hk <;> try (cases hk; done)
  all_goals
    rename_i hu
    have h1 := run_underlying hu w
    rw [show (10000 : Nat) = 9999 + 1 from rfl]
    unfold Instr.checkKey
    simp only [Sem.run_bind, h1, Result.andThen_ok]
    rfl

theorem findNow_ok {P : Program} {K : Kn} {β : Bi} {kt : TypeId} {kk : KyK} {d : TypeDesc} (hk : cKey P kt = some kk) (hd : P.underlying kt = some d) {k : V} {ck : Value} (hv : VR K β k ck) :
    ∀ (ks : List V) (es : List MapEntry) (i : Nat) (r : Option Nat), ks.length = es.length → (∀ j v, ks[j]? = some v → VR K β v (es.getD j default).key) → findV kk k ks i = some r →
      Instr.findNow d ck es i = some (r.map fun j => (j, (es.getD (j - i) default).val)) ∧ ∀ j, r = some j → i ≤ j ∧ j - i < es.length
  | [], [], i, r, _, _, h => by cases h; exact ⟨rfl, fun j h => by cases h⟩
  | [], _ :: _, _, _, hl, _, _ => by simp at hl
  | _ :: _, [], _, _, hl, _, _ => by simp at hl
  | u :: ks, e :: es, i, r, hl, hr, h => by
    have h0 : VR K β u e.key := by simpa using hr 0 u rfl
    have hsame : ∀ b, keyEq kk k u = some b → Instr.sameNow d ck e.key = some b := by
      intro b hb
      generalize e.key = ek at h0
      unfold cKey at hk
      rw [hd] at hk
      cases d <;> simp at hk <;> subst hk
      · unfold keyEq at hb
        split at hb <;> try (cases hb; done)
        · rename_i heq; cases hv; cases h0
          split at hb <;> cases hb
          rename_i hkk; subst hkk
          simp [Instr.sameNow]
        · rename_i heq; cases heq
      · unfold keyEq at hb
        split at hb <;> try (cases hb; done)
        · rename_i heq; cases heq
        · cases hv; cases h0; cases hb
          simp only [Instr.sameNow, Option.some.injEq]
          rename_i a b _
          cases a; cases b
          simp
          rfl
    unfold findV at h
    split at h
    · rename_i hb
      cases h
      refine ⟨?_, fun j hj => by cases hj; exact ⟨Nat.le_refl _, by simp⟩⟩
      simp [Instr.findNow, hsame _ hb]
    · rename_i hb
      obtain ⟨g1, g2⟩ := findNow_ok hk hd hv ks es (i + 1) r (by simpa using hl) (fun j v hj => by simpa using hr (j + 1) v (by simpa using hj)) h
      refine ⟨?_, fun j hj => ?_⟩
      · simp only [Instr.findNow, hsame _ hb, g1]
        cases r with
        | none => rfl
        | some j =>
          obtain ⟨g3, g4⟩ := g2 j rfl
          simp only [Option.map_some, Option.some.injEq, Prod.mk.injEq, true_and]
          rw [show j - i = (j - (i + 1)) + 1 from by omega]
          simp
      · obtain ⟨g3, g4⟩ := g2 j hj
        exact ⟨by omega, by simp; omega⟩
    · cases h

theorem findKey_ok {P : Program} {K : Kn} {β : Bi} {kt : TypeId} {kk : KyK} (hk : cKey P kt = some kk) {k : V} {ck : Value} (hv : VR K β k ck) {ks : List V} {es : Array MapEntry}
    (hl : ks.length = es.size) (hr : ∀ j v, ks[j]? = some v → VR K β v (es.getD j default).key) {r : Option Nat} (h : findV kk k ks 0 = some r) (w : World) :
    (Instr.findKey kt ck es.toList).run P w = .ok (r.map fun j => (j, (es.getD j default).val)) w ∧ ∀ j, r = some j → j < es.size := by
  cases hd : P.underlying kt with
  | none => unfold cKey at hk; rw [hd] at hk; cases hk
  | some d =>
    obtain ⟨g1, g2⟩ := findNow_ok hk hd hv ks es.toList 0 r (by simpa using hl) (fun j v hj => by
      have := hr j v hj
      simpa [List.getD, Array.getD_eq_getD_getElem?] using this) h
    refine ⟨?_, fun j hj => by simpa using (g2 j hj).2⟩
    unfold Instr.findKey
    simp only [Sem.run_bind, run_underlying hd w, Result.andThen_ok, g1]
    cases r <;> simp [List.getD, Array.getD_eq_getD_getElem?]

section
variable {P : Program} {K : Kn} {β : Bi} {H : List Ob} {w : World} {nt : Nat} {e : Env} {a : Act} (hI : Inv K β H w) (hE : ER K β nt e a)
variable {dst : Option Tmp} {ty : TypeId} {pos : String} {after : Array Edge} {guard : Option (Nat × Bool)} {op : AOp} {r : OR}
include hI hE

omit hE in
theorem run_makeMap' {t kt et : TypeId} (hu : P.underlying t = some (.map kt et)) (o : Option Value) (ho : ∀ v, o = some v → ∃ k n, v = .int k n) :
    ∃ w' K' β', (Instr.makeMap t o).run P w = .ok (.map (some w.heap.size)) w' ∧ VR K' β' (.mref H.length) (.map (some w.heap.size)) ∧ Inv K' β' (H ++ [.mlive [] []]) w' ∧ Ev K β H w K' β' (H ++ [.mlive [] []]) w' := by
  have hn : ∀ w', w'.heap = w.heap.push (.map #[] 0) → ObR K (setB β H.length w.heap.size) w' H.length (.mlive [] []) := by
    intro w' hw
    refine ⟨w.heap.size, #[], 0, by simp [setB], hI.fresh, by rw [hw]; exact push_new, rfl, rfl, fun i v h => by simp at h, fun i v h => by simp at h⟩
  obtain ⟨q1, q2, q3, q4⟩ := Inv.newO (w' := w.alloc (.map #[] 0)) hI (ob := .mlive [] []) (x := .map #[] 0) rfl rfl rfl rfl (hn _ rfl)
  refine ⟨_, K, _, ?_, .mref q2, q3, q4⟩
  cases o with
  | none => rfl
  | some v =>
    obtain ⟨k, n, rfl⟩ := ho v rfl
    have h1 := run_underlying hu w
    simp only [Instr.makeMap, Sem.run_bind, h1, Result.andThen_ok, asInt]
    rfl

theorem ok_makeMap {t : TypeId} {o : Option Operand} (hc : cOp P ⟨dst, .makeMap t o, ty, pos, after, guard⟩ = some op) (hr : evOp (evO e) H op = some r) : OpOk P K β H w ((execOp a.eval ⟨dst, .makeMap t o, ty, pos, after, guard⟩).run P w) r := by
  cases o with
  | none =>
    simp only [cOp] at hc
    split at hc <;> cases hc
    rename_i kt et hu
    simp only [evOp, List.map_nil, memV, Option.some.injEq] at hr; subst hr
    obtain ⟨w', K', β', h1, h2, h3, h4⟩ := run_makeMap' hI hu none (fun v h => by cases h)
    exact ⟨_, w', K', β', execOp_v h1, h2, h3, h4⟩
  | some x =>
    simp only [cOp] at hc
    split at hc <;> cases hc
    rename_i kt et y hu hy
    have hv := hE.opd hy
    simp only [evOp, List.map_cons, List.map_nil] at hr
    generalize hcx : a.eval x = cx at hv
    generalize evO e y = uy at hv hr
    obtain ⟨k, n, rfl⟩ : ∃ k n, uy = .int k n := by cases uy <;> first | exact ⟨_, _, rfl⟩ | (cases hr; done)
    cases hr
    cases hv
    obtain ⟨w', K', β', h1, h2, h3, h4⟩ := run_makeMap' hI hu (some (a.eval x)) (fun v h => by cases h; exact ⟨_, _, hcx⟩)
    exact ⟨_, w', K', β', execOp_v h1, h2, h3, h4⟩

theorem mapPut_ok {t : TypeId} {m k x : Operand} (hc : cMapPut P t m k x = some op) (hr : evOp (evO e) H op = some r) :
    OpOk P K β H w ((do Instr.mapUpdate t (a.eval m) (a.eval k) (a.eval x); pure .skip : Sem Next).run P w) r := by
  unfold cMapPut at hc
  split at hc <;> try (cases hc; done)
  rename_i kt et m' k' x' hu hm hk hx
  obtain ⟨kk, hkk, rfl⟩ := Option.map_eq_some_iff.1 hc
  have vm := hE.opd hm
  have vk := hE.opd hk
  have vx := hE.opd hx
  simp only [evOp, List.map_cons, List.map_nil] at hr
  generalize evO e m' = um at vm hr
  generalize evO e k' = uk at vk hr
  generalize evO e x' = ux at vx hr
  obtain ⟨id, rfl⟩ : ∃ id, um = .mref id := by cases um <;> first | exact ⟨_, rfl⟩ | (cases hr; done)
  simp only [memV] at hr
  · obtain ⟨k2, hk2⟩ : ∃ k2, k2 = uk := ⟨_, rfl⟩
    obtain ⟨v2, hv2⟩ : ∃ v2, v2 = ux := ⟨_, rfl⟩
    subst hk2 hv2
    split at hr <;> try (cases hr; done)
    rename_i ks vs hob
    split at hr <;> cases hr
    rename_i hf
    generalize hcm : a.eval m = cm at vm
    cases vm with
    | mref hβ =>
      rename_i b
      obtain ⟨b', es, clock, g1, g2, g3, g4, g5, g6, g7⟩ := hI.obj id _ hob
      rw [hβ] at g1; cases g1
      obtain ⟨q1, _⟩ := findKey_ok (P := P) hkk vk g4 g6 hf w
      have hrun : (Instr.mapUpdate t (.map (some b)) (a.eval k) (a.eval x)).run P w = .ok () { w with heap := w.heap.setIfInBounds b (.map (es.push { key := a.eval k, val := a.eval x, born := clock }) (clock + 1)) } := by
        have h1 := run_underlying hu w
        have h2 : (getObj b).run P w = .ok (.map es clock) w := by simp [getObj, Sem.run, g3]
        have h3 := checkKey_ok (P := P) hkk false (a.eval k) w
        simp only [Instr.mapUpdate, Sem.run_bind, h1, h2, h3, Result.andThen_ok, q1, Option.map_none]
        simp [setObj, Sem.run, g3]
      have hlt := heap_lt g3
      have hobr : ObR K β { w with heap := w.heap.setIfInBounds b (.map (es.push { key := a.eval k, val := a.eval x, born := clock }) (clock + 1)) } id (.mlive (ks ++ [k2]) (vs ++ [v2])) := by
        refine ⟨b, _, _, hβ, g2, by simp [hlt]; exact ⟨rfl, rfl⟩, by simp [g4], by simp [g5], fun i v hi => ?_, fun i v hi => ?_⟩
        · by_cases hlt' : i < ks.length
          · rw [List.getElem?_append_left hlt'] at hi
            have := g6 i v hi
            simpa [Array.getD_eq_getD_getElem?, Array.getElem?_push, show i ≠ es.size from by omega] using this
          · rw [List.getElem?_append_right (by omega)] at hi
            have hi' : i = ks.length := by have := (List.getElem?_eq_some_iff.1 hi).1; simp at this; omega
            subst hi'
            simp at hi; subst hi
            simpa [Array.getD_eq_getD_getElem?, Array.getElem?_push, g4] using vk
        · by_cases hlt' : i < vs.length
          · rw [List.getElem?_append_left hlt'] at hi
            have := g7 i v hi
            simpa [Array.getD_eq_getD_getElem?, Array.getElem?_push, show i ≠ es.size from by omega] using this
          · rw [List.getElem?_append_right (by omega)] at hi
            have hi' : i = vs.length := by have := (List.getElem?_eq_some_iff.1 hi).1; simp at this; omega
            subst hi'
            simp at hi; subst hi
            simpa [Array.getD_eq_getD_getElem?, Array.getElem?_push, g5] using vx
      obtain ⟨i1, e1⟩ := Inv.putO (w' := { w with heap := w.heap.setIfInBounds b (.map (es.push { key := a.eval k, val := a.eval x, born := clock }) (clock + 1)) }) (o' := .mlive (ks ++ [k2]) (vs ++ [v2])) (x' := .map (es.push { key := a.eval k, val := a.eval x, born := clock }) (clock + 1)) hI hob rfl hβ g2 (size_none hI g3 (fun _ _ _ h => by cases h)) (fun y => by
        show (w.heap.setIfInBounds b _)[y]? = _
        rw [Array.getElem?_setIfInBounds]
        by_cases ey : b = y
        · subst ey; simp [hlt]
        · simp [ey, Ne.symm ey]) (by simp) rfl rfl rfl hobr
      exact ⟨_, K, β, execOp_u hrun, i1, e1⟩

theorem ok_lookup {t : TypeId} {m k : Operand} {ok : Bool} (hc : cOp P ⟨dst, .lookup t m k ok, ty, pos, after, guard⟩ = some op) (hr : evOp (evO e) H op = some r) : OpOk P K β H w ((execOp a.eval ⟨dst, .lookup t m k ok, ty, pos, after, guard⟩).run P w) r := by
  simp only [cOp] at hc
  split at hc <;> try (cases hc; done)
  rename_i kt et m' k' hu hm hk
  split at hc <;> cases hc
  rename_i kk z hkk hz
  have vm := hE.opd hm
  have vk := hE.opd hk
  simp only [evOp, ans, Option.map_eq_some_iff, List.map_cons, List.map_nil] at hr
  obtain ⟨u, hr, rfl⟩ := hr
  generalize evO e m' = um at vm hr
  generalize evO e k' = uk at vk hr
  obtain ⟨cz, hcz, vz⟩ := tOne_VR hz K β
  unfold rdV at hr
  dsimp only at hr
  split at hr <;> try (cases hr; done)
  rename_i ks vs hmap
  obtain ⟨es, clock, hes, g4, g5, g6, g7⟩ : ∃ (es : Array MapEntry) (clock : Nat), ((a.eval m = .map none ∧ es = #[]) ∨ ∃ b, a.eval m = .map (some b) ∧ w.heap[b]? = some (.map es clock)) ∧ ks.length = es.size ∧ vs.length = es.size ∧
      (∀ i v, ks[i]? = some v → VR K β v (es.getD i default).key) ∧ (∀ i v, vs[i]? = some v → VR K β v (es.getD i default).val) := by
    generalize hcm : a.eval m = cm at vm
    unfold mapOf at hmap
    split at hmap <;> try (cases hmap; done)
    · cases hmap; cases vm
      exact ⟨#[], 0, .inl ⟨rfl, rfl⟩, rfl, rfl, fun i v h => by simp at h, fun i v h => by simp at h⟩
    · cases hmap
      cases vm with
      | map hb h1 h2 h3 h4 =>
        rename_i b es clock
        exact ⟨es, clock, .inr ⟨_, rfl, hI.fixed _ _ hb⟩, h1, h2, h3, h4⟩
    · split at hmap <;> cases hmap
      rename_i hob
      cases vm with
      | mref hβ =>
        obtain ⟨b', es, clock, g1, g2, g3, g4, g5, g6, g7⟩ := hI.obj _ _ hob
        rw [hβ] at g1; cases g1
        exact ⟨es, clock, .inr ⟨_, rfl, g3⟩, g4, g5, g6, g7⟩
  have h1 := run_underlying hu w
  have h3 := fun b => checkKey_ok (P := P) hkk b (a.eval k) w
  have run : ∀ (r : Option Nat) (v : Value) (o : Bool), findV kk uk ks 0 = some r → (match r with | some j => v = (es.getD j default).val ∧ o = true | none => v = cz ∧ o = false) →
      (Instr.lookup t (a.eval m) (a.eval k) ok).run P w = .ok (if ok then .tuple #[v, .bool o] else v) w := by
    intro r v o hf hv
    obtain ⟨q1, _⟩ := findKey_ok (P := P) hkk vk g4 g6 hf w
    unfold Instr.lookup
    rcases hes with ⟨hm0, rfl⟩ | ⟨b, hm0, hb⟩
    · rw [hm0]
      cases r with
      | none => obtain ⟨rfl, rfl⟩ := hv; simp at q1; cases ok <;> simp [h1, h3, q1, hcz]
      | some j => obtain ⟨rfl, rfl⟩ := hv; simp at q1; cases ok <;> simp [h1, h3, q1]
    · rw [hm0]
      have h2 : (getObj b).run P w = .ok (.map es clock) w := by simp [getObj, Sem.run, hb]
      cases r with
      | none => obtain ⟨rfl, rfl⟩ := hv; cases ok <;> simp [h1, h2, h3, q1, hcz]
      | some j => obtain ⟨rfl, rfl⟩ := hv; cases ok <;> simp [h1, h2, h3, q1]
  split at hr
  · rename_i i hf
    split at hr <;> cases hr
    rename_i v hv
    have vv := g7 i v hv
    refine .pure hI (execOp_v (run _ _ true hf ⟨rfl, rfl⟩)) ?_
    cases ok
    · exact vv
    · exact .tuple rfl (LR.cons vv (.single (.bool true))).arr.2
  · rename_i hf
    cases hr
    refine .pure hI (execOp_v (run _ _ false hf ⟨rfl, rfl⟩)) ?_
    cases ok
    · exact vz
    · exact .tuple rfl (LR.cons vz (.single (.bool false))).arr.2
  · cases hr

theorem ok_range {t : TypeId} {x : Operand} (hc : cOp P ⟨dst, .range t x, ty, pos, after, guard⟩ = some op) (hr : evOp (evO e) H op = some r) : OpOk P K β H w ((execOp a.eval ⟨dst, .range t x, ty, pos, after, guard⟩).run P w) r := by
  simp only [cOp] at hc
  split at hc <;> cases hc
  rename_i y hu hy
  have hv := hE.opd hy
  simp only [evOp, List.map_cons, List.map_nil] at hr
  generalize hcx : a.eval x = cx at hv
  generalize evO e y = uy at hv hr
  obtain ⟨s, rfl⟩ : ∃ s, uy = .str s := by cases uy <;> first | exact ⟨_, rfl⟩ | (cases hr; done)
  cases hr
  cases hv
  have ho : ObR K (setB β H.length w.heap.size) (w.alloc (.stringIter s 0)) H.length (.iter s 0) := ⟨w.heap.size, by simp [setB], hI.fresh, push_new⟩
  obtain ⟨q1, q2, q3, q4⟩ := Inv.newO (w' := w.alloc (.stringIter s 0)) hI (ob := .iter s 0) (x := .stringIter s 0) rfl rfl rfl rfl ho
  refine ⟨_, _, K, _, execOp_v (c := .pointer (some ⟨w.heap.size, 0, none⟩)) ?_, .ptr q2, q3, q4⟩
  unfold Instr.range
  simp only [Sem.run_bind, run_underlying hu w, hcx, Result.andThen_ok]
  rfl

theorem ok_next {it : Operand} (hc : cOp P ⟨dst, .next it true, ty, pos, after, guard⟩ = some op) (hr : evOp (evO e) H op = some r) : OpOk P K β H w ((execOp a.eval ⟨dst, .next it true, ty, pos, after, guard⟩).run P w) r := by
  simp only [cOp] at hc
  obtain ⟨y, hy, rfl⟩ := Option.map_eq_some_iff.1 hc
  have hv := hE.opd hy
  simp only [evOp, List.map_cons, List.map_nil] at hr
  generalize hcx : a.eval it = cx at hv
  generalize evO e y = uy at hv hr
  obtain ⟨id, rfl⟩ : ∃ id, uy = .ptr id 0 := by
    cases uy <;> first | (cases hr; done) | skip
    rename_i id off
    cases off with
    | zero => exact ⟨_, rfl⟩
    | succ n => cases hr
  simp only [memV] at hr
  cases hv with
  | ptr hβ =>
    rename_i b
    split at hr <;> try (cases hr; done)
    rename_i s pos hob
    obtain ⟨b', g1, g2, g3⟩ := hI.obj id _ hob
    rw [hβ] at g1; cases g1
    have h2 : (getObj b).run P w = .ok (.stringIter s pos) w := by simp [getObj, Sem.run, g3]
    split at hr
    · rename_i hlt
      cases hr
      have hltb := heap_lt g3
      have ho : ObR K β { w with heap := w.heap.setIfInBounds b (.stringIter s (pos + (Utf8.decode s pos).2)) } id (.iter s (pos + (Utf8.decode s pos).2)) := ⟨b, hβ, g2, by simp [hltb]⟩
      obtain ⟨i1, e1⟩ := Inv.putO (w' := { w with heap := w.heap.setIfInBounds b (.stringIter s (pos + (Utf8.decode s pos).2)) }) (o' := .iter s (pos + (Utf8.decode s pos).2)) (x' := .stringIter s (pos + (Utf8.decode s pos).2)) hI hob rfl hβ g2 (size_none hI g3 (fun _ _ _ h => by cases h)) (fun y => by
        show (w.heap.setIfInBounds b _)[y]? = _
        rw [Array.getElem?_setIfInBounds]
        by_cases ey : b = y
        · subst ey; simp [hltb]
        · simp [ey, Ne.symm ey]) (by simp) rfl rfl rfl ho
      refine ⟨.tuple #[.bool true, .int .i64 pos, .int .i32 (Utf8.decode s pos).1], _, K, β, execOp_v ?_, ?_, i1, e1⟩
      · unfold Instr.next
        simp only [hcx, Sem.run_bind, h2, Result.andThen_ok, if_pos hlt]
        simp [setObj, Sem.run, g3, goInt]
      · exact .tuple rfl (LR.cons (.bool true) (LR.cons (.int .i64 _) (.single (.int .i32 _)))).arr.2
    · rename_i hlt
      cases hr
      refine .pure hI (execOp_v (c := .tuple #[.bool false]) ?_) (.tuple rfl (LR.single (.bool false)).arr.2)
      unfold Instr.next
      simp only [hcx, Sem.run_bind, h2, Result.andThen_ok, if_neg hlt]
      rfl

theorem ok_typeAssert {x : Operand} {xt t : TypeId} {ok : Bool} (hc : cOp P ⟨dst, .typeAssert x xt t ok, ty, pos, after, guard⟩ = some op) (hr : evOp (evO e) H op = some r) : OpOk P K β H w ((execOp a.eval ⟨dst, .typeAssert x xt t ok, ty, pos, after, guard⟩).run P w) r := by
  simp only [cOp] at hc
  split at hc <;> try (cases hc; done)
  rename_i n1 n2
  cases hd : P.underlying t with
  | none => exact absurd hd n2
  | some d =>
    have hdi : ∀ l, d ≠ .interface l := fun l h => n1 l (by rw [hd, h])
    have h1 := run_underlying hd w
    split at hc <;> try (cases hc; done)
    · rename_i y z hy hz
      cases hc
      have hv := hE.opd hy
      obtain ⟨cz, hcz, vz⟩ := tOne_VR hz K β
      simp only [evOp, ans, Option.map_eq_some_iff, List.map_cons, List.map_nil] at hr
      obtain ⟨u, hr, rfl⟩ := hr
      generalize hcx : a.eval x = cx at hv
      generalize evO e y = uy at hv hr
      cases hv <;> try (cases hr; done)
      · rename_i tt v c hvc
        simp only [purV, Option.some.injEq] at hr
        by_cases ht : tt = t
        · rw [if_pos ht] at hr; subst hr
          refine .pure hI (execOp_v (c := .tuple #[c, .bool true]) ?_) (.tuple rfl (LR.cons hvc (.single (.bool true))).arr.2)
          rw [hcx]; unfold Instr.typeAssert
          cases d <;> first | exact absurd rfl (hdi _) | simp [h1, ht]
        · rw [if_neg ht] at hr; subst hr
          refine .pure hI (execOp_v (c := .tuple #[cz, .bool false]) ?_) (.tuple rfl (LR.cons vz (.single (.bool false))).arr.2)
          rw [hcx]; unfold Instr.typeAssert
          cases d <;> first | exact absurd rfl (hdi _) | simp [h1, ht, hcz]
      · simp only [purV, Option.some.injEq] at hr; subst hr
        refine .pure hI (execOp_v (c := .tuple #[cz, .bool false]) ?_) (.tuple rfl (LR.cons vz (.single (.bool false))).arr.2)
        rw [hcx]; unfold Instr.typeAssert
        cases d <;> first | exact absurd rfl (hdi _) | simp [h1, hcz]
    · rename_i y hy
      cases hc
      have hv := hE.opd hy
      simp only [evOp, ans, Option.map_eq_some_iff, List.map_cons, List.map_nil] at hr
      obtain ⟨u, hr, rfl⟩ := hr
      generalize hcx : a.eval x = cx at hv
      generalize evO e y = uy at hv hr
      cases hv <;> try (cases hr; done)
      rename_i tt v c hvc
      simp only [purV] at hr
      split at hr <;> cases hr
      rename_i ht
      refine .pure hI (execOp_v (c := c) ?_) hvc
      rw [hcx]; unfold Instr.typeAssert
      cases d <;> first | exact absurd rfl (hdi _) | simp [h1, ht]

omit hE hI in
/-- A new block that stays. -/
theorem newFixed (hI : Inv K β H w) {w' : World} {x : Obj} (hh : w'.heap = w.heap.push x) (h1 : w'.os = w.os) (h2 : w'.tape = w.tape) (h3 : w'.output = w.output) :
    Inv (fixK K w.heap.size x) β H w' ∧ Ev K β H w (fixK K w.heap.size x) β H w' ∧ (fixK K w.heap.size x).fixed w.heap.size = some x := by
  have hK : K.le (fixK K w.heap.size x) := fixK_le hI.fresh
  refine ⟨⟨fun b o hb => ?_, fun b z hz => ?_, hI.dom, fun id o ho => ?_, hI.inj⟩, ⟨hK, fun _ _ h => h, Nat.le_refl _, fun y hy _ => by rw [hh, push_get hy], by rw [hh]; simp, h1, h2, h3, fun _ h => .inl h, fun y o hy => ?_, fun _ _ => rfl⟩, by simp [fixK]⟩
  · by_cases e : b = w.heap.size
    · subst e; simp [fixK] at hb; subst hb; rw [hh, push_new]
    · simp [fixK, e] at hb
      have := hI.fixed b o hb; rw [hh, push_get (heap_lt this)]; exact this
  · obtain ⟨cs, e, fr, g1, g2⟩ := hI.size b z hz
    exact ⟨cs, e, fr, by rw [hh, push_get (heap_lt g1)]; exact g1, g2⟩
  · refine (hI.obj id o ho).mono hK (fun _ _ h => h) fun b hl hb hf => ?_
    obtain ⟨b', q1, q2, _⟩ := (hI.obj id o ho).lt hl
    rw [hb] at q1; cases q1
    refine ⟨?_, by rw [hh, push_get q2]⟩
    have : b ≠ w.heap.size := by omega
    simp [fixK, this, hf]
  · by_cases e : y = w.heap.size
    · exact .inr (.inr (by omega))
    · simp [fixK, e] at hy; exact .inl hy

omit hE hI in
/-- A live object is marked, and stays. -/
theorem markFixed (hI : Inv K β H w) {w' : World} {id b : Nat} {l : List V} {cs : Array Value} {et : TypeId} {fr : Nat × Nat} (hi : H[id]? = some (.live l)) (hb : β id = some b) (hw : w.heap[b]? = some (.cells cs et (0, 0)))
    (hh : ∀ x, w'.heap[x]? = if x = b then some (.cells cs et fr) else w.heap[x]?) (hs : w'.heap.size = w.heap.size) (h1 : w'.os = w.os) (h2 : w'.tape = w.tape) (h3 : w'.output = w.output) :
    Inv (fixK K b (.cells cs et fr)) β (H.set id (.fixed l)) w' ∧ Ev K β H w (fixK K b (.cells cs et fr)) β (H.set id (.fixed l)) w' := by
  obtain ⟨b0, cs0, e0, g1, g2, g3, g4, g5⟩ := hI.obj id _ hi
  rw [hb] at g1; cases g1
  rw [hw] at g4; cases g4
  have hK : K.le (fixK K b (.cells cs et fr)) := fixK_le g2
  have hlv : liveAt H id := ⟨_, hi, rfl⟩
  have hfx : (fixK K b (.cells cs et fr)).fixed b = some (.cells cs et fr) := by simp [fixK]
  have hlive : ∀ i, liveAt (H.set id (.fixed l)) i → liveAt H i ∧ i ≠ id := by
    rintro i ⟨y, ho, hy⟩
    by_cases e : id = i
    · subst e; rw [set_self hi] at ho; cases ho; cases hy
    · rw [set_get e] at ho; exact ⟨⟨y, ho, hy⟩, fun x => e x.symm⟩
  refine ⟨⟨?_, ?_, ?_, ?_, ?_⟩, ⟨hK, fun _ _ h => h, by simp, ?_, by omega, h1, h2, h3, ?_, ?_, fun _ _ => rfl⟩⟩
  · intro y z hz
    rw [hh]
    by_cases e : y = b
    · subst e; rw [hfx] at hz; rw [if_pos rfl]; exact hz
    · rw [if_neg e]; simp [fixK, e] at hz; exact hI.fixed y z hz
  · intro y z hz
    rw [hh]
    by_cases e : y = b
    · subst e; rw [show (fixK K y (.cells cs et fr)).size y = K.size y from rfl, g3] at hz; cases hz
      exact ⟨cs, et, fr, if_pos rfl, rfl⟩
    · rw [if_neg e]; exact hI.size y z hz
  · intro i y hy; have := hI.dom i y hy; simpa using this
  · intro i y hy
    by_cases e : id = i
    · subst e; rw [set_self hi] at hy; cases hy
      exact ⟨b, cs, et, fr, hb, hfx, g3, g5.mono hK fun _ _ h => h⟩
    · rw [set_get e] at hy
      refine (hI.obj i y hy).mono hK (fun _ _ h => h) fun z hl hz hn => ?_
      have hne : z ≠ b := by
        rintro rfl
        exact e (hI.inj id i z hlv ⟨y, hy, hl⟩ hb hz)
      exact ⟨by simp [fixK, hne, hn], by rw [hh, if_neg hne]⟩
  · intro i j x hi' hj' hx hy
    exact hI.inj i j x (hlive i hi').1 (hlive j hj').1 hx hy
  · intro x hx hn
    rw [hh, if_neg]
    rintro rfl
    exact hn ⟨id, hlv, hb⟩
  · rintro x ⟨i, hi', hx⟩
    exact .inl ⟨i, (hlive i hi').1, hx⟩
  · intro x o hx
    by_cases e : x = b
    · subst e; exact .inr (.inl ⟨id, hlv, hb⟩)
    · simp [fixK, e] at hx; exact .inl hx

theorem ok_convB {s d : TypeId} {x : Operand} {y : Opd} (hy : cOpd x = some y) (hc : cConvB P s d y = some op) (hr : evOp (evO e) H op = some r) : OpOk P K β H w ((execOp a.eval ⟨dst, .convert s d x, ty, pos, after, guard⟩).run P w) r := by
  have hv := hE.opd hy
  unfold cConvB at hc
  split at hc
  · rename_i et h1 h2
    split at hc <;> cases hc
    rename_i h3
    simp only [evOp, ans, Option.map_eq_some_iff] at hr
    obtain ⟨u, hu, rfl⟩ := hr
    generalize hw : evO e y = vy at hv hu
    generalize hcx : a.eval x = cx at hv
    simp only [List.map_cons, List.map_nil, hw, purV] at hu
    cases hv <;> try (cases hu; done)
    rename_i t
    cases hu
    have hrun := Lib.run_convert_string_bytes (P := P) w s d et t h1 h2 h3
    have hheap : (Lib.bytesWorld w et t).heap = w.heap.push (.cells (Lib.bytesCells w et t) et ((Lib.bytesCells w et t).size, (Lib.bytesCells w et t).size + 1)) := by
      apply Array.ext_getElem?
      intro i
      rcases Nat.lt_trichotomy i w.heap.size with h | h | h
      · rw [Lib.bytesWorld_at_old w et t i h, push_get h]
      · subst h; rw [Lib.bytesWorld_at_new, push_new]
      · rw [Array.getElem?_eq_none (by rw [Lib.bytesWorld_size]; omega), Array.getElem?_eq_none (by simp; omega)]
    obtain ⟨i1, e1, f1⟩ := newFixed hI (w' := Lib.bytesWorld w et t) hheap rfl rfl rfl
    refine ⟨.slice (some ⟨w.heap.size, 0, none⟩) t.size (grownCap w t.size 0 et), Lib.bytesWorld w et t, _, β, ?_, ?_, i1, e1⟩
    · exact execOp_v (by rw [hcx]; exact hrun)
    · have hlen : (t.data.toList.map fun b => V.int .u8 b.toNat).length = t.size := by rw [List.length_map, Array.length_toList]; rfl
      have hflat : flat (t.data.toList.map fun b => V.int .u8 b.toNat) = t.data.toList.map fun b => V.int .u8 b.toNat := by
        simp only [flat, List.flatMap_map, cellsOf]; exact (List.map_eq_flatMap ..).symm
      have hg := grownCap_ge w t.size 0 et
      have := VR.list (K := fixK K w.heap.size (.cells (Lib.bytesCells w et t) et ((Lib.bytesCells w et t).size, (Lib.bytesCells w et t).size + 1))) (β := β) (l := t.data.toList.map fun b => V.int .u8 b.toNat) (c := false) (b := w.heap.size) (o := 0) (n := 1) (cap := grownCap w t.size 0 et) f1
        (by intro v hv; obtain ⟨b, _, rfl⟩ := List.mem_map.1 hv; rfl) (by simp) (by
          rw [hlen]
          show 0 + t.size * 1 ≤ ((t.data.map fun (b : UInt8) => Value.int .u8 b.toNat) ++ Array.replicate (grownCap w t.size 0 et - t.size) (Value.int .u8 0)).size
          rw [Array.size_append, Array.size_map]
          have : t.size = t.data.size := rfl
          omega) (by rw [hlen]; exact hg) (by simp) ?_
      · rw [hlen] at this; exact this
      · intro i v hv
        rw [hflat] at hv
        rw [List.getElem?_map] at hv
        obtain ⟨b, hb, rfl⟩ := Option.map_eq_some_iff.1 hv
        have hi : i < t.data.size := by have := (List.getElem?_eq_some_iff.1 hb).1; simpa using this
        have hb' : t.data[i]? = some b := by simpa using hb
        have : (Lib.bytesCells w et t).getD (0 + i) Go.undef = .int .u8 b.toNat := by
          show ((t.data.map fun (b : UInt8) => Value.int .u8 b.toNat) ++ Array.replicate (grownCap w t.size 0 et - t.size) (Value.int .u8 0)).getD (0 + i) Go.undef = _
          rw [Array.getD_eq_getD_getElem?, Nat.zero_add, Array.getElem?_append_left (by rw [Array.size_map]; exact hi), Array.getElem?_map, hb']
          rfl
        rw [this]; exact .int _ _
  · rename_i e1 et h1 h2
    split at hc
    case isFalse => cases hc
    rename_i hsd
    subst hsd
    have h12 : e1 = et := by rw [h1] at h2; cases h2; rfl
    subst h12
    split at hc <;> cases hc
    rename_i h3
    simp only [evOp] at hr
    generalize hw : evO e y = vy at hv hr
    generalize hcx : a.eval x = cx at hv
    simp only [List.map_cons, List.map_nil, hw] at hr
    cases hv <;> try (simp [memV] at hr; done)
    rename_i id b off len n cap z hβ hz hl hz' hn
    simp only [memV] at hr
    split at hr <;> cases hr
    rename_i l hob
    obtain ⟨b0, cs, eb, g1, g2, g3, g4, g5⟩ := hI.obj id _ hob
    rw [hβ] at g1; cases g1
    have hlt := heap_lt g4
    let w' := w.freeze ⟨b, cs.size, none⟩ 1
    have hsh : w.shape? b = some (eb, cs.size) := by simp [World.shape?, g4]
    have hrun : (convert s s (.slice (some ⟨b, off, none⟩) len cap)).run P w = .ok (.slice (some ⟨b, off, none⟩) len cap) w' := by
      simp [convert, run_underlying h1, run_underlying h3, markStringish, hsh, w']
    obtain ⟨i1, e1⟩ := markFixed hI (w' := w') (fr := (cs.size, cs.size + 1)) hob hβ g4 (fun x => by
      show (w.heap.modify b _)[x]? = _
      rw [Array.getElem?_modify]
      by_cases ex : x = b
      · subst ex; simp [g4]
      · simp [ex, Ne.symm ex]) (by simp [w', World.freeze]) rfl rfl rfl
    exact ⟨.slice (some ⟨b, off, none⟩) len cap, w', _, β, execOp_v (by rw [hcx]; exact hrun), .own hβ (e1.k.2.1 _ _ hz) hl hz' hn, i1, e1⟩
  · cases hc

omit hI hE in
theorem leafEq_ok {k : LfK} {x y : V} {cx cy : Value} {r : Bool} (hx : VR K β x cx) (hy : VR K β y cy) (h : leafEq k x y = some r) {t : TypeId} (ht : cLeaf P t = some k) (d : Nat) (w : World) : (Op.equalIn (d + 1) t cx cy).run P w = .ok r w := by
  unfold cLeaf at ht
  split at ht <;> cases ht
  · rename_i hu
    cases x <;> simp only [leafEq] at h <;> try (cases h; done)
    cases y <;> simp only [leafEq] at h <;> try (cases h; done)
    cases hx; cases hy; cases h
    exact run_equalIn_bool' w d t _ _ hu
  · rename_i k' hu
    cases x <;> simp only [leafEq] at h <;> try (cases h; done)
    cases y <;> simp only [leafEq] at h <;> try (cases h; done)
    split at h <;> cases h
    rename_i hk
    cases hx; cases hy
    subst hk
    exact run_equalIn_int w d t _ k' _ _ hu
  · rename_i hu
    cases x <;> simp only [leafEq] at h <;> try (cases h; done)
    cases y <;> simp only [leafEq] at h <;> try (cases h; done)
    cases hx; cases hy; cases h
    rw [run_equalIn_string w d t _ _ hu, ByteArray.toList_eq, ByteArray.toList_eq]

omit hI hE in
theorem part_leaf {k : LfK} {t : TypeId} (ht : cLeaf P t = some k) {l : List V} {cs : Array Value} (hl : ∀ i v, l[i]? = some v → VR K β v (cs.getD i Go.undef)) (hs : l.length = cs.size) {o : Nat} {v : V} (hv : l[o]? = some v) (w : World) :
    ∃ c, (part t cs o).run P w = .ok c w ∧ VR K β v c := by
  have ho : o < cs.size := by rw [← hs]; exact (List.getElem?_eq_some_iff.1 hv).1
  have hc : cs[o]? = some cs[o] := Array.getElem?_eq_getElem ho
  have hagg : tAgg P t = some false := by
    unfold cLeaf at ht
    unfold tAgg
    split at ht <;> cases ht <;> (rename_i hu; rw [hu])
  refine ⟨cs[o], ?_, by have := hl o v hv; simpa [Array.getD_eq_getD_getElem?, hc] using this⟩
  simp [part, isAgg_run hagg, hc]

omit hI hE in
theorem eqLeaves_ok {l m : List V} {cs ds : Array Value} (h1 : ∀ i v, l[i]? = some v → VR K β v (cs.getD i Go.undef)) (s1 : l.length = cs.size) (h2 : ∀ i v, m[i]? = some v → VR K β v (ds.getD i Go.undef)) (s2 : m.length = ds.size) (d : Nat) (w : World) :
    ∀ (fs : List Field) (q : List (Nat × LfK)) (r : Bool), cLeaves P fs = some q → eqLeaves l m q = some r → (Op.eqFields (d + 1) cs ds fs).run P w = .ok r w
  | [], q, r, hq, hr => by
    simp [cLeaves] at hq; subst hq
    simp [eqLeaves] at hr; subst hr
    simp [Op.eqFields]
  | f :: fs, q, r, hq, hr => by
    simp only [cLeaves] at hq
    split at hq
    · cases hq
    rename_i hn
    split at hq <;> cases hq
    rename_i k q hk hq
    simp only [eqLeaves] at hr
    split at hr
    case h_2 => cases hr
    rename_i a b ha hb
    obtain ⟨ca, ra, va⟩ := part_leaf hk h1 s1 ha w
    obtain ⟨cb, rb, vb⟩ := part_leaf hk h2 s2 hb w
    have step : ∀ x, leafEq k a b = some x → (Op.equalIn (d + 1) f.type ca cb).run P w = .ok x w := fun x hx => leafEq_ok va vb hx hk d w
    simp only [Op.eqFields, if_pos (show f.name ≠ "_" from hn), Sem.run_bind, ra, Result.andThen_ok, rb]
    cases hx : leafEq k a b with
    | none => rw [hx] at hr; cases hr
    | some x =>
      rw [step x hx]
      rw [hx] at hr
      cases x with
      | true => simpa using eqLeaves_ok h1 s1 h2 s2 d w fs q r hq hr
      | false => cases hr; simp

theorem ok_binX {bop : BinOp} {t yt : TypeId} {x y : Operand} (hc : cBinX P bop t x y = some op) (hr : evOp (evO e) H op = some r) : OpOk P K β H w ((execOp a.eval ⟨dst, .binOp bop t x y yt, ty, pos, after, guard⟩).run P w) r := by
  have key : ∀ b : Bool, (b = true ∧ bop = .eql ∨ b = false ∧ bop = .neq) → cBinY P b t x y = some op → OpOk P K β H w ((execOp a.eval ⟨dst, .binOp bop t x y yt, ty, pos, after, guard⟩).run P w) r := by
    intro b hb hc
    unfold cBinY at hc
    split at hc
    · rename_i et hu
      split at hc
      case h_2 => cases hc
      obtain ⟨x', hx, rfl⟩ := Option.map_eq_some_iff.1 hc
      have hv := hE.opd hx
      simp only [evOp, ans, Option.map_eq_some_iff] at hr
      obtain ⟨u, hu', rfl⟩ := hr
      generalize hw : evO e x' = vx at hv hu'
      generalize hcx : a.eval x = cx at hv
      simp only [List.map_cons, List.map_nil, hw] at hu'
      have hy : a.eval (.const (.slice none 0 0)) = .slice none 0 0 := rfl
      have run : ∀ (ad : Option Addr) (ln cap : Nat), cx = .slice ad ln cap → (do eqGuard bop t x (.const (.slice none 0 0)) cx (.slice none 0 0); binOp bop t cx (.slice none 0 0) : Sem Value).run P w = .ok (.bool (ad.isNone == b)) w := by
        intro ad ln cap hcx
        subst hcx
        have he := run_equalIn_slice_nil (P := P) w 9999 t et ad ln cap hu
        rcases hb with ⟨rfl, rfl⟩ | ⟨rfl, rfl⟩
        · rw [Sem.run_bind, eqGuard_ok (by simp) (by simp)]
          show (binOp .eql t (.slice ad ln cap) (.slice none 0 0)).run P w = _
          simp only [binOp, equal_eq, Sem.run_bind, he, Result.andThen_ok]
          cases ad <;> rfl
        · rw [Sem.run_bind, eqGuard_ok (by simp) (by simp)]
          show (binOp .neq t (.slice ad ln cap) (.slice none 0 0)).run P w = _
          simp only [binOp, equal_eq, Sem.run_bind, he, Result.andThen_ok]
          cases ad <;> rfl
      have fin : ∀ (ad : Option Addr) (ln cap : Nat), cx = .slice ad ln cap → VR K β u (.bool (ad.isNone == b)) → OpOk P K β H w ((execOp a.eval ⟨dst, .binOp bop t x (.const (.slice none 0 0)) yt, ty, pos, after, guard⟩).run P w) (.val u H) :=
        fun ad ln cap h1 h2 => .pure hI (execOp_v (by rw [hcx, hy]; exact run ad ln cap h1)) h2
      cases vx <;> simp only [purV] at hu' <;> try (cases hu'; done)
      · rename_i l cl
        cases l with
        | nil =>
          cases hu'
          cases hv with
          | lnil h => exact fin _ _ _ rfl (.anyb _)
          | list hb hu hn hl hc hcl h => exact fin _ _ _ rfl (.anyb _)
        | cons v l =>
          cases hu'
          cases hv with
          | list h1 h2 h3 h4 h5 h6 h7 => exact fin _ _ _ rfl (by cases b <;> exact .bool _)
      · cases hu'
        cases hv with
        | own h1 h2 h3 h4 h5 => exact fin _ _ _ rfl (by cases b <;> exact .bool _)
    · rename_i fs hu
      split at hc
      · cases hc
      rename_i hcond
      simp only [Bool.or_eq_true, not_or, Bool.not_eq_true] at hcond
      split at hc <;> cases hc
      rename_i q x' y' hq hx hy
      have hv := hE.opd hx
      have hv2 := hE.opd hy
      simp only [evOp, ans, Option.map_eq_some_iff] at hr
      obtain ⟨u, hu', rfl⟩ := hr
      generalize hw : evO e x' = vx at hv hu'
      generalize hw2 : evO e y' = vy at hv2 hu'
      generalize hcx : a.eval x = cx at hv
      generalize hcy : a.eval y = cy at hv2
      simp only [List.map_cons, List.map_nil, hw, hw2] at hu'
      cases hv <;> simp only [purV] at hu' <;> try (cases hu'; done)
      cases hv2 <;> simp only [purV] at hu' <;> try (cases hu'; done)
      rename_i l cs s1 h1 m ds s2 h2
      obtain ⟨rr, hrr, rfl⟩ := Option.map_eq_some_iff.1 hu'
      have hf : P.fieldsOf t = fs := by simp [Program.fieldsOf, hu]
      have he := run_equalIn_struct w 9999 t cs ds (by rw [hf]; exact hu) hcond.1
      rw [hf, eqLeaves_ok h1 s1 h2 s2 9998 w fs.toList q rr hq hrr] at he
      have hg : ∀ bo, (eqGuard bo t x y (.agg cs) (.agg ds)).run P w = .ok () w := fun bo => run_eqGuard_agg w bo t x y cs ds hcond.2
      refine .pure hI (execOp_v (c := .bool (rr == b)) ?_) (.bool _)
      rw [hcx, hcy, Sem.run_bind, hg]
      show (binOp bop t (.agg cs) (.agg ds)).run P w = _
      rcases hb with ⟨rfl, rfl⟩ | ⟨rfl, rfl⟩
      · rw [run_eql_struct, he]; cases rr <;> rfl
      · rw [run_neq_struct, he]; cases rr <;> rfl
    · cases hc
  unfold cBinX at hc
  split at hc
  · exact key true (.inl ⟨rfl, rfl⟩) hc
  · exact key false (.inr ⟨rfl, rfl⟩) hc
  · cases hc
end
end Fz
namespace Fz
open Go
theorem none_some {α : Type} {x : α} {p : Prop} (h : (none : Option α) = some x) : p := by cases h

section
variable {P : Program} {K : Kn} {β : Bi} {H : List Ob} {w : World} {nt : Nat} {e : Env} {a : Act} (hI : Inv K β H w) (hE : ER K β nt e a)
variable {dst : Option Tmp} {ty : TypeId} {pos : String} {after : Array Edge} {guard : Option (Nat × Bool)} {op : AOp} {r : OR}
include hI hE

omit hI hE in
theorem zero_cells {t : TypeId} {i : TypeInfo} {z : List V} (hi : P.info? t = some i) (hz : tZero P t = some z) : (i.zero.map fun z => z.cells.size) = some z.length := by
  unfold tZero at hz
  simp only [hi, Option.bind_some, Option.bind_eq_some_iff] at hz
  obtain ⟨c, hc, hz⟩ := hz
  obtain ⟨v, hv, rfl⟩ := Option.map_eq_some_iff.1 hz
  have := cells_LR (ofVal_VR ⟨fun _ => none, fun _ => none, fun _ _ => True⟩ (fun _ => none) 4 c v hv) (ofVal_any hv)
  rw [hc, Option.map_some, this.1]; simp

theorem ok_append {xs : Array Operand} {ats : Array TypeId} (hc : cOp P ⟨dst, .call ⟨.builtin .append, xs, ats⟩, ty, pos, after, guard⟩ = some op) (hr : evOp (evO e) H op = some r) : OpOk P K β H w ((execOp a.eval ⟨dst, .call ⟨.builtin .append, xs, ats⟩, ty, pos, after, guard⟩).run P w) r := by
  simp only [cOp] at hc
  split at hc
  · rename_i s x t u hx ht
    have hxs : xs = #[s, x] := Array.ext' (by simpa using hx)
    have hts : ats = #[t, u] := Array.ext' (by simpa using ht)
    subst hxs; subst hts
    have run : ∀ {c : Value} {w' : World}, (Builtin.append_ #[t, u] ty #[a.eval s, a.eval x]).run P w = .ok c w' → (execOp a.eval ⟨dst, .call ⟨.builtin .append, #[s, x], #[t, u]⟩, ty, pos, after, guard⟩).run P w = .ok (.value c) w' := by
      intro c w' hc
      simp [execOp, resolve, invoke, builtin, hc]
    split at hc
    · rename_i et s' x' hu hs' hx'
      have hvs := hE.opd hs'
      have hvx := hE.opd hx'
      split at hc
      · rename_i i kk hi hku
        simp only [Option.bind_eq_some_iff] at hc
        obtain ⟨z, hz, hc⟩ := hc
        split at hc <;> cases hc
        rename_i hcond
        simp only [not_or, ne_eq, Decidable.not_not] at hcond
        simp only [evOp] at hr
        split at hr
        · rename_i k l heq
          split at hr
          · rename_i hb
            obtain ⟨b1, b2, b3, b4⟩ := hb
            split at hr <;> cases hr
            rename_i v H' hap
            rw [heq] at hvx
            generalize hcx : a.eval x = cx at hvx run
            cases hvx
            obtain ⟨zc, hz1, hz2⟩ := zero_run hz K β
            have hzs : zc.cells.size = i.size := by rw [← hcond.2]; simpa using hz2.1.symm
            have hwr : IntKind.i64.wrap l = l := by
              unfold IntKind.wrap; simp [IntKind.signed, IntKind.bits]; omega
            have ha : AppArg P K β w i.size i.bytes u et (.int k l) (zeros z l.toNat) l.toNat := by
              refine ⟨by rw [zeros_len, hcond.2], _, hku, .inr ⟨⟨kk, rfl⟩, ⟨k, l, rfl, b1, rfl, hwr, b3⟩, zc, hz1, hzs, ?_⟩⟩
              exact zeros_LR hz2 (by rw [hcond.2]; exact hcond.1) l.toNat
            obtain ⟨c, w', K', β', q1, q2, q3, q4⟩ := appendV_sound (ty := ty) hI hu hi rfl rfl (by rw [zero_cells hi hz, hcond.2]) hcond.1 hvs ha hap
            exact ⟨c, w', K', β', run q1, q2, q3, q4⟩
          · cases hr
        · cases hr
      · rename_i i d hnint hi hku
        simp only [Option.bind_eq_some_iff] at hc
        obtain ⟨z, hz, hc⟩ := hc
        split at hc <;> cases hc
        rename_i hcond
        simp only [not_or, ne_eq, Decidable.not_not] at hcond
        simp only [evOp] at hr
        split at hr
        · rename_i ys k hel
          split at hr <;> cases hr
          rename_i v H' hap
          have he := elems_sound (P := P) hI hvx hel
          obtain ⟨ds, hd1, hd2⟩ := he.first k (Nat.le_refl _)
          rw [← he.size, List.take_length] at hd2
          have ha : AppArg P K β w i.size i.bytes u et (a.eval x) ys k :=
            ⟨he.size, _, hku, .inl ⟨fun kk hkk => by subst hkk; first | exact hnint _ _ hi hku | exact hnint _ _ rfl rfl | exact hnint kk rfl | exact hnint _ _ rfl hku | trace_state, he.len, ds, fun w' hw' => hd1 w' hw'.1, hd2⟩⟩
          obtain ⟨c, w', K', β', q1, q2, q3, q4⟩ := appendV_sound (ty := ty) hI hu hi rfl rfl (by rw [zero_cells hi hz, hcond.2]) hcond.1 hvs ha hap
          exact ⟨c, w', K', β', run q1, q2, q3, q4⟩
        · cases hr
      · cases hc
    · cases hc
  · cases hc

omit hI in
/-- What a slice is built of. -/
theorem build_run {t : TypeId} {len : Nat} {ps : Array (Nat × Operand)} (hc : cOp P ⟨dst, .buildSlice t len ps, ty, pos, after, guard⟩ = some op) : ∃ s z qs et, op = .buildSlice s len z qs ∧ s ≠ 0 ∧
    ∀ cells, fillV (zeros z len) (qs.map fun p => (p.1, p.2.1, evO e p.2.2)) = some cells → ∃ cs : Array Value, LR K β cells cs.toList ∧ cells.length = len * s ∧ cs.size = len * s ∧
      (Instr.buildSlice t len (ps.map fun (i, x) => (i, a.eval x))).run P w = .ok (.slice (some ⟨w.heap.size, 0, none⟩) len len) (w.alloc (.cells cs et)) := by
  simp only [cOp] at hc
  split at hc
  · rename_i et hu
    split at hc
    · rename_i s z hs hz
      split at hc
      · rename_i hcond
        obtain ⟨g1, g2, g3⟩ := hcond
        obtain ⟨qs, hq, rfl⟩ := Option.map_eq_some_iff.1 hc
        have h1 := run_underlying hu w
        have h2 := sizeOf_run hs w
        obtain ⟨zc, hz1, hz2⟩ := zero_run hz K β
        have hzs : zc.cells.size = s := by rw [← g2]; simpa using hz2.1.symm
        refine ⟨s, z, qs, et, rfl, g3, fun cells hfl => ?_⟩
        · obtain ⟨p1, p2⟩ := parts_R (P := P) hE hq
          have hz3 := zeros_LR hz2 (by rw [g2]; exact g3) len
          rw [hzs] at hz3
          obtain ⟨cs, hf, hlr⟩ := fill_sound (K := K) (β := β) (place := fun i => some (i * s, s)) _ _ ((Array.range (len * s)).map fun i => zc.cells[i % s]!) (zeros z len) cells p1 p2 hz3 hfl
          have hcl : cells.length = len * s := by
            have key : ∀ (qs : List (Nat × Nat × V)) (z l : List V), fillV z qs = some l → l.length = z.length := by
              intro qs
              induction qs with
              | nil => intro z l h; simp [fillV] at h; rw [h]
              | cons q qs ih =>
                obtain ⟨off, n, v⟩ := q
                intro z l h
                simp only [fillV] at h
                split at h
                · rename_i hcc
                  rw [ih _ _ h]
                  simp [splice]; omega
                · cases h
            rw [key _ _ _ hfl, zeros_len, g2]
          have hcs : cs.size = len * s := by rw [← hcl]; simpa using hlr.1.symm
          have hrun : (Instr.buildSlice t len (ps.map fun (i, x) => (i, a.eval x))).run P w = .ok (.slice (some ⟨w.heap.size, 0, none⟩) len len) (w.alloc (.cells cs et)) := by
            have hf' : Instr.fill (fun i => some (i * s, s)) ((Array.range (len * s)).map fun i => zc.cells[i % s]!) (ps.map fun (i, x) => (i, a.eval x)).toList = some cs := by simpa using hf
            have g1' : ¬ len * s > 16777216 := by omega
            by_cases hl0 : len * s = 0
            · have e0 : ((Array.range (len * s)).map fun i => (#[] : Array Value)[i % (#[] : Array Value).size]!) = ((Array.range (len * s)).map fun i => zc.cells[i % s]!) := by
                rw [hl0]; apply Array.ext'; simp
              simp only [Instr.buildSlice, Sem.run_bind, h1, Result.andThen_ok, h2]
              rw [if_neg (by omega), if_pos hl0]
              simp only [Sem.run_bind, Sem.run_pure, Result.andThen_ok]
              simp only [e0, hf']
              rfl
            · simp only [Instr.buildSlice, Sem.run_bind, h1, Result.andThen_ok, h2]
              rw [if_neg (by omega), if_neg hl0]
              simp only [Sem.run_bind, hz1, Sem.run_pure, Result.andThen_ok, hzs]
              simp only [hf']
              rfl
          exact ⟨cs, hlr, hcl, hcs, hrun⟩
      · cases hc
    · cases hc
  · cases hc

theorem ok_buildSlice {t : TypeId} {len : Nat} {ps : Array (Nat × Operand)} (hc : cOp P ⟨dst, .buildSlice t len ps, ty, pos, after, guard⟩ = some op) (hr : evOp (evO e) H op = some r) : OpOk P K β H w ((execOp a.eval ⟨dst, .buildSlice t len ps, ty, pos, after, guard⟩).run P w) r := by
  obtain ⟨s, z, qs, et, rfl, g3, hb⟩ := build_run (K := K) (β := β) (w := w) hE hc
  simp only [evOp] at hr
  split at hr
  case h_2 => cases hr
  rename_i cells hfl
  obtain ⟨cs, hlr, hcl, hcs, hrun⟩ := hb cells hfl
  split at hr
  · rename_i hl0
    cases hr
    subst hl0
    obtain ⟨i1, e1⟩ : Inv K β H (w.alloc (.cells cs et)) ∧ Ev K β H w K β H (w.alloc (.cells cs et)) := by
      have hget : ∀ b, b < w.heap.size → (w.alloc (.cells cs et)).heap[b]? = w.heap[b]? := fun b hb => push_get hb
      refine ⟨⟨fun b o hf => ?_, fun b z hz => ?_, hI.dom, fun id o ho => ?_, hI.inj⟩, ⟨K.le_refl, fun _ _ h => h, Nat.le_refl _, fun x hx _ => push_get hx, by simp, rfl, rfl, rfl, fun _ h => .inl h, fun _ _ h => .inl h, fun _ _ => rfl⟩⟩
      · have := hI.fixed b o hf; rw [hget b (heap_lt this)]; exact this
      · obtain ⟨cs, e', fr, q1, q2⟩ := hI.size b z hz
        exact ⟨cs, e', fr, by rw [hget b (heap_lt q1)]; exact q1, q2⟩
      · refine (hI.obj id o ho).mono K.le_refl (fun _ _ h => h) fun b hl hb hf => ⟨hf, hget b ?_⟩
        obtain ⟨b', q1, q2, _⟩ := (hI.obj id o ho).lt hl
        rw [hb] at q1; cases q1; exact q2
    exact ⟨_, w.alloc (.cells cs et), K, β, execOp_v hrun, .lnil fun _ => rfl, i1, e1⟩
  · cases hr
    refine newSlice_ok (w' := w.alloc (.cells cs et)) (cap := len) (t := et) hI (cs := cs) ?_ (execOp_v hrun) rfl rfl rfl rfl (Nat.le_refl _) (by omega) g3
    have := hlr.csR; rwa [Array.toArray_toList] at this

/-- Its elements told as they stay. -/
theorem ok_lst {t : TypeId} {l : Nat} {ps : Array (Nat × Operand)} {n len : Nat} {z : List V} {qs : List (Nat × Nat × Opd)} (hc : cOp P ⟨dst, .buildSlice t l ps, ty, pos, after, guard⟩ = some (.buildSlice n len z qs))
    (hr : evOp (evO e) H (.pur (.lst n len z (qs.map fun p => (p.1, p.2.1))) (qs.map fun p => p.2.2)) = some r) : OpOk P K β H w ((execOp a.eval ⟨dst, .buildSlice t l ps, ty, pos, after, guard⟩).run P w) r := by
  obtain ⟨s, z', qs', et, heq, g3, hb⟩ := build_run (K := K) (β := β) (w := w) hE hc
  cases heq
  simp only [evOp, ans, purV] at hr
  obtain ⟨u, hu, rfl⟩ := Option.map_eq_some_iff.1 hr
  have hz : (((qs.map fun p => (p.1, p.2.1)).zip ((qs.map fun p => p.2.2).map (evO e))).map fun p => (p.1.1, p.1.2, p.2)) = qs.map fun p => (p.1, p.2.1, evO e p.2.2) := by
    clear hu hc hb hr
    induction qs with
    | nil => rfl
    | cons q qs ih => simp only [List.map_cons, List.zip_cons_cons]; rw [ih]
  rw [hz] at hu
  split at hu
  case isFalse => cases hu
  split at hu
  case h_2 => cases hu
  rename_i cells hfl
  obtain ⟨cs, hlr, hcl, hcs, hrun⟩ := hb cells hfl
  obtain ⟨i1, e1, f1⟩ := newFixed hI (w' := w.alloc (.cells cs et)) (x := .cells cs et) rfl rfl rfl rfl
  split at hu
  · rename_i hl0
    cases hu
    subst hl0
    exact ⟨_, _, _, β, execOp_v hrun, .lnil fun _ => rfl, i1, e1⟩
  · split at hu <;> cases hu
    rename_i hl0 hleaf
    obtain ⟨c1, c2, c3⟩ := chunk_flat hcl hleaf
    refine ⟨_, _, _, β, execOp_v hrun, ?_, i1, e1⟩
    have := VR.list (K := fixK K w.heap.size (.cells cs et)) (β := β) (l := chunk n l cells) (c := true) (b := w.heap.size) (o := 0) (n := n) (cap := l) f1 c3 g3 (by rw [c2, hcs]; omega) (by rw [c2]; exact Nat.le_refl _) (by rw [c2]; simp) ?_
    · rw [c2] at this; exact this
    · intro i v hv
      rw [c1] at hv
      obtain ⟨c, hc', hvc⟩ := hlr.get hv
      have : cs.getD (0 + i) Go.undef = c := by
        rw [Nat.zero_add, Array.getD_eq_getD_getElem?]
        have : cs[i]? = some c := by simpa using hc'
        rw [this]; rfl
      rw [this]
      exact hvc.mono e1.k (fun _ _ h => h)

theorem ok_copy {xs : Array Operand} {ats : Array TypeId} (hc : cOp P ⟨dst, .call ⟨.builtin .copy, xs, ats⟩, ty, pos, after, guard⟩ = some op) (hr : evOp (evO e) H op = some r) : OpOk P K β H w ((execOp a.eval ⟨dst, .call ⟨.builtin .copy, xs, ats⟩, ty, pos, after, guard⟩).run P w) r := by
  simp only [cOp] at hc
  split at hc
  · rename_i d s t u hx ht
    have hxs : xs = #[d, s] := Array.ext' (by simpa using hx)
    have hts : ats = #[t, u] := Array.ext' (by simpa using ht)
    subst hxs; subst hts
    have run : ∀ {c : Value} {w' : World}, (Builtin.copy_ #[t, u] ty #[a.eval d, a.eval s]).run P w = .ok c w' → (execOp a.eval ⟨dst, .call ⟨.builtin .copy, #[d, s], #[t, u]⟩, ty, pos, after, guard⟩).run P w = .ok (.value c) w' := by
      intro c w' hc
      simp [execOp, resolve, invoke, builtin, hc]
    split at hc
    · rename_i et d' s' hu hd' hs'
      simp only [Option.bind_eq_some_iff] at hc
      obtain ⟨n, hn, hc⟩ := hc
      split at hc <;> cases hc
      rename_i hn0
      have hvd := hE.opd hd'
      have hvs := hE.opd hs'
      have h1 := run_underlying hu w
      have h2 := sizeOf_run hn w
      simp only [evOp] at hr
      split at hr
      · rename_i c' p heq hel
        cases hr
        have he := elems_sound (P := P) hI hvs (xs := p.1) (k := p.2) hel
        rw [heq] at hvd
        obtain ⟨aa, cap, hcd, _, _⟩ := vr_slice hvd
        obtain ⟨ds, hd1, hd2⟩ := he.first 0 (Nat.zero_le _)
        have hnil : ds = [] := List.eq_nil_of_length_eq_zero (by rw [← hd2.1]; simp)
        subst hnil
        have hd1 := hd1 w rfl
        refine .pure (c := goInt 0) hI (run ?_) (.int _ _)
        have hm : Nat.min p.2 0 = 0 := Nat.min_zero _
        rw [hcd]
        cases aa <;> simp [Builtin.copy_, h1, h2, he.len, hm, hd1, storeCells]
      · rename_i id off len m ys k heq hel
        split at hr
        · rename_i l ho
          split at hr <;> cases hr
          rename_i hcond
          obtain ⟨rfl, g2, g3⟩ := hcond
          have he := elems_sound (P := P) hI hvs hel
          rw [heq] at hvd
          generalize hcd : a.eval d = cd at hvd
          cases hvd with
          | own hβ hz hl hz' hnn =>
            obtain ⟨ds, hd1, hd2⟩ := he.first (Nat.min k len) (Nat.min_le_left _ _)
            have hd1 := hd1 w rfl
            have hxl : (ys.take (Nat.min k len * m)).length = Nat.min k len * m := by
              rw [List.length_take, he.size]
              exact Nat.min_eq_left (Nat.mul_le_mul_right m (Nat.min_le_left _ _))
            have hml : Nat.min k len * m ≤ len * m := Nat.mul_le_mul_right m (Nat.min_le_right _ _)
            have hfit : off + (ys.take (Nat.min k len * m)).length ≤ l.length := by
              rw [hxl]
              exact Nat.le_trans (Nat.add_le_add_left hml off) g2
            obtain ⟨w', q1, q2, q3⟩ := write_ok (P := P) hI ho hβ hd2 hfit g3
            refine ⟨goInt (Nat.min k len : Nat), w', K, β, run ?_, .int _ _, q2, q3⟩
            simp [Builtin.copy_, h1, h2, he.len, hcd, hd1, q1]
        · cases hr
      · cases hr
    · cases hc
  · cases hc

theorem ok_clear {xs : Array Operand} {ats : Array TypeId} (hc : cOp P ⟨dst, .call ⟨.builtin .clear, xs, ats⟩, ty, pos, after, guard⟩ = some op) (hr : evOp (evO e) H op = some r) : OpOk P K β H w ((execOp a.eval ⟨dst, .call ⟨.builtin .clear, xs, ats⟩, ty, pos, after, guard⟩).run P w) r := by
  simp only [cOp] at hc
  split at hc
  · rename_i d t hx ht
    have hxs : xs = #[d] := Array.ext' (by simpa using hx)
    have hts : ats = #[t] := Array.ext' (by simpa using ht)
    subst hxs; subst hts
    have run : ∀ {c : Value} {w' : World}, (Builtin.clear_ #[t] ty #[a.eval d]).run P w = .ok c w' → (execOp a.eval ⟨dst, .call ⟨.builtin .clear, #[d], #[t]⟩, ty, pos, after, guard⟩).run P w = .ok (.value c) w' := by
      intro c w' hc
      simp [execOp, resolve, invoke, builtin, hc]
    split at hc
    · rename_i et d' hu hd'
      split at hc
      · rename_i n z hn hz
        split at hc <;> cases hc
        rename_i hcond
        simp only [not_or, ne_eq, Decidable.not_not] at hcond
        have hvd := hE.opd hd'
        have h1 := run_underlying hu w
        have huv : VR K β uv (.tuple #[]) := .tuple rfl fun i v h => by simp at h
        simp only [evOp] at hr
        split at hr
        · rename_i c' heq
          cases hr
          rw [heq] at hvd
          obtain ⟨aa, cap, hcd, _, _⟩ := vr_slice hvd
          refine .pure (c := .tuple #[]) hI (run ?_) huv
          rw [hcd]
          cases aa <;> simp [Builtin.clear_, h1]
        · rename_i id off len m heq
          split at hr
          · rename_i l ho
            split at hr <;> cases hr
            rename_i hc2
            obtain ⟨rfl, g2, g3, g4⟩ := hc2
            rw [heq] at hvd
            generalize hcd : a.eval d = cd at hvd
            cases hvd with
            | own hβ hz' hl hz2 hnn =>
              obtain ⟨zc, hz1, hz2⟩ := zero_run hz K β
              have hzl := zeros_LR hz2 (by rw [g2]; exact hnn) len
              have hst : (zeros z len).all storable = true := by
                have : ∀ k, (zeros z k).all storable = true := by
                  intro k
                  induction k with
                  | zero => rfl
                  | succ k ih => simp only [zeros, List.all_append, g4, ih]; rfl
                exact this len
              obtain ⟨w', q1, q2, q3⟩ := write_ok (P := P) hI ho hβ hzl (by rw [zeros_len, g2]; exact g3) hst
              refine ⟨.tuple #[], w', K, β, run ?_, .tuple rfl fun i v h => by simp at h, q2, q3⟩
              by_cases hl0 : len = 0
              · subst hl0
                have hw : w' = w := by
                  simp only [Nat.zero_mul] at q1
                  have e0 : ((Array.range 0).map fun i => zc.cells[i % zc.cells.size]!).toList = [] := by simp
                  rw [e0] at q1
                  simp only [storeCells, Sem.run_pure] at q1
                  injection q1 with _ h; exact h.symm
                subst hw
                simp [Builtin.clear_, h1, hcd]
              · have e1 : (Builtin.zeroCells zc.cells len).toList = ((Array.range (len * zc.cells.size)).map fun i => zc.cells[i % zc.cells.size]!).toList := rfl
                rw [← e1] at q1
                obtain ⟨len, rfl⟩ : ∃ q, len = q + 1 := ⟨len - 1, by omega⟩
                simp [Builtin.clear_, h1, hcd, hz1, q1]
          · cases hr
        · cases hr
      · cases hc
    · cases hc
  · cases hc

theorem evOp_sound {o : Oper} (hc : cOp P o = some op) (hr : evOp (evO e) H op = some r) : OpOk P K β H w ((execOp a.eval o).run P w) r := by
  obtain ⟨dst, op', ty, pos, after, guard⟩ := o
  cases op' with
  | move x => exact ok_mov hI hE rfl (by simpa only [cOp] using hc) hr
  | assign x => exact ok_mov hI hE rfl (by simpa only [cOp] using hc) hr
  | pick c x y => exact ok_pick hI hE hc hr
  | alloc t => exact ok_alloc hI hc hr
  | box t x => exact ok_box hI hE hc hr
  | build t ps => exact ok_build hI hE hc hr
  | load t x => exact ok_load hI hE hc hr
  | store t x y => exact ok_store hI hE hc hr
  | nilCheck x => exact ok_nilCheck hI hE hc hr
  | binOp b t x y yt => exact ok_bin hI hE hc hr fun hx => ok_binX hI hE hx hr
  | unOp u t x => exact ok_un hI hE hc hr
  | convert s d x => exact ok_conv hI hE hc hr fun y hy hc => ok_convB hI hE hy hc hr
  | makeInterface t x => exact ok_makeIface hI hE hc hr
  | makeFunc f x y => exact ok_makeFunc hI hE hc hr
  | makeSlice t l c => exact ok_makeSlice hI hE hc hr
  | slice t x lo hi mx => exact ok_slice hI hE hc hr
  | fieldAddr t x f => exact ok_fieldAddr hI hE hc hr
  | field t x f => exact ok_field hI hE hc hr
  | indexAddr t x i => exact ok_indexAddr hI hE hc hr
  | index t x i => exact ok_index hI hE hc hr
  | extract x i => exact ok_extract hI hE hc hr
  | panic x => exact ok_panic hI hE hc hr
  | buildSlice t len ps => exact ok_buildSlice hI hE hc hr
  | makeMap t o => exact ok_makeMap hI hE hc hr
  | insert t m k x => exact mapPut_ok hI hE (by simpa only [cOp] using hc) hr
  | mapUpdate t m k x => exact mapPut_ok hI hE (by simpa only [cOp] using hc) hr
  | lookup t m k ok => exact ok_lookup hI hE hc hr
  | range t x => exact ok_range hI hE hc hr
  | next it b => cases b with
    | true => exact ok_next hI hE hc hr
    | false => exact none_some (show (none : Option AOp) = some op from hc)
  | typeAssert x xt t ok => exact ok_typeAssert hI hE hc hr
  | call c =>
    obtain ⟨callee, args, ats⟩ := c
    cases callee with
    | value g =>
      cases g with
      | func f => exact ok_callF hE hc hr
      | tmp t =>
        simp only [cOp] at hc
        split at hc <;> cases hc
        exact ok_callV hE ‹_› ‹_› hr
      | const v =>
        simp only [cOp] at hc
        split at hc <;> cases hc
        exact ok_callV hE ‹_› ‹_› hr
      | global g => exact none_some (show (none : Option AOp) = some op from hc)
    | invoke r m => exact none_some (show (none : Option AOp) = some op from hc)
    | builtin b =>
      cases b with
      | len => exact ok_len hI hE hc hr
      | cap => exact ok_cap hI hE hc hr
      | append => exact ok_append hI hE hc hr
      | copy => exact ok_copy hI hE hc hr
      | clear => exact ok_clear hI hE hc hr
      | max => exact ok_max hI hE hc hr
      | min => exact ok_min hI hE hc hr
      | panic => exact ok_panicB hI hE hc hr
      | _ => exact none_some (show (none : Option AOp) = some op from hc)
  | _ => exact none_some (show (none : Option AOp) = some op from hc)
/-- How an operation is compiled, where the order is open. -/
def OpRel (P : Program) (o : Oper) (op : AOp) : Prop := cOp P o = some op ∨ ∃ t l ps n len z qs, o.op = .buildSlice t l ps ∧ cOp P o = some (.buildSlice n len z qs) ∧ op = .pur (.lst n len z (qs.map fun p => (p.1, p.2.1))) (qs.map fun p => p.2.2)
theorem evOp_soundL {o : Oper} (hc : OpRel P o op) (hr : evOp (evO e) H op = some r) : OpOk P K β H w ((execOp a.eval o).run P w) r := by
  rcases hc with hc | ⟨t, l, ps, n, len, z, qs, ho, hc, rfl⟩
  · exact evOp_sound hI hE hc hr
  · obtain ⟨dst, op', ty, pos, after, guard⟩ := o
    simp only at ho
    subst ho
    exact ok_lst hI hE hc hr
end
end Fz
namespace Fz
open Go

theorem mapS_sound {f : V → List Ob → Option (V × List Ob)} {β : Bi} {w : World}
    (hf : ∀ v H v' H', f v H = some (v', H') → ∀ K c, Inv K β H w → VR K β v c → ∃ K', Inv K' β H' w ∧ Ev K β H w K' β H' w ∧ VR K' β v' c) :
    ∀ (l : List V) (H : List Ob) (l' : List V) (H' : List Ob), mapS f l H = some (l', H') → ∀ K cs, Inv K β H w → LR K β l cs → ∃ K', Inv K' β H' w ∧ Ev K β H w K' β H' w ∧ LR K' β l' cs := by
  intro l
  induction l with
  | nil =>
    intro H l' H' h K cs hI hl
    simp [mapS] at h
    obtain ⟨rfl, rfl⟩ := h
    exact ⟨K, hI, .refl K β H w, hl⟩
  | cons v l ih =>
    intro H l' H' h K cs hI hl
    simp only [mapS] at h
    split at h
    · cases h
    · rename_i v1 H1 hv1
      split at h
      · cases h
      · rename_i l2 H2 hl2
        cases h
        obtain ⟨c, r, rfl, g1, g2⟩ := hl.head
        obtain ⟨K1, i1, e1, r1⟩ := hf v H v1 H1 hv1 K c hI g1
        obtain ⟨K2, i2, e2, r2⟩ := ih _ _ _ hl2 K1 r i1 (g2.mono e1.k fun _ _ h => h)
        exact ⟨K2, i2, e1.trans e2, .cons (r1.mono e2.k fun _ _ h => h) r2⟩

/-- Cells of a block that stays, as a list. -/
theorem list_of {K : Kn} {β : Bi} {b off len n cap : Nat} {cs : Array Value} {e : TypeId} {fr : Nat × Nat} {x : List V} (hb : K.fixed b = some (.cells cs e fr)) (hle : off + len * n ≤ cs.size) (hn : n ≠ 0) (hc : len ≤ cap)
    (hx : LR K β x ((cs.toList.drop off).take (len * n))) (h : n ≠ 1 ∨ x.all leafy = true) : VR K β (.list (chunk n len x) false) (.slice (some ⟨b, off, none⟩) len cap) := by
  have hxl : x.length = len * n := by rw [hx.1]; simp; omega
  obtain ⟨h1, h2, h3⟩ := chunk_flat hxl h
  have := VR.list (K := K) (β := β) (l := chunk n len x) (c := false) (b := b) (o := off) (n := n) (cap := cap) hb h3 hn (by rw [h2]; exact hle) (by rw [h2]; exact hc) (by simp) ?_
  · rw [h2] at this; exact this
  · intro i v hv
    rw [h1] at hv
    obtain ⟨c, hc', hvc⟩ := hx.get hv
    have hi : i < len * n := by rw [← hxl]; exact (List.getElem?_eq_some_iff.1 hv).1
    simp [List.getElem?_take, hi] at hc'
    simpa [Array.getD_eq_getD_getElem?, hc'] using hvc

theorem freezeV_sound {β : Bi} {w : World} : ∀ (k : Nat) (v : V) (H : List Ob) (v' : V) (H' : List Ob), freezeV k v H = some (v', H') → ∀ K c, Inv K β H w → VR K β v c →
    ∃ K', Inv K' β H' w ∧ Ev K β H w K' β H' w ∧ VR K' β v' c := by
  intro k
  induction k with
  | zero => intro v H v' H' h; simp [freezeV] at h
  | succ k ih =>
    intro v H v' H' h K c hI hv
    have hm := mapS_sound (f := freezeV k) (β := β) (w := w) ih
    unfold freezeV at h
    split at h
    · rename_i id off len n
      cases hv with
      | own hβ hz hl hz' hnn =>
        rename_i b cap z
        split at h
        · rename_i l ho
          split at h
          · rename_i hcond
            split at h
            · rename_i x H1 hx
              split at h <;> cases h
              rename_i hleaf
              obtain ⟨b', cs, e, g1, g2, g3, g4, g5⟩ := hI.obj id _ ho
              rw [hβ] at g1; cases g1
              have hK1 : K.le (fixK K b (.cells cs e (0, 0))) := fixK_le g2
              have hfx : (fixK K b (.cells cs e (0, 0))).fixed b = some (.cells cs e (0, 0)) := by simp [fixK]
              obtain ⟨f1, f2, f3⟩ := hI.fix (o' := .fixed l) ho rfl hβ g4 g2 rfl ⟨b, cs, e, (0, 0), hβ, hfx, g3, g5.mono hK1 fun _ _ h => h⟩
              have hlr := seen_of (w := w) (b := b) (o := off) (n := len * n) (k := 0) g4 (by have := g5.1; omega) (by simpa using g5.2) off (by omega) hcond.1
              obtain ⟨K2, q1, q2, q3⟩ := hm _ _ _ _ hx _ _ f2 (hlr.rel.mono hK1 fun _ _ h => h)
              refine ⟨K2, q1, f3.trans q2, list_of (q2.k.1 _ _ hfx) (by have := g5.1; omega) hcond.2 hl q3 hleaf⟩
            · cases h
          · cases h
        · rename_i l ho
          split at h
          · rename_i hcond
            split at h
            · rename_i x H1 hx
              split at h <;> cases h
              rename_i hleaf
              obtain ⟨b', cs, e, fr, g1, g2, g3, g5⟩ := hI.obj id _ ho
              rw [hβ] at g1; cases g1
              have hlr := seen_of (w := w) (b := b) (o := off) (n := len * n) (k := 0) (hI.fixed _ _ g2) (by have := g5.1; omega) (by simpa using g5.2) off (by omega) hcond.1
              obtain ⟨K2, q1, q2, q3⟩ := hm _ _ _ _ hx _ _ hI hlr.rel
              exact ⟨K2, q1, q2, list_of (q2.k.1 _ _ g2) (by have := g5.1; omega) hcond.2 hl q3 hleaf⟩
            · cases h
          · cases h
        · cases h
    · rename_i id
      cases hv with
      | mref hβ =>
        rename_i b
        split at h
        · rename_i ks vs ho
          cases h
          obtain ⟨b', es, clock, g1, g2, g3, g4, g5, g6, g7⟩ := hI.obj id _ ho
          rw [hβ] at g1; cases g1
          obtain ⟨f1, f2, f3⟩ := hI.fix (o' := .dead) ho rfl hβ g3 g2 rfl trivial
          have hfx : (fixK K b (.map es clock)).fixed b = some (.map es clock) := by simp [fixK]
          exact ⟨_, f2, f3, .map hfx g4 g5 (fun i v hv => (g6 i v hv).mono f1 fun _ _ h => h) fun i v hv => (g7 i v hv).mono f1 fun _ _ h => h⟩
        · cases h
    · cases hv with
      | agg hl hc =>
        simp only [Option.map_eq_some_iff] at h
        obtain ⟨⟨x, H1⟩, hx, h⟩ := h
        cases h
        obtain ⟨K2, q1, q2, q3⟩ := hm _ _ _ _ hx _ _ hI (LR.of_arr hl hc)
        exact ⟨K2, q1, q2, .agg q3.to_arr.1 q3.to_arr.2⟩
    · cases hv with
      | tuple hl hc =>
        simp only [Option.map_eq_some_iff] at h
        obtain ⟨⟨x, H1⟩, hx, h⟩ := h
        cases h
        obtain ⟨K2, q1, q2, q3⟩ := hm _ _ _ _ hx _ _ hI (LR.of_arr hl hc)
        exact ⟨K2, q1, q2, .tuple q3.to_arr.1 q3.to_arr.2⟩
    · cases h
      exact ⟨K, hI, .refl K β H w, hv⟩

/-- An object told in other words. -/
theorem Inv.retell {K : Kn} {β : Bi} {H : List Ob} {w : World} (h : Inv K β H w) {id : Nat} {l l' : List V} (hi : H[id]? = some (.live l))
    (hl : ∀ b cs e fr, β id = some b → w.heap[b]? = some (.cells cs e fr) → CsR K β l' cs) : Inv K β (H.set id (.live l')) w ∧ Ev K β H w K β (H.set id (.live l')) w := by
  obtain ⟨b, cs, e, g1, g2, g3, g4, g5⟩ := h.obj id _ hi
  refine h.put hi g1 g4 rfl (hl b cs e _ g1 g4) (fun x => ?_) rfl rfl rfl rfl
  by_cases ex : x = b
  · subst ex; rw [if_pos rfl]; exact g4
  · rw [if_neg ex]

theorem freezeObs_sound {β : Bi} {w : World} {K0 : Kn} {H0 : List Ob} (h0 : Inv K0 β H0 w) : ∀ (os : List Ob) (i : Nat) (H H' : List Ob), freezeObs i os H = some H' → (∀ j o, os[j]? = some o → H0[i + j]? = some o) →
    ∀ K, K0.le K → Inv K β H w → ∃ K', Inv K' β H' w ∧ Ev K β H w K' β H' w := by
  intro os
  induction os with
  | nil => intro i H H' h _ K _ hI; simp [freezeObs] at h; subst h; exact ⟨K, hI, .refl K β H w⟩
  | cons o os ih =>
    intro i H H' h hos K hK hI
    have hos' : ∀ j o', os[j]? = some o' → H0[i + 1 + j]? = some o' := fun j o' hj => by
      have := hos (j + 1) o' (by simpa using hj)
      rwa [show i + 1 + j = i + (j + 1) from by omega]
    have hi0 := hos 0 o (by simp)
    simp only [Nat.add_zero] at hi0
    have skip : ∀ {H2}, freezeObs (i + 1) os H2 = some H' → ∀ K2, Inv K2 β H2 w → Ev K β H w K2 β H2 w → ∃ K', Inv K' β H' w ∧ Ev K β H w K' β H' w := by
      intro H2 h2 K2 i2 e2
      obtain ⟨K3, i3, e3⟩ := ih (i + 1) H2 H' h2 hos' K2 (Kn.le_trans hK e2.k) i2
      exact ⟨K3, i3, e2.trans e3⟩
    cases o with
    | live l =>
      simp only [freezeObs] at h
      split at h
      · rename_i l' H1 hm
        obtain ⟨b, cs, e, g1, g2, g3, g4, g5⟩ := h0.obj i _ hi0
        have hlr : LR K0 β l (cs.toList.take l.length) := by
          refine ⟨by have := g5.1; simp; omega, fun j v hv => ?_⟩
          have hil : j < l.length := (List.getElem?_eq_some_iff.1 hv).1
          have := g5.2 j v hv
          simpa [List.getD, List.getElem?_take, hil, Array.getD_eq_getD_getElem?] using this
        obtain ⟨K1, i1, e1, r1⟩ := mapS_sound (f := freezeV depthF) (β := β) (w := w) (freezeV_sound depthF) _ _ _ _ hm K _ hI (hlr.mono hK fun _ _ h => h)
        split at h
        · rename_i l2 ho2
          obtain ⟨i2, e2⟩ := i1.retell (l' := l') ho2 (fun b' cs' e' fr' hb hw => by
            rw [g1] at hb; cases hb
            rw [g4] at hw; cases hw
            refine ⟨by rw [r1.1]; simp; omega, fun j v hv => ?_⟩
            obtain ⟨c, hc, hvc⟩ := r1.get hv
            have hj : j < l.length := by
              have := (List.getElem?_eq_some_iff.1 hv).1
              rw [r1.1] at this; simp at this; omega
            simp [List.getElem?_take, hj] at hc
            simpa [Array.getD_eq_getD_getElem?, hc] using hvc)
          exact skip h K1 i2 (e1.trans e2)
        · exact skip h K1 i1 e1
      · cases h
    | fixed l => exact skip (by simpa [freezeObs] using h) K hI (.refl K β H w)
    | dead => exact skip (by simpa [freezeObs] using h) K hI (.refl K β H w)
    | mlive ks vs => exact skip (by simpa [freezeObs] using h) K hI (.refl K β H w)
    | iter s p => exact skip (by simpa [freezeObs] using h) K hI (.refl K β H w)
    | loop k t l st => exact skip (by simpa [freezeObs] using h) K hI (.refl K β H w)
end Fz
namespace Fz
open Go

/-- What is found: each is there, none twice, and what they name is among them. -/
theorem reach_sound {H : List Ob} : ∀ (k : Nat) (todo seen ids : List Nat), reach H k todo seen = some ids → seen.Nodup → (∀ i ∈ seen, i < H.length) →
    (∀ i ∈ seen, ∀ o, H[i]? = some o → ∀ j ∈ refsOb o, j ∈ seen ∨ j ∈ todo) →
    ids.Nodup ∧ (∀ i ∈ ids, i < H.length) ∧ (∀ i ∈ ids, ∀ o, H[i]? = some o → ∀ j ∈ refsOb o, j ∈ ids) ∧ (∀ i ∈ seen, i ∈ ids) ∧ (∀ i ∈ todo, i ∈ ids) := by
  intro k
  induction k with
  | zero => intro todo seen ids h; simp [reach] at h
  | succ k ih =>
    intro todo seen ids h hnd hlt hcl
    cases todo with
    | nil =>
      simp [reach] at h; subst h
      exact ⟨hnd, hlt, fun i hi o ho j hj => (hcl i hi o ho j hj).resolve_right (by simp), fun _ h => h, by simp⟩
    | cons i todo =>
      simp only [reach] at h
      split at h
      · rename_i hc
        have hi : i ∈ seen := by simpa using hc
        obtain ⟨g1, g2, g3, g4, g5⟩ := ih todo seen ids h hnd hlt fun a ha o ho j hj => by
          rcases hcl a ha o ho j hj with h | h
          · exact .inl h
          · rcases List.mem_cons.1 h with rfl | h
            · exact .inl hi
            · exact .inr h
        refine ⟨g1, g2, g3, g4, fun a ha => ?_⟩
        rcases List.mem_cons.1 ha with rfl | ha
        · exact g4 _ hi
        · exact g5 a ha
      · rename_i hc
        have hi : i ∉ seen := by simpa using hc
        split at h
        · rename_i o ho
          have hil : i < H.length := (List.getElem?_eq_some_iff.1 ho).1
          obtain ⟨g1, g2, g3, g4, g5⟩ := ih (todo ++ refsOb o) (seen ++ [i]) ids h
            (List.nodup_append.2 ⟨hnd, by simp, fun a ha b hb => by simp at hb; subst hb; rintro rfl; exact hi ha⟩)
            (fun a ha => by
              rcases List.mem_append.1 ha with ha | ha
              · exact hlt a ha
              · simp at ha; subst ha; exact hil)
            (fun a ha o' ho' j hj => by
              rcases List.mem_append.1 ha with ha | ha
              · rcases hcl a ha o' ho' j hj with h | h
                · exact .inl (List.mem_append_left _ h)
                · rcases List.mem_cons.1 h with rfl | h
                  · exact .inl (by simp)
                  · exact .inr (List.mem_append_left _ h)
              · simp at ha; subst ha
                rw [ho] at ho'; cases ho'
                exact .inr (List.mem_append_right _ hj))
          refine ⟨g1, g2, g3, fun a ha => g4 a (List.mem_append_left _ ha), fun a ha => ?_⟩
          rcases List.mem_cons.1 ha with rfl | ha
          · exact g4 _ (by simp)
          · exact g5 a (List.mem_append_left _ ha)
        · cases h

theorem renOb_live (g : Nat → Nat) (o : Ob) : (renOb g o).isLive = o.isLive := by cases o <;> rfl

theorem LR.ren {K K' : Kn} {β β' : Bi} {g : Nat → Nat} (hK : K.le K') {l : List V} {cs : List Value} (h : LR K β l cs) (hg : ∀ i ∈ refsL l, ∀ b, β i = some b → β' (g i) = some b) : LR K' β' (renL g l) cs := by
  rw [renL_eq]
  refine ⟨by simp [h.1], fun i v hv => ?_⟩
  rw [List.getElem?_map] at hv
  obtain ⟨u, hu, rfl⟩ := Option.map_eq_some_iff.1 hv
  exact (h.2 i u hu).ren hK fun j hj => hg j (by rw [refsL_eq]; exact List.mem_flatMap.2 ⟨u, List.mem_of_getElem? hu, hj⟩)

theorem ObR.ren {K K' : Kn} {β β' : Bi} {g : Nat → Nat} {w w' : World} (hK : K.le K') {i j : Nat} {o : Ob} (h : ObR K β w i o) (hb : ∀ b, o.isLive = true → β i = some b → β' j = some b) (hb' : ∀ b, o.isLive = false → β i = some b → β' j = some b)
    (hg : ∀ i ∈ refsOb o, ∀ b, β i = some b → β' (g i) = some b) (hf : ∀ b, o.isLive = true → β i = some b → K.fixed b = none → K'.fixed b = none ∧ w'.heap[b]? = w.heap[b]?) : ObR K' β' w' j (renOb g o) := by
  have cs : ∀ {l : List V} {cs : Array Value}, CsR K β l cs → (∀ i ∈ refsL l, ∀ b, β i = some b → β' (g i) = some b) → CsR K' β' (renL g l) cs := by
    intro l cs h hg
    rw [renL_eq]
    refine ⟨by simpa using h.1, fun i v hv => ?_⟩
    rw [List.getElem?_map] at hv
    obtain ⟨u, hu, rfl⟩ := Option.map_eq_some_iff.1 hv
    exact (h.2 i u hu).ren hK fun j hj => hg j (by rw [refsL_eq]; exact List.mem_flatMap.2 ⟨u, List.mem_of_getElem? hu, hj⟩)
  have vs : ∀ {l : List V} {f : Nat → Value}, (∀ i v, l[i]? = some v → VR K β v (f i)) → (∀ i ∈ refsL l, ∀ b, β i = some b → β' (g i) = some b) → ∀ i v, (renL g l)[i]? = some v → VR K' β' v (f i) := by
    intro l f h hg i v hv
    rw [renL_eq, List.getElem?_map] at hv
    obtain ⟨u, hu, rfl⟩ := Option.map_eq_some_iff.1 hv
    exact (h i u hu).ren hK fun j hj => hg j (by rw [refsL_eq]; exact List.mem_flatMap.2 ⟨u, List.mem_of_getElem? hu, hj⟩)
  cases o with
  | live l =>
    obtain ⟨b, c, e, h1, h2, h3, h4, h5⟩ := h
    obtain ⟨g1, g2⟩ := hf b rfl h1 h2
    exact ⟨b, c, e, hb b rfl h1, g1, hK.2.1 _ _ h3, g2.trans h4, cs h5 hg⟩
  | fixed l =>
    obtain ⟨b, c, e, fr, h1, h2, h3, h5⟩ := h
    exact ⟨b, c, e, fr, hb' b rfl h1, hK.1 _ _ h2, hK.2.1 _ _ h3, cs h5 hg⟩
  | dead => trivial
  | mlive ks us =>
    obtain ⟨b, es, clock, h1, h2, h4, h5, h6, h7, h8⟩ := h
    obtain ⟨g1, g2⟩ := hf b rfl h1 h2
    exact ⟨b, es, clock, hb b rfl h1, g1, g2.trans h4, by rw [renL_eq]; simpa using h5, by rw [renL_eq]; simpa using h6, vs h7 fun i hi => hg i (List.mem_append_left _ hi), vs h8 fun i hi => hg i (List.mem_append_right _ hi)⟩
  | iter s pos =>
    obtain ⟨b, h1, h2, h4⟩ := h
    obtain ⟨g1, g2⟩ := hf b rfl h1 h2
    exact ⟨b, hb b rfl h1, g1, g2.trans h4⟩
  | loop k ts l st =>
    obtain ⟨b, r, h1, h2, h4, h5, h6, h7, h8⟩ := h
    obtain ⟨g1, g2⟩ := hf b rfl h1 h2
    refine ⟨b, r, hb b rfl h1, g1, g2.trans h4, by rw [hK.2.2]; exact h5, by rw [renL_eq]; simpa using h6, fun i t v ht hv => ?_, h8⟩
    have := vs (l := l) (f := fun i => r.tmps.getD (ts.getD i 0) Go.undef) (fun i v hv => by
      have hi : i < ts.length := by rw [h6]; exact (List.getElem?_eq_some_iff.1 hv).1
      have e1 : ts.getD i 0 = ts[i] := by simp [List.getD, List.getElem?_eq_getElem hi]
      rw [e1]; exact h7 i _ v (List.getElem?_eq_getElem hi) hv) hg i v hv
    have e1 : ts.getD i 0 = t := by simp [List.getD, ht]
    rwa [e1] at this

/-- The numbers of a call's own heap, in the caller's. -/
def locB (β : Bi) (ids : List Nat) : Bi := fun j => (ids[j]?).bind β

theorem idx_get {ids : List Nat} {i : Nat} (h : i ∈ ids) : ids[ids.idxOf i]? = some i := by
  have hl := List.idxOf_lt_length_of_mem h
  rw [List.getElem?_eq_getElem hl, List.getElem_idxOf hl]

theorem local_inv {K : Kn} {β : Bi} {H : List Ob} {w : World} (hI : Inv K β H w) {ids : List Nat} (hnd : ids.Nodup) (hlt : ∀ i ∈ ids, i < H.length) (hcl : ∀ i ∈ ids, ∀ o, H[i]? = some o → ∀ j ∈ refsOb o, j ∈ ids) :
    Inv K (locB β ids) (ids.map fun i => renOb (fun i => ids.idxOf i) (H[i]?.getD .dead)) w := by
  have get : ∀ (j : Nat) (o : Ob), (ids.map fun i => renOb (fun i => ids.idxOf i) (H[i]?.getD .dead))[j]? = some o → ∃ (i : Nat) (o' : Ob), ids[j]? = some i ∧ H[i]? = some o' ∧ o = renOb (fun i => ids.idxOf i) o' := by
    intro j o ho
    rw [List.getElem?_map] at ho
    obtain ⟨i, hi, rfl⟩ := Option.map_eq_some_iff.1 ho
    have hil := hlt i (List.mem_of_getElem? hi)
    exact ⟨i, H[i], hi, List.getElem?_eq_getElem hil, by rw [List.getElem?_eq_getElem hil]; rfl⟩
  refine ⟨hI.fixed, hI.size, fun j b hj => ?_, fun j o ho => ?_, fun j k b hj hk h1 h2 => ?_⟩
  · unfold locB at hj
    obtain ⟨i, hi, _⟩ := Option.bind_eq_some_iff.1 hj
    simpa using (List.getElem?_eq_some_iff.1 hi).1
  · obtain ⟨i, o', hi, ho', rfl⟩ := get j o ho
    have himem := List.mem_of_getElem? hi
    refine (hI.obj i o' ho').ren K.le_refl ?_ ?_ ?_ ?_
    · intro b _ hb; simp [locB, hi, hb]
    · intro b _ hb; simp [locB, hi, hb]
    · intro q hq b hb
      have := hcl i himem o' ho' q hq
      simp [locB, idx_get this, hb]
    · intro b _ _ hf; exact ⟨hf, rfl⟩
  · obtain ⟨o1, ho1, hl1⟩ := hj
    obtain ⟨o2, ho2, hl2⟩ := hk
    obtain ⟨i1, o1', hi1, ho1', rfl⟩ := get j o1 ho1
    obtain ⟨i2, o2', hi2, ho2', rfl⟩ := get k o2 ho2
    simp only [locB, hi1, Option.bind_some] at h1
    simp only [locB, hi2, Option.bind_some] at h2
    rw [renOb_live] at hl1 hl2
    have := hI.inj i1 i2 b ⟨_, ho1', hl1⟩ ⟨_, ho2', hl2⟩ h1 h2
    subst this
    have e1 := (List.getElem?_eq_some_iff.1 hi1)
    have e2 := (List.getElem?_eq_some_iff.1 hi2)
    obtain ⟨q1, q2⟩ := e1
    obtain ⟨q3, q4⟩ := e2
    have hp := List.pairwise_iff_getElem.1 hnd
    rcases Nat.lt_trichotomy j k with h | h | h
    · exact absurd (q2.trans q4.symm) (hp j k q1 q3 h)
    · exact h
    · exact absurd (q4.trans q2.symm) (hp k j q3 q1 h)

theorem setAll_length : ∀ (is : List Nat) (os : List Ob) (H : List Ob), (setAll H is os).length = H.length
  | [], os, H => by cases os <;> rfl
  | i :: is, [], H => rfl
  | i :: is, o :: os, H => by simp [setAll, setAll_length is os]
theorem setAll_other : ∀ (is : List Nat) (os : List Ob) (H : List Ob) (i : Nat), i ∉ is → (setAll H is os)[i]? = H[i]?
  | [], os, H, i, _ => by cases os <;> rfl
  | j :: is, [], H, i, _ => rfl
  | j :: is, o :: os, H, i, h => by
    simp only [setAll]
    rw [setAll_other is os _ i (fun hi => h (by simp [hi])), set_get (fun hh => h (by simp [hh]))]
theorem setAll_at : ∀ (is : List Nat) (os : List Ob) (H : List Ob), is.Nodup → is.length = os.length → (∀ i ∈ is, i < H.length) → ∀ (j i : Nat), is[j]? = some i → (setAll H is os)[i]? = os[j]?
  | [], os, H, _, _, _, j, i, h => by simp at h
  | k :: is, [], H, _, hl, _, j, i, h => by simp at hl
  | k :: is, o :: os, H, hnd, hl, hlt, j, i, h => by
    simp only [setAll]
    obtain ⟨h1, h2⟩ := List.nodup_cons.1 hnd
    cases j with
    | zero =>
      simp at h; subst h
      rw [setAll_other is os _ k h1, List.getElem?_set]
      simp [hlt k (by simp)]
    | succ j =>
      exact setAll_at is os (H.set k o) h2 (by simpa using hl) (fun i hi => by simpa using hlt i (by simp [hi])) j i (by simpa using h)

/-- The caller's numbers behind a call. -/
def backN (ids : List Nat) (n : Nat) (j : Nat) : Nat := if j < ids.length then ids[j]?.getD 0 else n + (j - ids.length)
def backB (β β2 : Bi) (ids : List Nat) (n : Nat) (keep : Bool) : Bi := fun i => if i < n then β i else if keep then β2 (ids.length + (i - n)) else none

theorem back_inv {K K3 : Kn} {β β2 : Bi} {H Hl3 : List Ob} {w w2 : World} (hI : Inv K β H w) {ids : List Nat} (hnd : ids.Nodup) (hlt : ∀ i ∈ ids, i < H.length) {Hl : List Ob} (hHl : Hl = ids.map fun i => renOb (fun i => ids.idxOf i) (H[i]?.getD .dead))
    (hI3 : Inv K3 β2 Hl3 w2) (hE3 : Ev K (locB β ids) Hl w K3 β2 Hl3 w2) (keep : Bool)
    (hkeep : keep = false → ∀ o ∈ Hl3.take ids.length, ∀ j ∈ refsOb o, j < ids.length) :
    let β' := backB β β2 ids H.length keep
    let H' := setAll H ids ((Hl3.take ids.length).map (renOb (backN ids H.length))) ++ (if keep then (Hl3.drop ids.length).map (renOb (backN ids H.length)) else [])
    Inv K3 β' H' w2 ∧ Ev K β H w K3 β' H' w2 ∧ ∀ j, (keep = false → j < ids.length) → ∀ b, β2 j = some b → β' (backN ids H.length j) = some b := by
  intro β' H'
  have hm : Hl.length = ids.length := by rw [hHl]; simp
  have hm3 : ids.length ≤ Hl3.length := by rw [← hm]; exact hE3.hl
  have hβ' : ∀ i, i < H.length → β' i = β i := fun i hi => if_pos hi
  have hβn : keep = true → ∀ k, β' (H.length + k) = β2 (ids.length + k) := by
    intro hk k
    show (if H.length + k < H.length then _ else if keep = true then _ else _) = _
    rw [if_neg (by omega), if_pos hk, show H.length + k - H.length = k from by omega]
  have hβ2 : ∀ j i, ids[j]? = some i → β2 j = β i := by
    intro j i hj
    have hjl : j < Hl.length := by rw [hm]; exact (List.getElem?_eq_some_iff.1 hj).1
    rw [hE3.bx j hjl]; simp [locB, hj]
  have hmap : ∀ j, (keep = false → j < ids.length) → ∀ b, β2 j = some b → β' (backN ids H.length j) = some b := by
    intro j hj b hb
    unfold backN
    by_cases h : j < ids.length
    · rw [if_pos h, List.getElem?_eq_getElem h, Option.getD_some, hβ' _ (hlt _ (List.getElem_mem h)), ← hβ2 j _ (List.getElem?_eq_getElem h)]
      exact hb
    · rw [if_neg h]
      have hk : keep = true := by cases keep with | true => rfl | false => exact absurd (hj rfl) h
      rw [hβn hk, show ids.length + (j - ids.length) = j from by omega]; exact hb
  have hlen0 : (setAll H ids ((Hl3.take ids.length).map (renOb (backN ids H.length)))).length = H.length := setAll_length _ _ _
  have holen : ids.length = ((Hl3.take ids.length).map (renOb (backN ids H.length))).length := by simp; omega
  -- the objects
  have objs : ∀ i o, H'[i]? = some o → (i ∉ ids ∧ i < H.length ∧ H[i]? = some o) ∨
      (∃ j o3, Hl3[j]? = some o3 ∧ o = renOb (backN ids H.length) o3 ∧ i = backN ids H.length j ∧ (j < ids.length ∨ keep = true)) := by
    intro i o ho
    by_cases hi : i < H.length
    · rw [List.getElem?_append_left (by rw [hlen0]; exact hi)] at ho
      by_cases hmem : i ∈ ids
      · right
        have hj := idx_get hmem
        have hjl := (List.getElem?_eq_some_iff.1 hj).1
        rw [setAll_at ids _ H hnd holen hlt _ i hj, List.getElem?_map, List.getElem?_take, if_pos hjl] at ho
        obtain ⟨o3, ho3, rfl⟩ := Option.map_eq_some_iff.1 ho
        exact ⟨ids.idxOf i, o3, ho3, rfl, by simp [backN, hjl, hj], .inl hjl⟩
      · left
        rw [setAll_other ids _ H i hmem] at ho
        exact ⟨hmem, hi, ho⟩
    · right
      rw [List.getElem?_append_right (by rw [hlen0]; omega), hlen0] at ho
      cases hk : keep with
      | false => simp [hk] at ho
      | true =>
        rw [hk, if_pos rfl, List.getElem?_map, List.getElem?_drop] at ho
        obtain ⟨o3, ho3, rfl⟩ := Option.map_eq_some_iff.1 ho
        exact ⟨ids.length + (i - H.length), o3, ho3, rfl, by unfold backN; rw [if_neg (by omega)]; omega, .inr rfl⟩
  have hliveOld : ∀ i, i ∉ ids → liveAt H i → ∀ b, β i = some b → ¬ liveB Hl (locB β ids) b := by
    rintro i hi hl b hb ⟨j, ⟨o, ho, hol⟩, hj⟩
    rw [hHl, List.getElem?_map] at ho
    obtain ⟨q, hq, rfl⟩ := Option.map_eq_some_iff.1 ho
    have hqm := List.mem_of_getElem? hq
    rw [List.getElem?_eq_getElem (hlt q hqm), Option.getD_some, renOb_live] at hol
    simp only [locB, hq, Option.bind_some] at hj
    have := hI.inj i q b hl ⟨_, List.getElem?_eq_getElem (hlt q hqm), hol⟩ hb hj
    subst this; exact hi hqm
  have hsizeOld : ∀ i, liveAt H i → ∀ b, β i = some b → b < w.heap.size ∧ K.fixed b = none := by
    rintro i ⟨o, ho, hl⟩ b hb
    obtain ⟨b', q1, q2, q3⟩ := (hI.obj i o ho).lt hl
    rw [hb] at q1; cases q1; exact ⟨q2, q3⟩
  have hlocal : ∀ b, liveB Hl (locB β ids) b → liveB H β b := by
    rintro b ⟨j, ⟨o, ho, hol⟩, hj⟩
    rw [hHl, List.getElem?_map] at ho
    obtain ⟨q, hq, rfl⟩ := Option.map_eq_some_iff.1 ho
    have hqm := List.mem_of_getElem? hq
    rw [List.getElem?_eq_getElem (hlt q hqm), Option.getD_some, renOb_live] at hol
    simp only [locB, hq, Option.bind_some] at hj
    exact ⟨q, ⟨_, List.getElem?_eq_getElem (hlt q hqm), hol⟩, hj⟩
  -- a live object behind the call: an old one, or one of the call's
  have lives : ∀ i, liveAt H' i → (i ∉ ids ∧ liveAt H i) ∨ ∃ j, i = backN ids H.length j ∧ liveAt Hl3 j ∧ (j < ids.length ∨ keep = true) := by
    rintro i ⟨o, ho, hl⟩
    rcases objs i o ho with ⟨h1, _, h3⟩ | ⟨j, o3, h1, rfl, h3, h4⟩
    · exact .inl ⟨h1, o, h3, hl⟩
    · rw [renOb_live] at hl; exact .inr ⟨j, h3, ⟨o3, h1, hl⟩, h4⟩
  have hβback : ∀ j, (j < ids.length ∨ keep = true) → j < Hl3.length → β' (backN ids H.length j) = β2 j := by
    intro j hj hjl
    unfold backN
    by_cases h : j < ids.length
    · rw [if_pos h, List.getElem?_eq_getElem h, Option.getD_some, hβ' _ (hlt _ (List.getElem_mem h)), hβ2 j _ (List.getElem?_eq_getElem h)]
    · rw [if_neg h, hβn (hj.resolve_left h), show ids.length + (j - ids.length) = j from by omega]
  have hInvOld : ∀ i, i < H.length → ∀ x, β' i = some x → β i = some x := fun i hi x hx => by rw [hβ' i hi] at hx; exact hx
  refine ⟨⟨hI3.fixed, hI3.size, ?_, ?_, ?_⟩, ⟨hE3.k, ?_, ?_, ?_, hE3.size, hE3.os, hE3.tape, hE3.output, ?_, ?_, hβ'⟩, hmap⟩
  · intro i b hb
    show i < (_ ++ _ : List Ob).length
    rw [List.length_append, hlen0]
    by_cases hi : i < H.length
    · omega
    · have hb' : (if keep = true then β2 (ids.length + (i - H.length)) else none) = some b := by
        have : β' i = if keep = true then β2 (ids.length + (i - H.length)) else none := if_neg hi
        rw [← this]; exact hb
      cases hk : keep with
      | false => rw [hk] at hb'; cases hb'
      | true =>
        rw [hk, if_pos rfl] at hb'
        have := hI3.dom _ _ hb'
        simp; omega
  · intro i o ho
    rcases objs i o ho with ⟨h1, h2, h3⟩ | ⟨j, o3, h1, rfl, rfl, h4⟩
    · refine (hI.obj i o h3).mono hE3.k (fun q x hq => by rw [hβ' q (hI.dom q x hq)]; exact hq) fun b hl hb hf => ?_
      have hn := hliveOld i h1 ⟨o, h3, hl⟩ b hb
      have hs := (hsizeOld i ⟨o, h3, hl⟩ b hb).1
      refine ⟨?_, hE3.frame b hs hn⟩
      cases hf3 : K3.fixed b with
      | none => rfl
      | some x =>
        rcases hE3.fix b x hf3 with h | h | h
        · rw [hf] at h; cases h
        · exact absurd h hn
        · omega
    · have hj3 := (List.getElem?_eq_some_iff.1 h1).1
      refine (hI3.obj j o3 h1).ren (Kn.le_refl _) ?_ ?_ ?_ ?_
      · intro b _ hb; rw [hβback j h4 hj3]; exact hb
      · intro b _ hb; rw [hβback j h4 hj3]; exact hb
      · intro q hq b hb
        refine hmap q (fun hk => ?_) b hb
        rcases h4 with h4 | h4
        · exact hkeep hk o3 (List.mem_of_getElem? (i := j) (by rw [List.getElem?_take, if_pos h4]; exact h1)) q hq
        · rw [hk] at h4; cases h4
      · intro b _ _ hf; exact ⟨hf, rfl⟩
  · intro i1 i2 b h1 h2 hb1 hb2
    rcases lives i1 h1 with ⟨n1, l1⟩ | ⟨j1, rfl, l1, k1⟩
    · have hb1' := hInvOld i1 (liveAt_lt l1) b hb1
      rcases lives i2 h2 with ⟨n2, l2⟩ | ⟨j2, rfl, l2, k2⟩
      · exact hI.inj i1 i2 b l1 l2 hb1' (hInvOld i2 (liveAt_lt l2) b hb2)
      · rw [hβback j2 k2 (liveAt_lt l2)] at hb2
        have hs := (hsizeOld i1 l1 b hb1').1
        rcases hE3.live b ⟨j2, l2, hb2⟩ with h | h
        · exact absurd h (hliveOld i1 n1 l1 b hb1')
        · omega
    · rw [hβback j1 k1 (liveAt_lt l1)] at hb1
      rcases lives i2 h2 with ⟨n2, l2⟩ | ⟨j2, rfl, l2, k2⟩
      · have hb2' := hInvOld i2 (liveAt_lt l2) b hb2
        have hs := (hsizeOld i2 l2 b hb2').1
        rcases hE3.live b ⟨j1, l1, hb1⟩ with h | h
        · exact absurd h (hliveOld i2 n2 l2 b hb2')
        · omega
      · rw [hβback j2 k2 (liveAt_lt l2)] at hb2
        rw [hI3.inj j1 j2 b l1 l2 hb1 hb2]
  · intro i x hx; rw [hβ' i (hI.dom i x hx)]; exact hx
  · show H.length ≤ (_ ++ _ : List Ob).length
    rw [List.length_append, hlen0]; omega
  · intro x hx hn
    exact hE3.frame x hx fun h => hn (hlocal x h)
  · rintro x ⟨i, hl, hb⟩
    rcases lives i hl with ⟨n1, l1⟩ | ⟨j, rfl, l1, k1⟩
    · exact .inl ⟨i, l1, hInvOld i (liveAt_lt l1) x hb⟩
    · rw [hβback j k1 (liveAt_lt l1)] at hb
      exact (hE3.live x ⟨j, l1, hb⟩).imp (hlocal x) id
  · intro x o hx
    rcases hE3.fix x o hx with h | h | h
    · exact .inl h
    · exact .inr (.inl (hlocal x h))
    · exact .inr (.inr h)
end Fz
namespace Fz
open Go

def CRel (K : Kn) (β : Bi) : CR → Ending → Prop
  | .ret v, .returned c => VR K β v c
  | .panic v, .panicked chain => ∃ c, chain = [{ v := c, recovered := false }] ∧ VR K β v c
  | _, _ => False

theorem LR.nrm {K : Kn} {β : Bi} {l : List V} {cs : List Value} (h : LR K β l cs) : LR K β (l.map Fz.nrm) cs := by
  refine ⟨by simp [h.1], fun i v hv => ?_⟩
  rw [List.getElem?_map] at hv
  obtain ⟨u, hu, rfl⟩ := Option.map_eq_some_iff.1 hv
  exact (h.2 i u hu).nrm

/-- A call in the model: a value at once, a function that is entered, or a round of a loop. -/
def DoesOk (P : Program) (f : FuncId) (cargs : Array Value) (w : World) (R : Ending → World → Prop) : Prop :=
  (∃ c w', (callG f cargs).run P w = .ok (.value c) w' ∧ R (.returned c) w') ∨ (∃ g gs, (callG f cargs).run P w = .ok (.enter g gs) w ∧ Calls P g gs w R) ∨
  ∃ l fn tmps assign body, (callG f cargs).run P w = .ok (.round l fn tmps assign body) w ∧ RoundIn Fence.wide 0 P l fn tmps assign body w R

theorem DoesOk.mono {P : Program} {f : FuncId} {cargs : Array Value} {w : World} {R R' : Ending → World → Prop} (h : DoesOk P f cargs w R) (hr : ∀ e w', R e w' → R' e w') : DoesOk P f cargs w R' := by
  rcases h with ⟨c, w', h1, h2⟩ | ⟨g, gs, h1, h2⟩ | ⟨l, fn, tmps, assign, body, h1, h2⟩
  · exact .inl ⟨c, w', h1, hr _ _ h2⟩
  · exact .inr (.inl ⟨g, gs, h1, h2.mono hr⟩)
  · exact .inr (.inr ⟨l, fn, tmps, assign, body, h1, h2.mono hr⟩)

def CallPost (K : Kn) (β : Bi) (H : List Ob) (w : World) (r : CR) (H' : List Ob) : Ending → World → Prop :=
  fun e w' => ∃ K' β', CRel K' β' r e ∧ Inv K' β' H' w' ∧ Ev K β H w K' β' H' w'

/-- Loops' records, as the code has them. -/
abbrev LpT := Nat → Loop → Prop
abbrev DoesT := FuncId → Array Value → World → (Ending → World → Prop) → Prop
def CallOkG (L : LpT) (D : DoesT) (call : CallT) : Prop :=
  ∀ f args H r H', call f args H = some (r, H') → ∀ K β w (cargs : Array Value), K.lp = L → Inv K β H w → LR K β args cargs.toList → D f cargs w (CallPost K β H w r H')
abbrev CallOk (P : Program) (L : LpT) (call : CallT) : Prop := CallOkG L (DoesOk P) call

theorem CRel.mono {K K' : Kn} {β β' : Bi} {r : CR} {e : Ending} (h : CRel K β r e) (hK : K.le K') (hβ : ∀ i b, β i = some b → β' i = some b) : CRel K' β' r e := by
  cases r <;> cases e <;> first | exact h.elim | exact VR.mono hK hβ h | (obtain ⟨c, h1, h2⟩ := h; exact ⟨c, h1, h2.mono hK hβ⟩)

theorem settleR_sound {K : Kn} {β : Bi} {H : List Ob} {w : World} {m : Nat} {r r' : CR} {H' : List Ob} {e : Ending} (h : settleR m r H = some (r', H')) (hI : Inv K β H w) (hr : CRel K β r e) :
    ∃ K', Inv K' β H' w ∧ Ev K β H w K' β H' w ∧ CRel K' β r' e := by
  unfold settleR at h
  split at h
  · cases h
  · rename_i H1 hf
    obtain ⟨K1, i1, e1⟩ := freezeObs_sound hI (H.take m) 0 H H1 hf (fun j o hj => by
      rw [Nat.zero_add]
      by_cases hjm : j < m
      · rwa [List.getElem?_take, if_pos hjm] at hj
      · rw [List.getElem?_take, if_neg hjm] at hj; cases hj) K (Kn.le_refl _) hI
    cases r with
    | ret v =>
      simp only [Option.map_eq_some_iff] at h
      obtain ⟨⟨v', H2⟩, hv, h⟩ := h
      cases h
      cases e with
      | returned c =>
        obtain ⟨K2, i2, e2, r2⟩ := freezeV_sound depthF v H1 v' _ hv K1 c i1 (VR.mono e1.k (fun _ _ h => h) hr)
        exact ⟨K2, i2, e1.trans e2, VR.nrm r2⟩
      | _ => exact hr.elim
    | panic v =>
      cases h
      exact ⟨K1, i1, e1, hr.mono e1.k fun _ _ h => h⟩

theorem refs_crV {K K' : Kn} {β β' : Bi} {g : Nat → Nat} {r : CR} {e : Ending} (h : CRel K β r e) (hK : K.le K') (hg : ∀ j ∈ refs (crV r), ∀ b, β j = some b → β' (g j) = some b) : CRel K' β' (renR g r) e := by
  cases r <;> cases e <;> first
    | exact h.elim
    | exact VR.ren hK h hg
    | (obtain ⟨c, h1, h2⟩ := h; exact ⟨c, h1, h2.ren hK hg⟩)

theorem doCall_soundG {L : LpT} {D : DoesT} (hD : ∀ f cargs w R R', D f cargs w R → (∀ e w', R e w' → R' e w') → D f cargs w R') {call : CallT} (hcall : CallOkG L D call) {inl : FuncId → Bool} {f : FuncId} {args : List V} {H H' : List Ob} {r : CR} (h : doCall call inl f args H = some (r, H'))
    {K : Kn} {β : Bi} {w : World} {cargs : Array Value} (hL : K.lp = L) (hI : Inv K β H w) (ha : LR K β args cargs.toList) : D f cargs w (CallPost K β H w r H') := by
  unfold doCall at h
  split at h
  · cases h
  · rename_i args1 H1 hfr
    obtain ⟨K1, i1, e1, a1⟩ : ∃ K1, Inv K1 β H1 w ∧ Ev K β H w K1 β H1 w ∧ LR K1 β args1 cargs.toList := by
      split at hfr
      · cases hfr; exact ⟨K, hI, .refl K β H w, ha⟩
      · obtain ⟨q, hq, h⟩ := Option.map_eq_some_iff.1 hfr
        cases h
        obtain ⟨K1, i1, e1, a1⟩ := mapS_sound (f := freezeV depthF) (β := β) (w := w) (freezeV_sound depthF) _ _ _ _ hq K _ hI ha
        exact ⟨K1, i1, e1, a1.nrm⟩
    split at h
    · cases h
    · rename_i ids hre
      obtain ⟨nd, lt, cl, _, ins⟩ := reach_sound 1000 _ _ _ hre List.nodup_nil (by simp) (by simp)
      have iL := local_inv i1 nd lt cl
      have aL : LR K1 (locB β ids) (renL (fun i => ids.idxOf i) args1) cargs.toList := a1.ren (Kn.le_refl _) fun i hi b hb => by
        simp [locB, idx_get (ins i hi), hb]
      simp only [] at h
      split at h
      · cases h
      · rename_i r2 Hl hc
        refine hD _ _ _ _ _ (hcall f _ _ r2 Hl hc K1 _ w cargs (e1.k.2.2.trans hL) iL aL) ?_
        rintro e w2 ⟨K2, β2, c2, i2, e2⟩
        split at h
        · cases h
        · rename_i r3 Hl3 hse
          obtain ⟨K3, i3, e3, c3⟩ : ∃ K3, Inv K3 β2 Hl3 w2 ∧ Ev K2 β2 Hl w2 K3 β2 Hl3 w2 ∧ CRel K3 β2 r3 e := by
            split at hse
            · cases hse; exact ⟨K2, i2, .refl K2 β2 _ w2, c2⟩
            · exact settleR_sound hse i2 c2
          split at h
          · rename_i hlen
            split at h
            · cases h
              obtain ⟨q1, q2, q3⟩ := back_inv i1 nd lt rfl i3 (e2.trans e3) true (fun h => by cases h)
              refine ⟨K3, _, refs_crV c3 (Kn.le_refl _) fun j _ b hb => q3 j (fun h => by cases h) b hb, ?_, ?_⟩
              · exact q1
              · exact e1.trans q2
            · rename_i hany
              cases h
              have hno : ∀ j ∈ refs (crV r3) ++ (Hl3.take ids.length).flatMap refsOb, j < ids.length := by
                intro j hj
                have := List.any_eq_false.1 (Bool.eq_false_iff.2 hany) j hj
                simpa using this
              obtain ⟨q1, q2, q3⟩ := back_inv i1 nd lt rfl i3 (e2.trans e3) false (fun _ o ho j hj => hno j (List.mem_append_right _ (List.mem_flatMap.2 ⟨o, ho, hj⟩)))
              refine ⟨K3, _, refs_crV c3 (Kn.le_refl _) fun j hj b hb => q3 j (fun _ => hno j (List.mem_append_left _ hj)) b hb, ?_, ?_⟩
              · rw [if_neg (by simp), List.append_nil] at q1; exact q1
              · rw [if_neg (by simp), List.append_nil] at q2; exact e1.trans q2
          · cases h
theorem doCall_sound {P : Program} {L : LpT} {call : CallT} (hcall : CallOk P L call) {inl : FuncId → Bool} {f : FuncId} {args : List V} {H H' : List Ob} {r : CR} (h : doCall call inl f args H = some (r, H'))
    {K : Kn} {β : Bi} {w : World} {cargs : Array Value} (hL : K.lp = L) (hI : Inv K β H w) (ha : LR K β args cargs.toList) : DoesOk P f cargs w (CallPost K β H w r H') :=
  doCall_soundG (D := DoesOk P) (fun _ _ _ _ _ h hr => DoesOk.mono h hr) hcall h hL hI ha
end Fz
namespace Fz
open Go

/-- Any function, in a round or not. -/
abbrev Fr (ro : Option Nat) : Fence := { Fence.wide with round := ro }
theorem callsIn_fr {ro : Option Nat} {n : Nat} {P : Program} {f : FuncId} {args : Array Value} {w : World} {R : Ending → World → Prop} (h : Calls P f args w R) : CallsIn (Fr ro) n P f args w R :=
  (callsIn_wide (n := n)).2 h
theorem roundIn_fr {ro : Option Nat} {n : Nat} {P : Program} {l : Nat} {f : FuncId} {tmps : Array Value} {assign body : Code} {w : World} {R : Ending → World → Prop} (h : RoundIn Fence.wide 0 P l f tmps assign body w R) : RoundIn (Fr ro) n P l f tmps assign body w R :=
  ⟨h.1, fun c cs _ => h.2 c cs (fun _ h => by cases h)⟩
theorem cOp_nodefer {P : Program} {o : Oper} {op : AOp} (h : cOp P o = some op) : ∀ c, o.op ≠ .defer c := by
  intro c hc
  unfold cOp at h
  rw [hc] at h
  cases h
theorem semAt_op {P : Program} {o : Oper} {op : AOp} (h : cOp P o = some op) (ro : Option Nat) (ρ : Operand → Value) : o.semAt ro ρ = execOp ρ o := Oper.semAt_eq ro ρ o (cOp_nodefer h)

theorem semAt_opL {P : Program} {o : Oper} {op : AOp} (h : OpRel P o op) (ro : Option Nat) (ρ : Operand → Value) : o.semAt ro ρ = execOp ρ o := by
  rcases h with h | ⟨_, _, _, _, _, _, _, _, h, _⟩ <;> exact semAt_op h ro ρ

def XR (K : Kn) (β : Bi) : X → Exit → Prop
  | .normal, .normal => True
  | .exit i, .exit j => i = j
  | .ret, .ret => True
  | .mayRet, .ret => True
  | .mayRet, .normal => True
  | .panic v, .panic chain => ∃ c, chain = [{ v := c, recovered := false }] ∧ VR K β v c
  | _, _ => False

def Post (K : Kn) (β : Bi) (H : List Ob) (w : World) (nt : Nat) (x : X) (e' : Env) (H' : List Ob) (ds : List Deferred) : Exit → Act → World → Prop :=
  fun ex a' w' => ∃ K' β', XR K' β' x ex ∧ ER K' β' nt e' a' ∧ Inv K' β' H' w' ∧ Ev K β H w K' β' H' w' ∧ a'.defers = ds

theorem vr_uv (K : Kn) (β : Bi) : VR K β uv Go.undef := .tuple rfl fun i v h => by simp at h

theorem put_defers (a : Act) (d : Option Tmp) (v : Value) : (a.put d v).defers = a.defers := by cases d <;> rfl

/-- One operation, whatever comes behind it. -/
theorem op_wp {ro : Option Nat} {bud : Nat} {P : Program} {L : LpT} {call : CallT} (hcall : CallOk P L call) {inl : FuncId → Bool} {nt : Nat} {o : Oper} {op : AOp} {e : Env} {H : List Ob} {r : OR} (hc : OpRel P o op) (hr : evOp (evO e) H op = some r)
    {K : Kn} {β : Bi} {a : Act} {w : World} (hL : K.lp = L) (hI : Inv K β H w) (hE : ER K β nt e a) {next : Act → World → Prop} {Q : Exit → Act → World → Prop}
    (hv : ∀ v H', (r = .val v H' ∨ (r = .skip H' ∧ v = uv) ∨ ∃ f args, r = .call f args ∧ doCall call inl f args H = some (.ret v, H')) → ∀ c K' β' w', VR K' β' v c → Inv K' β' H' w' → Ev K β H w K' β' H' w' → next (a.put o.dst c) w')
    (hp : ∀ v H', (r = .panic v H' ∨ ∃ f args, r = .call f args ∧ doCall call inl f args H = some (.panic v, H')) → ∀ c K' β' w', VR K' β' v c → Inv K' β' H' w' → Ev K β H w K' β' H' w' → Q (.panic [{ v := c, recovered := false }]) a w')
    (hs : ∀ f args, r = .call f args → ∃ x, doCall call inl f args H = some x) : o.wpIn (Fr ro) bud P a w next Q := by
  have h := evOp_soundL (P := P) hI hE hc hr
  refine ⟨fun _ _ => trivial, ?_⟩
  rw [semAt_opL hc]
  cases r with
  | val v H' =>
    obtain ⟨c, w', K', β', h1, h2, h3, h4⟩ := h
    rw [h1, Oper.uponIn_value]
    exact hv v H' (.inl rfl) c K' β' w' h2 h3 h4
  | skip H' =>
    obtain ⟨w', K', β', h1, h3, h4⟩ := h
    rw [h1, Oper.uponIn_skip]
    exact hv uv H' (.inr (.inl ⟨rfl, rfl⟩)) _ K' β' w' (vr_uv K' β') h3 h4
  | panic v H' =>
    obtain ⟨c, w', K', β', h1, h2, h3, h4⟩ := h
    rw [h1, Oper.uponIn_panic]
    exact hp v H' (.inl rfl) c K' β' w' h2 h3 h4
  | call f args =>
    obtain ⟨cargs, h1, h2⟩ := h
    obtain ⟨⟨r', H'⟩, hd⟩ := hs f args rfl
    rcases doCall_sound hcall hd hL hI h2 with ⟨c, w', g1, K', β', g2, g3, g4⟩ | ⟨g, gs, g1, g2⟩ | ⟨l, fn, tmps, asg, bo, g1, g2⟩
    · rw [h1, g1, Oper.uponIn_value]
      cases r' with
      | ret v => exact hv v H' (.inr (.inr ⟨f, args, rfl, hd⟩)) c K' β' w' g2 g3 g4
      | panic v => exact g2.elim
    · rw [h1, g1, Oper.uponIn_enter]
      refine ⟨fun h => Bool.noConfusion h, callsIn_fr (g2.mono ?_)⟩
      rintro en w' ⟨K', β', q2, q3, q4⟩
      cases en with
      | returned c =>
        cases r' with
        | ret v => exact hv v H' (.inr (.inr ⟨f, args, rfl, hd⟩)) c K' β' w' q2 q3 q4
        | panic v => exact q2.elim
      | panicked chain =>
        cases r' with
        | ret v => exact q2.elim
        | panic v =>
          obtain ⟨c, rfl, q2⟩ := q2
          exact hp v H' (.inr ⟨f, args, rfl, hd⟩) c K' β' w' q2 q3 q4
      | outgrown => cases r' <;> exact q2.elim
    · rw [h1, g1, Oper.uponIn_round]
      refine ⟨fun h => Bool.noConfusion h, roundIn_fr (g2.mono ?_)⟩
      rintro en w' ⟨K', β', q2, q3, q4⟩
      cases en with
      | returned c =>
        cases r' with
        | ret v => exact hv v H' (.inr (.inr ⟨f, args, rfl, hd⟩)) c K' β' w' q2 q3 q4
        | panic v => exact q2.elim
      | panicked chain =>
        cases r' with
        | ret v => exact q2.elim
        | panic v =>
          obtain ⟨c, rfl, q2⟩ := q2
          exact hp v H' (.inr ⟨f, args, rfl, hd⟩) c K' β' w' q2 q3 q4
      | outgrown => cases r' <;> exact q2.elim

/-- A guard, in the model and here. -/
theorem guard_sound {P : Program} {ops : Array Oper} {o : Oper} {ao : AO} (hc : ∃ ao', cOper P ops o = some ao' ∧ ao'.guard = ao.guard) {K : Kn} {β : Bi} {nt : Nat} {e : Env} {a : Act} (hE : ER K β nt e a) :
    (ao.guard = none → Region.wanted o (yielded ops a.tmps) = true) ∧
    (∀ t want, ao.guard = some (t, want) → (∀ b, e t = .bool b → Region.wanted o (yielded ops a.tmps) = (b == want)) ∧ (e t = .tuple [] → Region.wanted o (yielded ops a.tmps) = false)) := by
  obtain ⟨ao', hc, he⟩ := hc
  rw [← he]
  clear he
  unfold cOper at hc
  split at hc <;> cases hc
  rename_i op g hop hg
  cases hgo : o.guard with
  | none =>
    rw [hgo] at hg
    simp [cGuard] at hg; subst hg
    refine ⟨fun _ => by simp [Region.wanted, hgo], fun t want h => by cases h⟩
  | some jw =>
    obtain ⟨j, want⟩ := jw
    rw [hgo] at hg
    simp only [cGuard] at hg
    split at hg <;> cases hg
    rename_i d hd
    refine ⟨fun h => (by cases h), fun t want' h => ?_⟩
    cases h
    have hv := hE.val d
    refine ⟨fun b hb => ?_, fun hb => ?_⟩
    · rw [hb] at hv
      have : a.tmps[d]? = some (.bool b) := by
        cases hq : a.tmps[d]? with
        | none => rw [Array.getD_eq_getD_getElem?, hq] at hv; cases hv
        | some c => rw [Array.getD_eq_getD_getElem?, hq] at hv; cases hv; rfl
      have hy : yielded ops a.tmps j = some b := by simp only [yielded, hd, Option.bind_some, this]
      simp [Region.wanted, hgo, hy]
    · rw [hb] at hv
      have : yielded ops a.tmps j = none := by
        simp only [yielded, hd, Option.bind_some]
        cases hq : a.tmps[d]? with
        | none => rfl
        | some c =>
          rw [Array.getD_eq_getD_getElem?, hq] at hv
          cases hv; rfl
      simp [Region.wanted, hgo, this]

theorem cOper_op {P : Program} {ops : Array Oper} {o : Oper} {ao : AO} (hc : cOper P ops o = some ao) : cOp P o = some ao.op ∧ ao.dst = o.dst := by
  unfold cOper at hc
  split at hc <;> cases hc
  exact ⟨‹_›, rfl⟩

theorem cOperL_op {P : Program} {ops : Array Oper} {o : Oper} {ao : AO} (hc : cOperL P ops o = some ao) : OpRel P o ao.op ∧ ao.dst = o.dst ∧ ∃ ao', cOper P ops o = some ao' ∧ ao'.guard = ao.guard ∧ ao'.after = ao.after := by
  obtain ⟨a, ha, rfl⟩ := Option.map_eq_some_iff.1 hc
  obtain ⟨h1, h2⟩ := cOper_op ha
  unfold lstO
  split
  · rename_i h3 h4
    exact ⟨.inr ⟨_, _, _, _, _, _, _, h3, by rw [h1, h4], rfl⟩, h2, a, ha, rfl, rfl⟩
  · exact ⟨.inl h1, h2, a, ha, rfl, rfl⟩

/-- An operation, as it is compiled; its notes may be gone. -/
def Made (P : Program) (ops : Array Oper) (o : Oper) (ao : AO) : Prop := cOp P o = some ao.op ∧ ao.dst = o.dst ∧ ∃ ao', cOper P ops o = some ao' ∧ ao'.guard = ao.guard
theorem made_bare {P : Program} {ops : Array Oper} {o : Oper} {ao : AO} (hc : cOper P ops o = some ao) : Made P ops o ao.bare := ⟨(cOper_op hc).1, (cOper_op hc).2, ao, hc, rfl⟩

/-- What comes behind a list of operations: others, or an end. -/
def TlQ (ro : Option Nat) (bud : Nat) (P : Program) (ops : Array Oper) (Q : Exit → Act → World → Prop) (tl : List Nat) : Exit → Act → World → Prop
  | .normal, a, w => wpOpsIn (Fr ro) bud P ops Q tl a w
  | e, a, w => Q e a w

theorem runOps_sound {ro : Option Nat} {bud : Nat} {P : Program} {L : LpT} {call : CallT} (hcall : CallOk P L call) {inl : FuncId → Bool} {ops : Array Oper} {nt : Nat} {x : X} {e' : Env} {H' : List Ob} {Q : Exit → Act → World → Prop} :
    ∀ (l : List AO) (i : Nat), (∀ (j : Nat) (ao : AO), l[j]? = some ao → ∃ o, ops[i + j]? = some o ∧ Made P ops o ao) → (∀ ao ∈ l, ∀ t, ao.dst = some t → t < nt) →
    ∀ (e : Env) (H : List Ob), runOps call inl l e H = some (x, e', H') → ∀ (K : Kn) (β : Bi) (a : Act) (w : World), K.lp = L → Inv K β H w → ER K β nt e a →
      ∀ (tl : List Nat), (∀ ex a' w', Post K β H w nt x e' H' a.defers ex a' w' → TlQ ro bud P ops Q tl ex a' w') → wpOpsIn (Fr ro) bud P ops Q (List.range' i l.length ++ tl) a w := by
  intro l
  induction l with
  | nil =>
    intro i _ _ e H h K β a w hL hI hE tl hQ
    simp [runOps] at h
    obtain ⟨rfl, rfl, rfl⟩ := h
    exact hQ .normal _ _ ⟨K, β, trivial, hE, hI, .refl K β H w, rfl⟩
  | cons ao l ih =>
    intro i hops hdst e H h K β a w hL hI hE tl hQ
    obtain ⟨o, ho, hco⟩ := hops 0 ao (by simp)
    rw [Nat.add_zero] at ho
    obtain ⟨hop, hd, hgd⟩ := hco
    have hops' : ∀ (j : Nat) (ao' : AO), l[j]? = some ao' → ∃ o, ops[i + 1 + j]? = some o ∧ Made P ops o ao' := fun j ao' hj => by
      have := hops (j + 1) ao' (by simpa using hj)
      rwa [show i + 1 + j = i + (j + 1) from by omega]
    have hdst' : ∀ ao' ∈ l, ∀ t, ao'.dst = some t → t < nt := fun ao' h' => hdst ao' (by simp [h'])
    have hdo : ∀ t, o.dst = some t → t < nt := by rw [← hd]; exact hdst ao (by simp)
    have hrange : List.range' i (ao :: l).length = i :: List.range' (i + 1) l.length := by simp [List.range'_succ]
    rw [hrange, List.cons_append, wpOpsIn_cons]
    unfold wpOpIn
    simp only [ho]
    -- behind a value
    have step : ∀ (v : V) (H1 : List Ob), runOps call inl l (putE e ao.dst v) H1 = some (x, e', H') → ∀ c K1 β1 w1, VR K1 β1 v c → Inv K1 β1 H1 w1 → Ev K β H w K1 β1 H1 w1 →
        wpOpsIn (Fr ro) bud P ops Q (List.range' (i + 1) l.length ++ tl) (a.put o.dst c) w1 := by
      intro v H1 hrun c K1 β1 w1 hv i1 e1
      refine ih (i + 1) hops' hdst' _ _ hrun K1 β1 _ w1 (e1.k.2.2.trans hL) i1 ?_ tl ?_
      · rw [hd]; exact (hE.mono e1.k e1.b).put hdo hv
      · rintro ex a' w' ⟨K2, β2, q1, q2, q3, q4, q5⟩
        exact hQ _ _ _ ⟨K2, β2, q1, q2, q3, e1.trans q4, by rw [q5, put_defers]⟩
    have skip : runOps call inl l (putE e ao.dst uv) H = some (x, e', H') → wpOpsIn (Fr ro) bud P ops Q (List.range' (i + 1) l.length ++ tl) (a.put o.dst Go.undef) w :=
      fun hrun => step uv H hrun _ K β w (vr_uv K β) hI (.refl K β H w)
    -- the operation carried out
    have go : (match evOp (evO e) H ao.op with
      | none => none
      | some (.val v H') => runOps call inl l (putE e ao.dst v) H'
      | some (.skip H') => runOps call inl l (putE e ao.dst uv) H'
      | some (.panic v H') => some (.panic v, e, H')
      | some (.call f args) => match doCall call inl f args H with
        | none => none
        | some (.ret v, H') => runOps call inl l (putE e ao.dst v) H'
        | some (.panic v, H') => some (.panic v, e, H')) = some (x, e', H') →
        o.wpIn (Fr ro) bud P a w (wpOpsIn (Fr ro) bud P ops Q (List.range' (i + 1) l.length ++ tl)) Q := by
      intro hgo
      cases hr : evOp (evO e) H ao.op with
      | none => rw [hr] at hgo; cases hgo
      | some r =>
        rw [hr] at hgo
        refine op_wp hcall (inl := inl) (.inl hop) hr hL hI hE ?_ ?_ ?_
        · rintro v H1 (rfl | ⟨rfl, rfl⟩ | ⟨f, args, rfl, hdc⟩) c K1 β1 w1 hv i1 e1
          · exact step v H1 hgo c K1 β1 w1 hv i1 e1
          · exact step uv H1 hgo c K1 β1 w1 hv i1 e1
          · simp only [hdc] at hgo
            exact step v H1 hgo c K1 β1 w1 hv i1 e1
        · rintro v H1 (rfl | ⟨f, args, rfl, hdc⟩) c K1 β1 w1 hv i1 e1
          · cases hgo
            exact hQ (.panic _) _ _ ⟨K1, β1, ⟨c, rfl, hv⟩, hE.mono e1.k e1.b, i1, e1, rfl⟩
          · simp only [hdc] at hgo
            cases hgo
            exact hQ (.panic _) _ _ ⟨K1, β1, ⟨c, rfl, hv⟩, hE.mono e1.k e1.b, i1, e1, rfl⟩
        · rintro f args rfl
          cases hdc : doCall call inl f args H with
          | none => simp only [hdc] at hgo; cases hgo
          | some y => exact ⟨y, rfl⟩
    obtain ⟨g1, g2⟩ := guard_sound hgd hE
    simp only [runOps] at h
    cases hg : ao.guard with
    | none =>
      rw [hg] at h
      rw [if_pos (g1 hg)]
      exact go h
    | some tw =>
      obtain ⟨t, want⟩ := tw
      rw [hg] at h
      obtain ⟨g3, g4⟩ := g2 t want hg
      simp only [] at h
      split at h
      · rename_i b hb
        split at h
        · rename_i hbw
          rw [g3 b hb, if_pos (by simpa using hbw)]
          exact go h
        · rename_i hbw
          rw [g3 b hb, if_neg (by simpa using hbw)]
          exact ⟨fun _ _ => trivial, skip h⟩
      · rename_i hb
        rw [g4 hb, if_neg (by simp)]
        exact ⟨fun _ _ => trivial, skip h⟩
      · cases h
end Fz
namespace Fz
open Go

theorem veq_refl_aux : (∀ v : V, veq v v = true) ∧ ∀ l : List V, veqL l l = true := by
  constructor
  · intro v
    induction v using V.rec (motive_2 := fun l => veqL l l = true) with
    | nil => rfl
    | cons a l h1 h2 => simp [veqL, h1, h2]
    | _ => simp_all [veq]
  · intro l
    induction l using V.rec_1 (motive_1 := fun v => veq v v = true) with
    | nil => rfl
    | cons a l h1 h2 => simp [veqL, h1, h2]
    | _ => simp_all [veq]
theorem veq_refl (v : V) : veq v v = true := veq_refl_aux.1 v

mutual
theorem veq_eq : ∀ (a b : V), veq a b = true → a = b
  | .bool a, b, h => by cases b <;> simp [veq] at h <;> simp_all
  | .int j a, b, h => by cases b <;> simp [veq] at h <;> simp_all
  | .float j a, b, h => by cases b <;> simp [veq] at h <;> simp_all
  | .fnan j, b, h => by cases b <;> simp [veq] at h <;> simp_all
  | .str a, b, h => by
    cases b <;> simp [veq] at h
    exact congrArg V.str (by cases a; simp_all)
  | .nilp, b, h => by cases b <;> simp [veq] at h <;> simp_all
  | .ptr i a, b, h => by cases b <;> simp [veq] at h <;> simp_all
  | .ref a, b, h => by
    cases b <;> simp [veq] at h
    rw [veqL_eq a _ h]
  | .list a c, b, h => by
    cases b <;> simp [veq] at h
    rw [veqL_eq a _ h.2, h.1]
  | .own a b c d, e, h => by cases e <;> simp [veq] at h <;> simp_all
  | .agg a, b, h => by
    cases b <;> simp [veq] at h
    rw [veqL_eq a _ h]
  | .tuple a, b, h => by
    cases b <;> simp [veq] at h
    rw [veqL_eq a _ h]
  | .fn f a b, c, h => by
    cases c <;> simp [veq] at h
    rw [veqL_eq a _ h.1.2, veqL_eq b _ h.2, h.1.1]
  | .nilfn, b, h => by cases b <;> simp [veq] at h <;> simp_all
  | .iface t v, b, h => by
    cases b <;> simp [veq] at h
    rw [veq_eq v _ h.2, h.1]
  | .niliface, b, h => by cases b <;> simp [veq] at h <;> simp_all
  | .nilmap, b, h => by cases b <;> simp [veq] at h <;> simp_all
  | .mref i, b, h => by cases b <;> simp [veq] at h <;> simp_all
  | .map a b, c, h => by
    cases c <;> simp [veq] at h
    rw [veqL_eq a _ h.1, veqL_eq b _ h.2]
  | .any, b, h => by cases b <;> simp [veq] at h <;> simp_all
  | .yld i, b, h => by cases b <;> simp [veq] at h <;> simp_all
  | .anyb, b, h => by cases b <;> simp [veq] at h <;> simp_all
theorem veqL_eq : ∀ (a b : List V), veqL a b = true → a = b
  | [], b, h => by cases b <;> simp [veqL] at h <;> simp_all
  | x :: a, b, h => by
    cases b <;> simp [veqL] at h
    rw [veq_eq x _ h.1, veqL_eq a _ h.2]
end

mutual
theorem ground_refs : ∀ (v : V), ground v = true → refs v = []
  | .bool _, _ | .int _ _, _ | .float _ _, _ | .fnan _, _ | .str _, _ | .nilp, _ | .nilfn, _ | .niliface, _ | .nilmap, _ | .anyb, _ => rfl
  | .ptr _ _, h | .own _ _ _ _, h | .mref _, h | .any, h | .yld _, h => by simp [ground] at h
  | .ref l, h => by simp only [refs]; exact groundL_refs l (by simpa [ground] using h)
  | .list l _, h => by simp only [refs]; exact groundL_refs l (by simpa [ground] using h)
  | .agg l, h => by simp only [refs]; exact groundL_refs l (by simpa [ground] using h)
  | .tuple l, h => by simp only [refs]; exact groundL_refs l (by simpa [ground] using h)
  | .fn _ a b, h => by
    simp [ground] at h
    simp only [refs, groundL_refs a h.1, groundL_refs b h.2, List.append_nil]
  | .iface _ v, h => by simp only [refs]; exact ground_refs v (by simpa [ground] using h)
  | .map a b, h => by
    simp [ground] at h
    simp only [refs, groundL_refs a h.1, groundL_refs b h.2, List.append_nil]
theorem groundL_refs : ∀ (l : List V), groundL l = true → refsL l = []
  | [], _ => rfl
  | v :: l, h => by
    simp [groundL] at h
    simp only [refsL, ground_refs v h.1, groundL_refs l h.2, List.append_nil]
end

def noB : Bi := fun _ => none

theorem ground_VR {K K' : Kn} {β β' : Bi} (hK : K.le K') {v : V} {c : Value} (h : VR K β v c) (hg : ground v = true) : VR K' β' v c := by
  have := h.ren (g := fun i => i) (β' := β') hK (by rw [ground_refs v hg]; simp)
  rwa [ren_id] at this
theorem ground_LR {K K' : Kn} {β β' : Bi} (hK : K.le K') {l : List V} {cs : List Value} (h : LR K β l cs) (hg : groundL l = true) : LR K' β' l cs := by
  rw [groundL_eq] at hg
  exact ⟨h.1, fun i v hv => ground_VR hK (h.2 i v hv) (List.all_eq_true.1 hg v (List.mem_of_getElem? hv))⟩

mutual
theorem listFree_VR {K K' : Kn} {β β' : Bi} : ∀ (v : V) (c : Value), listFree v = true → VR K β v c → VR K' β' v c
  | .bool _, c, _, h => by cases h; exact .bool _
  | .int _ _, c, _, h => by cases h; exact .int _ _
  | .float _ _, c, _, h => by cases h; exact .float _ _
  | .fnan _, c, _, h => by cases h; exact .fnan _ _ ‹_›
  | .str _, c, _, h => by cases h; exact .str _
  | .nilp, c, _, h => by cases h; exact .nilp
  | .nilfn, c, _, h => by cases h; exact .nilfn
  | .niliface, c, _, h => by cases h; exact .niliface
  | .nilmap, c, _, h => by cases h; exact .nilmap
  | .list [] b, c, _, h => by
    cases h with
    | lnil hc => exact .lnil hc
    | list hb hu hn hl hc hcl h => exact .lnil hcl
  | .list (_ :: _) b, c, hf, h => by simp [listFree] at hf
  | .agg l, c, hf, h => by
    cases h with
    | agg hl h => exact .agg hl fun i v hv => listFreeL_VR l (by simpa [listFree] using hf) i v hv _ (h i v hv)
  | .tuple l, c, hf, h => by
    cases h with
    | tuple hl h => exact .tuple hl fun i v hv => listFreeL_VR l (by simpa [listFree] using hf) i v hv _ (h i v hv)
  | .ptr _ _, c, hf, _ | .own _ _ _ _, c, hf, _ | .mref _, c, hf, _ | .any, c, hf, _ | .ref _, c, hf, _ | .fn _ _ _, c, hf, _ | .iface _ _, c, hf, _ | .map _ _, c, hf, _ | .yld _, c, hf, _ | .anyb, c, hf, _ => by simp [listFree] at hf
theorem listFreeL_VR {K K' : Kn} {β β' : Bi} : ∀ (l : List V), listFreeL l = true → ∀ (i : Nat) (v : V), l[i]? = some v → ∀ (c : Value), VR K β v c → VR K' β' v c
  | [], _, i, v, hv, _, _ => by simp at hv
  | u :: l, hf, 0, v, hv, c, h => by
    simp [listFreeL] at hf
    simp at hv; subst hv
    exact listFree_VR u c hf.1 h
  | u :: l, hf, i + 1, v, hv, c, h => by
    simp [listFreeL] at hf
    exact listFreeL_VR l hf.2 i v (by simpa using hv) c h
end

/-- All that lies now, held to stay. -/
def allK (L : LpT) (w : World) : Kn := ⟨fun b => w.heap[b]?, fun b => match w.heap[b]? with | some (.cells cs _ _) => some cs.size | _ => none, L⟩
theorem allK_le {K : Kn} {β : Bi} {H : List Ob} {w : World} (hI : Inv K β H w) : K.le (allK K.lp w) := by
  refine ⟨fun b o h => hI.fixed b o h, fun b n h => ?_, rfl⟩
  obtain ⟨cs, e, fr, h1, h2⟩ := hI.size b n h
  show (match w.heap[b]? with | some (.cells cs _ _) => some cs.size | _ => none) = some n
  rw [h1]; simp [h2]
theorem allK_inv (L : LpT) (w : World) : Inv (allK L w) noB [] w := by
  refine ⟨fun b o h => h, fun b z h => ?_, fun id b h => (by cases h), fun id o h => (by simp at h), fun i j b h => ?_⟩
  · have h : (match w.heap[b]? with | some (.cells cs _ _) => some cs.size | _ => none) = some z := h
    split at h
    · rename_i cs e fr hh; cases h; exact ⟨cs, e, fr, hh, rfl⟩
    · cases h
  · obtain ⟨o, ho, _⟩ := h; simp at ho
theorem emp_inv {K : Kn} {β : Bi} {H : List Ob} {w : World} (hI : Inv K β H w) : Inv K noB [] w :=
  ⟨hI.fixed, hI.size, fun id b h => (by cases h), fun id o h => (by simp at h), fun i j b h => (by obtain ⟨o, ho, _⟩ := h; simp at ho)⟩

theorem no_live (β : Bi) (b : Nat) : ¬ liveB [] β b := by rintro ⟨i, ⟨o, ho, _⟩, _⟩; simp at ho

/-- Behind a call that saw nothing of the heap. -/
theorem quiet_inv {K K' : Kn} {β β' : Bi} {H : List Ob} {w w' : World} (hI : Inv K β H w) (hI' : Inv K' β' [] w') (hE : Ev K noB [] w K' β' [] w') : Inv K' β H w' ∧ Ev K β H w K' β H w' := by
  have hfr : ∀ b, b < w.heap.size → w'.heap[b]? = w.heap[b]? := fun b hb => hE.frame b hb (no_live _ _)
  have hfix : ∀ b o, K'.fixed b = some o → K.fixed b = some o ∨ w.heap.size ≤ b := fun b o h => by
    rcases hE.fix b o h with h | h | h
    · exact .inl h
    · exact absurd h (no_live _ _)
    · exact .inr h
  refine ⟨⟨hI'.fixed, hI'.size, hI.dom, fun id o ho => ?_, hI.inj⟩, ⟨hE.k, fun _ _ h => h, Nat.le_refl _, fun x hx _ => hfr x hx, hE.size, hE.os, hE.tape, hE.output, fun _ h => .inl h, fun x o h => ?_, fun _ _ => rfl⟩⟩
  · refine (hI.obj id o ho).mono hE.k (fun _ _ h => h) fun b hl hb hf => ?_
    obtain ⟨b', q1, q2, _⟩ := (hI.obj id o ho).lt hl
    rw [hb] at q1; cases q1
    refine ⟨?_, hfr b q2⟩
    cases h3 : K'.fixed b with
    | none => rfl
    | some x =>
      rcases hfix b x h3 with h | h
      · rw [hf] at h; cases h
      · omega
  · rcases hfix x o h with h | h
    · exact .inl h
    · exact .inr (.inr h)

/-- Behind a call that was lent what lies, and kept nothing of it. -/
theorem lent_inv {K K' : Kn} {β β' : Bi} {H : List Ob} {w w' : World} (hI : Inv K β H w) {L : LpT} (hE : Ev (allK L w) noB [] w K' β' [] w') : Inv K β H w' ∧ Ev K β H w K β H w' := by
  have hfr : ∀ b, b < w.heap.size → w'.heap[b]? = w.heap[b]? := fun b hb => hE.frame b hb (no_live _ _)
  refine ⟨⟨fun b o h => ?_, fun b z h => ?_, hI.dom, fun id o ho => ?_, hI.inj⟩, ⟨K.le_refl, fun _ _ h => h, Nat.le_refl _, fun x hx _ => hfr x hx, hE.size, hE.os, hE.tape, hE.output, fun _ h => .inl h, fun _ _ h => .inl h, fun _ _ => rfl⟩⟩
  · have := hI.fixed b o h; rw [hfr b (heap_lt this)]; exact this
  · obtain ⟨cs, e, fr, h1, h2⟩ := hI.size b z h
    exact ⟨cs, e, fr, by rw [hfr b (heap_lt h1)]; exact h1, h2⟩
  · refine (hI.obj id o ho).mono K.le_refl (fun _ _ h => h) fun b hl hb hf => ⟨hf, ?_⟩
    obtain ⟨b', q1, q2, _⟩ := (hI.obj id o ho).lt hl
    rw [hb] at q1; cases q1
    exact hfr b q2

theorem mapOpt_LR {K K' : Kn} {β β' : Bi} {f : V → Option V} (hf : ∀ v c v', VR K β v c → f v = some v' → VR K' β' v' c) : ∀ {l : List V} {x : List V} {cs : List Value}, mapOpt f l = some x → LR K β l cs → LR K' β' x cs
  | [], x, cs, h, hl => by
    simp [mapOpt] at h; subst h
    rw [List.eq_nil_of_length_eq_zero hl.1.symm]; exact .nil _ _
  | v :: l, x, cs, h, hl => by
    obtain ⟨c, r, rfl, h1, h2⟩ := hl.head
    simp only [mapOpt] at h
    split at h <;> cases h
    exact .cons (hf _ _ _ h1 ‹_›) (mapOpt_LR hf ‹_› h2)

theorem lendV_sound {K : Kn} {β : Bi} {H : List Ob} {w : World} (hI : Inv K β H w) : ∀ (k : Nat) (v : V) (c : Value) (v' : V), VR K β v c → lendV H k v = some v' → VR (allK K.lp w) β v' c := by
  intro k
  induction k with
  | zero => intro v c v' _ h; simp [lendV] at h
  | succ k ih =>
    intro v c v' hv h
    unfold lendV at h
    split at h
    · rename_i id off len n
      split at h
      · cases h
      · rename_i hn0
        split at h
        · rename_i l hp
          split at h
          · rename_i x hx
            split at h <;> cases h
            rename_i hleaf
            cases hv with
            | own hβ hz hl hz' hnn =>
              rename_i b cap z
              have fin : ∀ {cs : Array Value} {e : TypeId} {fr : Nat × Nat} {m : List V}, w.heap[b]? = some (.cells cs e fr) → CsR K β m cs → off + len * n ≤ m.length → l = (m.drop off).take (len * n) →
                  VR (allK K.lp w) β (.list (chunk n len x) false) (.slice (some ⟨b, off, none⟩) len cap) := by
                intro cs e fr m hw hcr hle hlm
                have hs := seen_of (w := w) (b := b) (o := off) (n := len * n) (k := 0) hw (by have := hcr.1; omega) (by simpa using hcr.2) off (by omega) hle
                rw [← hlm] at hs
                exact list_of (show (allK K.lp w).fixed b = some (.cells cs e fr) from hw) (by have := hcr.1; omega) hn0 hl (mapOpt_LR ih hx hs.rel) hleaf
              simp only [peek] at hp
              cases ho : H[id]? with
              | none => rw [ho] at hp; cases hp
              | some ob =>
                have hob := hI.obj id ob ho
                cases ob <;> simp only [ho] at hp <;> try (cases hp; done)
                · obtain ⟨b', cs, e, g1, g2, g3, g4, g5⟩ := hob
                  rw [hβ] at g1; cases g1
                  split at hp <;> cases hp
                  exact fin g4 g5 ‹_› rfl
                · obtain ⟨b', cs, e, fr, g1, g2, g3, g5⟩ := hob
                  rw [hβ] at g1; cases g1
                  split at hp <;> cases hp
                  exact fin (hI.fixed _ _ g2) g5 ‹_› rfl
          · cases h
        · cases h
    · cases hv with
      | agg hl hc =>
        obtain ⟨x, hx, rfl⟩ := Option.map_eq_some_iff.1 h
        have := mapOpt_LR ih hx (LR.of_arr hl hc)
        exact .agg this.to_arr.1 this.to_arr.2
    · cases hv with
      | tuple hl hc =>
        obtain ⟨x, hx, rfl⟩ := Option.map_eq_some_iff.1 h
        have := mapOpt_LR ih hx (LR.of_arr hl hc)
        exact .tuple this.to_arr.1 this.to_arr.2
    · cases h
      exact hv.mono (allK_le hI) fun _ _ h => h

theorem lend_ground (H : List Ob) : ∀ (k : Nat) (v v' : V), ground v = true → lendV H k v = some v' → v' = v := by
  intro k
  induction k with
  | zero => intro v v' _ h; simp [lendV] at h
  | succ k ih =>
    have hm : ∀ (l x : List V), l.all ground = true → mapOpt (lendV H k) l = some x → x = l := by
      intro l
      induction l with
      | nil => intro x _ h; simp [mapOpt] at h; exact h
      | cons v l ihl =>
        intro x hg h
        simp only [List.all_cons, Bool.and_eq_true] at hg
        simp only [mapOpt] at h
        split at h <;> cases h
        rename_i a b ha hb
        rw [ih _ _ hg.1 ha, ihl _ hg.2 hb]
    intro v v' hg h
    unfold lendV at h
    split at h
    · simp [ground] at hg
    · obtain ⟨x, hx, rfl⟩ := Option.map_eq_some_iff.1 h
      rw [hm _ _ (by rw [← groundL_eq]; simpa [ground] using hg) hx]
    · obtain ⟨x, hx, rfl⟩ := Option.map_eq_some_iff.1 h
      rw [hm _ _ (by rw [← groundL_eq]; simpa [ground] using hg) hx]
    · cases h; rfl
end Fz
namespace Fz
open Go

def wInt (v : V) (K : IntKind → Int → Prop) : Prop := match v with
  | .int k n => K k n
  | _ => False
def wBool (v : V) (P N : Prop) : Prop := match v with
  | .bool b => if b = true then P else N
  | _ => False
def wNat (o : Option V) (d : Nat) (K : Nat → Prop) : Prop := match o with
  | none => K d
  | some v => wInt v fun _ i => 0 ≤ i ∧ K i.toNat

def wPeek (H : List Ob) (n : Nat) (v : V) (K : List V → Prop) : Prop := match v with
  | .ref l => n ≤ l.length ∧ K (l.take n)
  | .ptr id off => ∃ l, (H[id]? = some (.live l) ∨ H[id]? = some (.fixed l)) ∧ off + n ≤ l.length ∧ K ((l.drop off).take n)
  | _ => False

theorem wPeek_ok {H : List Ob} {n : Nat} {v : V} {K : List V → Prop} (h : wPeek H n v K) : ∃ l, peek H n v = some l ∧ K l := by
  unfold wPeek at h
  split at h
  · exact ⟨_, by simp only [peek, if_pos h.1], h.2⟩
  · obtain ⟨l, h1, h2, h3⟩ := h
    rcases h1 with h1 | h1
    · exact ⟨_, by simp only [peek, h1, if_pos h2], h3⟩
    · exact ⟨_, by simp only [peek, h1, if_pos h2], h3⟩
  · cases h

def wElems (H : List Ob) (n : Nat) (v : V) (K : List V → Nat → Prop) : Prop := match v with
  | .list l _ => uni n l = true ∧ K (flat l) l.length
  | .own id off len m => m = n ∧ wPeek H (len * n) (.ptr id off) fun x => K x len
  | .str s => n = 1 ∧ K (s.data.toList.map fun b => V.int .u8 b.toNat) s.size
  | _ => False

theorem wElems_ok {H : List Ob} {n : Nat} {v : V} {K : List V → Nat → Prop} (h : wElems H n v K) : ∃ x k, elems H n v = some (x, k) ∧ K x k := by
  unfold wElems at h
  split at h
  · exact ⟨_, _, by simp only [elems, if_pos h.1], h.2⟩
  · obtain ⟨rfl, h⟩ := h
    obtain ⟨l, h1, h2⟩ := wPeek_ok h
    exact ⟨_, _, by simp only [elems, if_true, h1, Option.map_some], h2⟩
  · obtain ⟨rfl, h⟩ := h
    exact ⟨_, _, by simp only [elems, if_true], h⟩
  · cases h

def wFill (cells : List V) (K : List V → Prop) : List (Nat × Nat × V) → Prop
  | [] => K cells
  | (off, n, v) :: r => ((cellsOf v).length = n ∧ off + n ≤ cells.length ∧ isAny v = false) ∧ wFill (splice cells off (cellsOf v)) K r

theorem wFill_ok {K : List V → Prop} : ∀ {ps : List (Nat × Nat × V)} {cells : List V}, wFill cells K ps → ∃ l, fillV cells ps = some l ∧ K l
  | [], cells, h => ⟨cells, rfl, h⟩
  | (off, n, v) :: r, cells, h => by
    obtain ⟨l, h1, h2⟩ := wFill_ok h.2
    exact ⟨l, by rw [fillV, if_pos h.1]; exact h1, h2⟩

theorem wNat_ok {o : Option V} {d : Nat} {K : Nat → Prop} (h : wNat o d K) : ∃ n, natV o d = some n ∧ K n := by
  cases o with
  | none => exact ⟨d, rfl, h⟩
  | some v =>
    cases v with
    | int k i => exact ⟨i.toNat, by simp only [natV, if_pos h.1], h.2⟩
    | _ => cases h

def wSlice (H : List Ob) (k : SlK) (x : V) (lo hi mx : Option V) (K : V → Prop) : Prop :=
  (mx.isSome && hi.isNone) = false ∧
  match k, x with
  | .str, .str s => mx.isSome = false ∧ wNat hi s.size fun h => wNat lo 0 fun l => (l ≤ h ∧ h ≤ s.size) ∧ K (.str (s.extract l h))
  | .sl n, .list e c => uni n e = true ∧ wNat mx e.length fun m => wNat hi e.length fun h => wNat lo 0 fun l =>
      (l ≤ h ∧ h ≤ m ∧ m ≤ e.length) ∧ K (.list ((e.drop l).take (h - l)) (if mx.isSome then m == h else c && h == e.length))
  | .sl n, .own id off len n' => wNat mx len fun m => wNat hi len fun h => wNat lo 0 fun l => (n = n' ∧ l ≤ h ∧ h ≤ m ∧ m ≤ len) ∧
      K (if h = l ∧ (l ≠ 0 ∨ mx.isSome = true) then .list [] (mx.isSome && m == h) else .own id (off + l * n) (h - l) n)
  | .arr alen n, .ptr id off => wNat mx alen fun m => wNat hi alen fun h => wNat lo 0 fun l => wPeek H (alen * n) (.ptr id off) fun _ => (l ≤ h ∧ h ≤ m ∧ m ≤ alen) ∧
      K (if h = l then .list [] (m == h) else .own id (off + l * n) (h - l) n)
  | _, _ => False

theorem wSlice_ok {H : List Ob} {k : SlK} {x : V} {lo hi mx : Option V} {K : V → Prop} (h : wSlice H k x lo hi mx K) : ∃ v, sliceV H k x lo hi mx = some v ∧ K v := by
  unfold wSlice at h
  obtain ⟨h0, h⟩ := h
  unfold sliceV
  rw [if_neg (by rw [h0]; exact Bool.false_ne_true)]
  split at h
  · obtain ⟨h1, h⟩ := h
    obtain ⟨a, ha, h⟩ := wNat_ok h
    obtain ⟨b, hb, h⟩ := wNat_ok h
    exact ⟨_, by simp only [h1, ha, hb, if_pos h.1]; rfl, h.2⟩
  · obtain ⟨h1, h⟩ := h
    obtain ⟨m, hm, h⟩ := wNat_ok h
    obtain ⟨a, ha, h⟩ := wNat_ok h
    obtain ⟨b, hb, h⟩ := wNat_ok h
    exact ⟨_, by simp only [h1, hm, ha, hb, if_pos h.1]; rfl, h.2⟩
  · obtain ⟨m, hm, h⟩ := wNat_ok h
    obtain ⟨a, ha, h⟩ := wNat_ok h
    obtain ⟨b, hb, h⟩ := wNat_ok h
    exact ⟨_, by simp only [hm, ha, hb, if_pos h.1], h.2⟩
  · obtain ⟨m, hm, h⟩ := wNat_ok h
    obtain ⟨a, ha, h⟩ := wNat_ok h
    obtain ⟨b, hb, h⟩ := wNat_ok h
    obtain ⟨l, hl, h⟩ := wPeek_ok h
    exact ⟨_, by simp only [hm, ha, hb, hl, if_pos h.1], h.2⟩
  · cases h

def wAppend (H : List Ob) (n bytes : Nat) (s : V) (xs : List V) (k : Nat) (Q : V → List Ob → Prop) : Prop := match s with
  | .list l c => if k = 0 then Q s H else (c = true ∧ uni n l = true ∧ xs.length = k * n ∧ capOk (l.length + k) bytes = true) ∧
      Q (.own H.length 0 (l.length + k) n) (H ++ [.live (flat l ++ xs)])
  | .own id off len m => off = 0 ∧ if k = 0 then Q s H else ∃ l, H[id]? = some (.live l) ∧ (m = n ∧ len * n ≤ l.length ∧ xs.all storable = true ∧ capOk (len + k) bytes = true) ∧
      Q (.own H.length 0 (len + k) n) (H.set id .dead ++ [.live (l.take (len * n) ++ xs)])
  | _ => False

theorem wAppend_ok {H : List Ob} {n bytes : Nat} {s : V} {xs : List V} {k : Nat} {Q : V → List Ob → Prop} (h : wAppend H n bytes s xs k Q) :
    ∃ v H', appendV H n bytes s xs k = some (v, H') ∧ Q v H' := by
  unfold wAppend at h
  unfold appendV
  split at h
  · split at h
    · rename_i hk; exact ⟨_, _, by simp only [if_pos hk], h⟩
    · rename_i hk
      obtain ⟨⟨h1, h2, h3, h4⟩, h5⟩ := h
      exact ⟨_, _, by simp only [if_neg hk, h1, h2, h4, h3, beq_self_eq_true, Bool.and_self, if_true], h5⟩
  · obtain ⟨rfl, h⟩ := h
    split at h
    · rename_i hk; exact ⟨_, _, by simp only [if_pos hk], h⟩
    · rename_i hk
      obtain ⟨l, h1, h2, h3⟩ := h
      exact ⟨_, _, by simp only [if_neg hk, h1, if_pos h2], h3⟩
  · cases h

/-- Bytes as a text. -/
def bytesV (l : List V) : ByteArray := ⟨(l.map fun v => match v with | .int _ n => n.toNat.toUInt8 | _ => 0).toArray⟩
def allU8 (l : List V) : Bool := l.all (fun v => match v with | .int .u8 n => decide (0 ≤ n) && decide (n < 256) | _ => false)

def wBin (op : BinOp) (ek : EqK) (x y : V) (K : V → Prop) : Prop := ∃ v, binV op ek x y = some v ∧ K v
def wUn (op : UnOp) (x : V) (K : V → Prop) : Prop := ∃ v, unV op x = some v ∧ K v

def wPur (k : PK) (l : List V) (K : V → Prop) : Prop := ∃ v, purV k l = some v ∧ K v
def wRd (H : List Ob) (k : RK) (l : List V) (K : V → Prop) : Prop := ∃ v, rdV H k l = some v ∧ K v
def wMem (H : List Ob) (k : MK) (l : List V) (Q : V → List Ob → Prop) : Prop := ∃ v H', (memV H k l = some (.val v H') ∨ memV H k l = some (.skip H') ∧ v = uv) ∧ Q v H'

def wOp (ρ : Opd → V) (H : List Ob) (Q : V → List Ob → Prop) : AOp → Prop
  | .mov x => Q (ρ x) H
  | .pick c a b => wBool (ρ c) (Q (ρ a) H) (Q (ρ b) H)
  | .alloc zero => Q (.ptr H.length 0) (H ++ [.live zero])
  | .box x => isAny (ρ x) = false ∧ Q (.ptr H.length 0) (H ++ [.live (cellsOf (ρ x))])
  | .build zero parts => wFill zero (fun l => Q (.agg l) H) (parts.map fun p => (p.1, p.2.1, ρ p.2.2))
  | .buildSlice n len zero parts => wFill (zeros zero len) (fun cells => if len = 0 then Q (.list [] true) H else Q (.own H.length 0 len n) (H ++ [.live cells]))
      (parts.map fun p => (p.1, p.2.1, ρ p.2.2))
  | .load agg n x => wPeek H n (ρ x) fun l => if agg = true then Q (.agg l) H else ∃ v, l = [v] ∧ Q v H
  | .store n a x => match ρ a with
    | .ptr id off => ∃ l, H[id]? = some (.live l) ∧ ((cellsOf (ρ x)).length = n ∧ off + n ≤ l.length ∧ (cellsOf (ρ x)).all storable = true) ∧
        Q uv (H.set id (.live (splice l off (cellsOf (ρ x)))))
    | _ => False
  | .nilCheck x => match ρ x with
    | .ptr i o => Q (.ptr i o) H
    | .ref l => Q (.ref l) H
    | .fn (.func f) a b => Q (.fn (.func f) a b) H
    | _ => False
  | .bin op k x y => wBin op k (ρ x) (ρ y) fun v => Q v H
  | .un op x => wUn op (ρ x) fun v => Q v H
  | .conv (.int k) x => wInt (ρ x) fun _ n => Q (.int k (k.wrap n)) H
  | .conv .s2s x => match ρ x with
    | .str s => Q (.str s) H
    | _ => False
  | .conv .b2s x => match ρ x with
    | .list l c => wElems H 1 (.list l c) fun p _ => allU8 p = true ∧ Q (.str (bytesV p)) H
    | .own a b c d => wElems H 1 (.own a b c d) fun p _ => allU8 p = true ∧ Q (.str (bytesV p)) H
    | _ => False
  | .conv _ _ => False
  | .makeIface t x => isAny (ρ x) = false ∧ Q (.iface t (ρ x)) H
  | .makeFunc f first captured => Q (.fn f (first.map ρ) (captured.map ρ)) H
  | .makeSlice n bytes zero len cap => wInt (ρ len) fun _ l => wInt (ρ cap) fun _ c =>
      (0 ≤ l ∧ l ≤ c ∧ c * bytes ≤ 2 ^ 47 ∧ c ≤ 2 ^ 47 ∧ (zero.length = n ∧ n ≠ 0)) ∧
      if c = 0 then Q (.list [] true) H else Q (.own H.length 0 l.toNat n) (H ++ [.live (zeros zero c.toNat)])
  | .slice k x lo hi mx => wSlice H k (ρ x) (lo.map ρ) (hi.map ρ) (mx.map ρ) fun v => Q v H
  | .fieldAddr off x => match ρ x with
    | .ptr id o => Q (.ptr id (o + off)) H
    | .ref l => off ≤ l.length ∧ Q (.ref (l.drop off)) H
    | _ => False
  | .field agg off n x => match ρ x with
    | .agg l => off + n ≤ l.length ∧ if agg = true then Q (.agg ((l.drop off).take n)) H else ∃ v, l[off]? = some v ∧ Q v H
    | _ => False
  | .indexSl n x i => wInt (ρ i) fun _ j => 0 ≤ j ∧ match ρ x with
      | .list l _ => ∃ v, l[j.toNat]? = some v ∧ (cellsOf v).length = n ∧ Q (.ref (cellsOf v)) H
      | .own id off len m => (j < len ∧ m = n) ∧ Q (.ptr id (off + j.toNat * n)) H
      | _ => False
  | .indexPA alen n x i => wInt (ρ i) fun _ j => 0 ≤ j ∧ match ρ x with
      | .ptr id off => j < alen ∧ Q (.ptr id (off + j.toNat * n)) H
      | .ref l => (j < alen ∧ j.toNat * n ≤ l.length) ∧ Q (.ref (l.drop (j.toNat * n))) H
      | _ => False
  | .indexArr alen n agg x i => wInt (ρ i) fun _ j => match ρ x with
      | .agg l => (0 ≤ j ∧ j < alen ∧ j.toNat * n + n ≤ l.length) ∧
          if agg = true then Q (.agg ((l.drop (j.toNat * n)).take n)) H else ∃ v, l[j.toNat * n]? = some v ∧ Q v H
      | _ => False
  | .indexStr x i => wInt (ρ i) fun _ j => 0 ≤ j ∧ match ρ x with
      | .str s => ∃ b, s.data.toList[j.toNat]? = some b ∧ Q (.int .u8 b.toNat) H
      | _ => False
  | .extract i x => match ρ x with
    | .tuple l => ∃ v, l[i]? = some v ∧ Q v H
    | _ => False
  | .lenC n => Q (.int .i64 n) H
  | .lenS x => match ρ x with
    | .str s => Q (.int .i64 s.size) H
    | _ => False
  | .len x => match ρ x with
    | .list l _ => Q (.int .i64 l.length) H
    | .own _ _ len _ => Q (.int .i64 len) H
    | _ => False
  | .cap x => match ρ x with
    | .list l c => c = true ∧ Q (.int .i64 l.length) H
    | _ => False
  | .append n bytes zs s x => match zs with
    | none => wElems H n (ρ x) fun xs k => wAppend H n bytes (ρ s) xs k Q
    | some zero => wInt (ρ x) fun _ l => (0 ≤ l ∧ l ≤ 2 ^ 47 ∧ l * bytes ≤ 2 ^ 47 ∧ zero.length = n) ∧ wAppend H n bytes (ρ s) (zeros zero l.toNat) l.toNat Q
  | .copy n d s => wElems H n (ρ s) fun xs k => match ρ d with
    | .list l _ => l = [] ∧ Q (.int .i64 0) H
    | .own id off len m => ∃ l, H[id]? = some (.live l) ∧ (m = n ∧ off + len * n ≤ l.length ∧ (xs.take (Nat.min k len * n)).all storable = true) ∧
        Q (.int .i64 (Nat.min k len : Nat)) (H.set id (.live (splice l off (xs.take (Nat.min k len * n)))))
    | _ => False
  | .clear zero n x => match ρ x with
    | .list l _ => l = [] ∧ Q uv H
    | .own id off len m => ∃ l, H[id]? = some (.live l) ∧ (m = n ∧ zero.length = n ∧ off + len * n ≤ l.length ∧ zero.all storable = true) ∧
        Q uv (H.set id (.live (splice l off (zeros zero len))))
    | _ => False
  | .pur k l => wPur k (l.map ρ) fun v => Q v H
  | .rd k l => wRd H k (l.map ρ) fun v => Q v H
  | .mem k l => wMem H k (l.map ρ) Q
  | .max l => ∃ v, maxV (l.map ρ) = some v ∧ Q v H
  | .min l => ∃ v, minV (l.map ρ) = some v ∧ Q v H
  | .panic _ => False
  | .call _ _ => False
  | .callv _ _ => False

theorem wInt_ok {v : V} {K : IntKind → Int → Prop} (h : wInt v K) : ∃ k n, v = .int k n ∧ K k n := by
  cases v with
  | int k n => exact ⟨k, n, rfl, h⟩
  | _ => cases h

theorem wOp_ok {ρ : Opd → V} {H : List Ob} {Q : V → List Ob → Prop} {op : AOp} (h : wOp ρ H Q op) :
    ∃ v H', (evOp ρ H op = some (.val v H') ∨ evOp ρ H op = some (.skip H') ∧ v = uv) ∧ Q v H' := by
  cases op with
  | mov x => exact ⟨_, _, .inl rfl, h⟩
  | pur k l =>
    obtain ⟨v, h1, h2⟩ := h
    exact ⟨_, _, .inl (by simp only [evOp, h1]; rfl), h2⟩
  | rd k l =>
    obtain ⟨v, h1, h2⟩ := h
    exact ⟨_, _, .inl (by simp only [evOp, h1]; rfl), h2⟩
  | mem k l => exact h
  | pick c a b =>
    simp only [wOp] at h
    cases hc : ρ c with
    | bool t =>
      rw [hc] at h
      cases t with
      | true => exact ⟨_, _, .inl (by simp only [evOp, hc]; rfl), h⟩
      | false => exact ⟨_, _, .inl (by simp only [evOp, hc]; rfl), h⟩
    | _ => rw [hc] at h; cases h
  | alloc zero => exact ⟨_, _, .inl rfl, h⟩
  | box x => exact ⟨_, _, .inl (by simp only [evOp, h.1]; rfl), h.2⟩
  | build zero parts =>
    obtain ⟨l, h1, h2⟩ := wFill_ok h
    exact ⟨_, _, .inl (by simp only [evOp, h1]; rfl), h2⟩
  | buildSlice n len zero parts =>
    obtain ⟨l, h1, h2⟩ := wFill_ok h
    by_cases hl : len = 0
    · rw [if_pos hl] at h2; exact ⟨_, _, .inl (by simp only [evOp, h1, if_pos hl]), h2⟩
    · rw [if_neg hl] at h2; exact ⟨_, _, .inl (by simp only [evOp, h1, if_neg hl]), h2⟩
  | load agg n x =>
    simp only [wOp] at h
    obtain ⟨l, h1, h2⟩ := wPeek_ok h
    cases agg with
    | true => exact ⟨_, _, .inl (by simp only [evOp, h1, if_true]), h2⟩
    | false =>
      rw [if_neg Bool.false_ne_true] at h2
      obtain ⟨v, rfl, h2⟩ := h2
      exact ⟨_, _, .inl (by simp only [evOp, h1]; rfl), h2⟩
  | store n a x =>
    simp only [wOp] at h
    split at h
    · rename_i id off ha
      obtain ⟨l, h1, h2, h3⟩ := h
      exact ⟨_, _, .inr ⟨by simp only [evOp, ha, h1, if_pos h2], rfl⟩, h3⟩
    · cases h
  | nilCheck x =>
    simp only [wOp] at h
    split at h
    · rename_i hx; exact ⟨_, _, .inl (by simp only [evOp, hx]), h⟩
    · rename_i hx; exact ⟨_, _, .inl (by simp only [evOp, hx]), h⟩
    · rename_i hx; exact ⟨_, _, .inl (by simp only [evOp, hx]), h⟩
    · cases h
  | bin op k x y =>
    obtain ⟨v, h1, h2⟩ := h
    exact ⟨_, _, .inl (by simp only [evOp, h1]; rfl), h2⟩
  | un op x =>
    obtain ⟨v, h1, h2⟩ := h
    exact ⟨_, _, .inl (by simp only [evOp, h1]; rfl), h2⟩
  | conv k x =>
    cases k with
    | int k =>
      obtain ⟨j, n, h1, h2⟩ := wInt_ok h
      exact ⟨_, _, .inl (by simp only [evOp, h1]), h2⟩
    | s2s =>
      simp only [wOp] at h
      split at h
      · rename_i hx; exact ⟨_, _, .inl (by simp only [evOp, hx]), h⟩
      · cases h
    | b2s =>
      simp only [wOp] at h
      split at h
      · rename_i hx
        obtain ⟨p, k, h1, h2, h3⟩ := wElems_ok h
        exact ⟨_, _, .inl (by simp only [evOp, hx, h1, Option.bind_some]; exact if_pos h2), h3⟩
      · rename_i hx
        obtain ⟨p, k, h1, h2, h3⟩ := wElems_ok h
        exact ⟨_, _, .inl (by simp only [evOp, hx, h1, Option.bind_some]; exact if_pos h2), h3⟩
      · cases h
    | _ => cases h
  | makeIface t x => exact ⟨_, _, .inl (by simp only [evOp, h.1]; rfl), h.2⟩
  | makeFunc f a b => exact ⟨_, _, .inl rfl, h⟩
  | makeSlice n bytes zero len cap =>
    obtain ⟨_, l, h1, h⟩ := wInt_ok h
    obtain ⟨_, c, h2, h3, h⟩ := wInt_ok h
    by_cases hc : c = 0
    · rw [if_pos hc] at h; exact ⟨_, _, .inl (by simp only [evOp, h1, h2, if_pos h3]; exact if_pos hc), h⟩
    · rw [if_neg hc] at h; exact ⟨_, _, .inl (by simp only [evOp, h1, h2, if_pos h3]; exact if_neg hc), h⟩
  | slice k x lo hi mx =>
    simp only [wOp] at h
    obtain ⟨v, h1, h2⟩ := wSlice_ok h
    exact ⟨_, _, .inl (by simp only [evOp, h1]; rfl), h2⟩
  | fieldAddr off x =>
    simp only [wOp] at h
    split at h
    · rename_i hx; exact ⟨_, _, .inl (by simp only [evOp, hx]), h⟩
    · rename_i hx; exact ⟨_, _, .inl (by simp only [evOp, hx, if_pos h.1]), h.2⟩
    · cases h
  | field agg off n x =>
    simp only [wOp] at h
    split at h
    · rename_i l hx
      obtain ⟨h1, h2⟩ := h
      cases agg with
      | true => exact ⟨_, _, .inl (by simp only [evOp, hx, if_pos h1, if_true]), h2⟩
      | false =>
        rw [if_neg Bool.false_ne_true] at h2
        obtain ⟨v, h3, h2⟩ := h2
        exact ⟨_, _, .inl (by simp only [evOp, hx, if_pos h1, h3]; rfl), h2⟩
    · cases h
  | indexSl n x i =>
    obtain ⟨_, j, h1, h2, h⟩ := wInt_ok h
    split at h
    · rename_i hx
      obtain ⟨v, h3, h4, h⟩ := h
      exact ⟨_, _, .inl (by simp only [evOp, h1, if_neg (show ¬ j < 0 from by omega), hx, h3, if_pos h4]), h⟩
    · rename_i hx
      exact ⟨_, _, .inl (by simp only [evOp, h1, if_neg (show ¬ j < 0 from by omega), hx, if_pos h.1]), h.2⟩
    · cases h
  | indexPA alen n x i =>
    obtain ⟨_, j, h1, h2, h⟩ := wInt_ok h
    split at h
    · rename_i hx
      exact ⟨_, _, .inl (by simp only [evOp, h1, if_neg (show ¬ j < 0 from by omega), hx, if_pos h.1]), h.2⟩
    · rename_i hx
      exact ⟨_, _, .inl (by simp only [evOp, h1, if_neg (show ¬ j < 0 from by omega), hx, if_pos h.1]), h.2⟩
    · cases h
  | indexArr alen n agg x i =>
    obtain ⟨_, j, h1, h⟩ := wInt_ok h
    split at h
    · rename_i l hx
      obtain ⟨h2, h3⟩ := h
      cases agg with
      | true => exact ⟨_, _, .inl (by simp only [evOp, h1, hx, if_pos h2, if_true]), h3⟩
      | false =>
        rw [if_neg Bool.false_ne_true] at h3
        obtain ⟨v, h4, h3⟩ := h3
        exact ⟨_, _, .inl (by simp only [evOp, h1, hx, if_pos h2, h4]; rfl), h3⟩
    · cases h
  | indexStr x i =>
    obtain ⟨_, j, h1, h2, h⟩ := wInt_ok h
    split at h
    · rename_i hx
      obtain ⟨v, h3, h⟩ := h
      exact ⟨_, _, .inl (by simp only [evOp, h1, if_neg (show ¬ j < 0 from by omega), hx, h3]), h⟩
    · cases h
  | extract i x =>
    simp only [wOp] at h
    split at h
    · rename_i hx
      obtain ⟨v, h3, h⟩ := h
      exact ⟨_, _, .inl (by simp only [evOp, hx, h3]), h⟩
    · cases h
  | lenC n => exact ⟨_, _, .inl rfl, h⟩
  | lenS x =>
    simp only [wOp] at h
    split at h
    · rename_i hx; exact ⟨_, _, .inl (by simp only [evOp, hx]), h⟩
    · cases h
  | len x =>
    simp only [wOp] at h
    split at h
    · rename_i hx; exact ⟨_, _, .inl (by simp only [evOp, hx]), h⟩
    · rename_i hx; exact ⟨_, _, .inl (by simp only [evOp, hx]), h⟩
    · cases h
  | cap x =>
    simp only [wOp] at h
    split at h
    · rename_i hx; obtain ⟨rfl, h⟩ := h; exact ⟨_, _, .inl (by simp only [evOp, hx]), h⟩
    · cases h
  | append n bytes zs s x =>
    cases zs with
    | none =>
      simp only [wOp] at h
      obtain ⟨xs, k, h1, h⟩ := wElems_ok h
      obtain ⟨v, H', h2, h⟩ := wAppend_ok h
      exact ⟨_, _, .inl (by simp only [evOp, h1, h2]), h⟩
    | some zero =>
      simp only [wOp] at h
      obtain ⟨_, l, h1, h3, h⟩ := wInt_ok h
      obtain ⟨v, H', h2, h⟩ := wAppend_ok h
      exact ⟨_, _, .inl (by simp only [evOp, h1, if_pos h3, h2]), h⟩
  | copy n d s =>
    simp only [wOp] at h
    obtain ⟨xs, k, h1, h⟩ := wElems_ok h
    split at h
    · rename_i hx
      obtain ⟨rfl, h⟩ := h
      exact ⟨_, _, .inl (by simp only [evOp, h1, hx]), h⟩
    · rename_i hx
      obtain ⟨l, h2, h3, h⟩ := h
      exact ⟨_, _, .inl (by simp only [evOp, h1, hx, h2, if_pos h3]), h⟩
    · cases h
  | clear zero n x =>
    simp only [wOp] at h
    split at h
    · rename_i hx
      obtain ⟨rfl, h⟩ := h
      exact ⟨_, _, .inl (by simp only [evOp, hx]), h⟩
    · rename_i hx
      obtain ⟨l, h2, h3, h⟩ := h
      exact ⟨_, _, .inl (by simp only [evOp, hx, h2, if_pos h3]), h⟩
    · cases h
  | max l =>
    obtain ⟨v, h1, h2⟩ := h
    exact ⟨_, _, .inl (by simp only [evOp, h1]; rfl), h2⟩
  | min l =>
    obtain ⟨v, h1, h2⟩ := h
    exact ⟨_, _, .inl (by simp only [evOp, h1]; rfl), h2⟩
  | panic x => cases h
  | call f l => cases h
  | callv f l => cases h
end Fz
namespace Fz
open Go

/-! ### Calls -/

def WCall (p : AP) (f : FuncId) (args : List V) (H : List Ob) (Q : CR → List Ob → Prop) : Prop :=
  ∃ n r H', doCall (acall p n) p.inlY f args H = some (r, H') ∧ Q r H'
def WQuiet (p : AP) (f : FuncId) (args : List V) (H : List Ob) (K : V → Prop) : Prop :=
  ∃ n l v, mapOpt (lendV H depthF) args = some l ∧ groundL l = true ∧ doCall (acall p n) p.inlY f l [] = some (.ret v, []) ∧
    (ground v && (listFree v || groundL args)) = true ∧ K v
def wRet (Q R : V → List Ob → Prop) (r : CR) (H : List Ob) : Prop := match r with
  | .ret v => Q v H
  | .panic v => R v H

def wAct (p : AP) (e : Env) (H : List Ob) (K R : V → List Ob → Prop) (op : AOp) : Prop := match op with
  | .call f args => WCall p f (args.map (evO e)) H (wRet K R)
  | .callv f args => match evO e f with
    | .fn (.func g) a b => g ≠ YF ∧ WCall p g (a ++ args.map (evO e) ++ b) H (wRet K R)
    | .yld id => WCall p YF (.yld id :: args.map (evO e)) H (wRet K R)
    | _ => False
  | .panic x => match evO e x with
    | .iface t v => R (.iface t v) H
    | _ => False
  | op => wOp (evO e) H K op

def wQ (p : AP) (e : Env) (H : List Ob) (K : V → Prop) (op : AOp) : Prop := match op with
  | .call f args => WQuiet p f (args.map (evO e)) H K
  | .callv f args => match evO e f with
    | .fn (.func g) a b => g ≠ YF ∧ WQuiet p g (a ++ args.map (evO e) ++ b) H K
    | .yld _ => False
    | _ => False
  | op => pureOp op = true ∧ wOp (evO e) H (fun v _ => K v) op

def wGuard (e : Env) (g : Option (Nat × Bool)) (P N : Prop) : Prop := match g with
  | none => P
  | some (t, w) => match e t with
    | .bool b => if b = w then P else N
    | .tuple l => l = [] ∧ N
    | _ => False

def wOps (p : AP) (Q : X → Env → List Ob → Prop) : List AO → Env → List Ob → Prop
  | [], e, H => Q .normal e H
  | o :: r, e, H => wGuard e o.guard (wAct p e H (fun v H' => wOps p Q r (putE e o.dst v) H') (fun v H' => Q (.panic v) e H') o.op) (wOps p Q r (putE e o.dst uv) H)

theorem wAct_ok {p : AP} {e : Env} {H : List Ob} {K R : V → List Ob → Prop} {op : AOp} (h : wAct p e H K R op) :
    (∃ v H', (evOp (evO e) H op = some (.val v H') ∨ evOp (evO e) H op = some (.skip H') ∧ v = uv) ∧ K v H') ∨
    (∃ v H', evOp (evO e) H op = some (.panic v H') ∧ R v H') ∨
    (∃ f args, evOp (evO e) H op = some (.call f args) ∧ WCall p f args H (wRet K R)) := by
  unfold wAct at h
  split at h
  · exact .inr (.inr ⟨_, _, rfl, h⟩)
  · rename_i f args
    split at h
    · rename_i hf; exact .inr (.inr ⟨_, _, by simp only [evOp, hf, if_neg h.1], h.2⟩)
    · rename_i hf; exact .inr (.inr ⟨_, _, by simp only [evOp, hf], h⟩)
    · cases h
  · split at h
    · rename_i hf; exact .inr (.inl ⟨_, _, by simp only [evOp, hf], h⟩)
    · cases h
  · exact .inl (wOp_ok h)

theorem wOps_ok {p : AP} {Q : X → Env → List Ob → Prop} (ops : List AO) : ∀ (e : Env) (H : List Ob), wOps p Q ops e H →
    ∃ n x e' H', runOps (acall p n) p.inlY ops e H = some (x, e', H') ∧ Q x e' H' := by
  induction ops with
  | nil => intro e H h; exact ⟨0, _, _, _, rfl, h⟩
  | cons o r ih =>
    intro e H h
    have go : ∀ (hh : wAct p e H (fun v H' => wOps p Q r (putE e o.dst v) H') (fun v H' => Q (.panic v) e H') o.op),
        ∃ n x e' H', (match evOp (evO e) H o.op with
          | none => none
          | some (.val v H') => runOps (acall p n) p.inlY r (putE e o.dst v) H'
          | some (.skip H') => runOps (acall p n) p.inlY r (putE e o.dst uv) H'
          | some (.panic v H') => some (.panic v, e, H')
          | some (.call f args) => match doCall (acall p n) p.inlY f args H with
            | none => none
            | some (.ret v, H') => runOps (acall p n) p.inlY r (putE e o.dst v) H'
            | some (.panic v, H') => some (.panic v, e, H')) = some (x, e', H') ∧ Q x e' H' := by
      intro hh
      rcases wAct_ok hh with ⟨v, H', h1, h2⟩ | ⟨v, H', h1, h2⟩ | ⟨f, args, h1, n, c, H', h2, h3⟩
      · obtain ⟨n, x, e', H'', h3, h4⟩ := ih _ _ h2
        rcases h1 with h1 | ⟨h1, rfl⟩
        · exact ⟨n, x, e', H'', by rw [h1]; exact h3, h4⟩
        · exact ⟨n, x, e', H'', by rw [h1]; exact h3, h4⟩
      · exact ⟨0, _, _, _, by rw [h1], h2⟩
      · cases c with
        | ret v =>
          obtain ⟨m, x, e', H'', h4, h5⟩ := ih _ _ h3
          refine ⟨max n m, x, e', H'', ?_, h5⟩
          rw [h1]
          dsimp only
          rw [doCall_mono (acall_le p (Nat.le_max_left n m)) _ _ _ _ _ h2]
          exact runOps_mono (acall_le p (Nat.le_max_right n m)) _ _ _ _ _ h4
        | panic v => exact ⟨n, _, _, _, by rw [h1]; dsimp only; rw [h2], h3⟩
    unfold wOps wGuard at h
    unfold runOps
    dsimp only
    cases hg : o.guard with
    | none => rw [hg] at h; exact go h
    | some tw =>
      obtain ⟨t, w⟩ := tw
      rw [hg] at h
      dsimp only at h ⊢
      cases he : e t with
      | bool b =>
        simp only [he] at h ⊢
        by_cases hb : b = w
        · rw [if_pos hb] at h; simp only [if_pos hb]; exact go h
        · rw [if_neg hb] at h; simp only [if_neg hb]; exact ih _ _ h
      | tuple l =>
        simp only [he] at h ⊢
        obtain ⟨rfl, h⟩ := h
        exact ih _ _ h
      | _ => simp only [he] at h

/-! ### Regions whose order is open, where no operation may come to read what another one changes -/

theorem memV_nocall {H : List Ob} {k : MK} {l : List V} {f : FuncId} {args : List V} (h : memV H k l = some (.call f args)) : False := by
  unfold memV at h
  repeat' split at h
  all_goals cases h
/-- Reads nothing of the heap. -/
def heapFree : AOp → Bool
  | .load _ _ _ | .conv .b2s _ | .slice (.arr _ _) _ _ _ _ | .call _ _ | .callv _ _ | .rd _ _ => false
  | op => pureOp op

/-- Makes the heap longer, and nothing else. -/
def isExt : AOp → Bool
  | .alloc _ | .box _ | .buildSlice _ _ _ _ | .makeSlice _ _ _ _ _ => true
  | _ => false
def calmGo (ops : List AO) (an : List (List Nat)) (effs : List AO) : List (AO × Nat) → Nat → Bool
  | [], _ => true
  | (o, j) :: r, k => (o.eff || heapFree o.op || (loOf ops an j == k && ((effs.drop k).take (hiOf ops an j - k)).all fun q => isExt q.op)) && calmGo ops an effs r (if o.eff then k + 1 else k)
def calm (ops : List AO) : Bool := okDraw ops && calmGo ops (ancs ops) (ops.filter fun o => o.eff) ops.zipIdx 0

theorem slice_free {k : SlK} {x : V} {o : Opd} {l h m : Option Opd} (hk : heapFree (.slice k o l h m) = true) (H H' : List Ob) (lo hi mx : Option V) : sliceV H k x lo hi mx = sliceV H' k x lo hi mx := by
  cases k with
  | str => cases x <;> rfl
  | sl n => cases x <;> rfl
  | arr _ _ => cases hk

theorem evOp_free {ρ : Opd → V} {op : AOp} (hf : heapFree op = true) (H H' : List Ob) {v : V} {H1 : List Ob} (h : evOp ρ H op = some (.val v H1)) :
    evOp ρ H' op = some (.val v H') := by
  cases op with
  | conv k x =>
    cases k with
    | b2s => cases hf
    | _ =>
      simp only [evOp] at h ⊢
      first
      | (cases h; done)
      | (split at h <;> first | (cases h; done) | (cases h; rfl))
  | slice k x lo hi mx =>
    simp only [evOp, ans] at h ⊢
    rw [slice_free hf H' H]
    obtain ⟨u, hu, h⟩ := Option.map_eq_some_iff.1 h
    rw [hu]; cases h; rfl
  | build zero parts =>
    simp only [evOp, ans] at h ⊢
    obtain ⟨u, hu, h⟩ := Option.map_eq_some_iff.1 h
    rw [hu]; cases h; rfl
  | bin op k x y =>
    simp only [evOp, ans] at h ⊢
    obtain ⟨u, hu, h⟩ := Option.map_eq_some_iff.1 h
    rw [hu]; cases h; rfl
  | un op x =>
    simp only [evOp, ans] at h ⊢
    obtain ⟨u, hu, h⟩ := Option.map_eq_some_iff.1 h
    rw [hu]; cases h; rfl
  | max l =>
    simp only [evOp, ans] at h ⊢
    obtain ⟨u, hu, h⟩ := Option.map_eq_some_iff.1 h
    rw [hu]; cases h; rfl
  | pur k l =>
    simp only [evOp, ans] at h ⊢
    obtain ⟨u, hu, h⟩ := Option.map_eq_some_iff.1 h
    rw [hu]; cases h; rfl
  | min l =>
    simp only [evOp, ans] at h ⊢
    obtain ⟨u, hu, h⟩ := Option.map_eq_some_iff.1 h
    rw [hu]; cases h; rfl
  | mov _ | makeFunc _ _ _ | lenC _ => simp only [evOp] at h ⊢; cases h; rfl
  | alloc _ | box _ | buildSlice _ _ _ _ | load _ _ _ | store _ _ _ | makeSlice _ _ _ _ _ | append _ _ _ _ _ | copy _ _ _ | clear _ _ _ | panic _ | call _ _ | callv _ _ | rd _ _ | mem _ _ => cases hf
  | pick _ _ _ | nilCheck _ | makeIface _ _ | fieldAddr _ _ | field _ _ _ _ | indexSl _ _ _ | indexPA _ _ _ _ | indexArr _ _ _ _ _ | indexStr _ _ | extract _ _ | lenS _ | len _ | cap _ =>
    simp only [evOp] at h ⊢
    repeat' split at h
    all_goals first | (cases h; done) | (cases h; simp_all)

theorem quiet_free {call : CallT} {inl : FuncId → Bool} {e : Env} {o : AO} (hf : heapFree o.op = true) (H H' : List Ob) {v : V} (h : quietOp call inl e H o = some v) :
    quietOp call inl e H' o = some v := by
  have hnc : ∀ (ρ : Opd → V) (H : List Ob) f args, evOp ρ H o.op ≠ some (.call f args) := by
    intro ρ H f args hc
    generalize o.op = op at hf hc
    cases op with
    | conv k x =>
      cases k with
      | b2s => cases hf
      | _ =>
        simp only [evOp] at hc
        first
        | (cases hc; done)
        | (split at hc <;> cases hc)
    | call _ _ => cases hf
    | callv _ _ => cases hf
    | append _ _ _ _ _ => cases hf
    | mem _ _ => cases hf
    | _ =>
      simp only [evOp, ans] at hc
      repeat' split at hc
      all_goals first | (cases hc; done) | (obtain ⟨_, _, hc⟩ := Option.map_eq_some_iff.1 hc; cases hc)
  have go : ∀ (hh : (match evOp (evO e) H o.op with
    | some (.val v _) => if pureOp o.op then some v else none
    | some (.call k args) => match mapOpt (lendV H depthF) args with
      | some l => if groundL l then (match doCall call inl k l [] with
        | some (.ret v, []) => if ground v && (listFree v || groundL args) then some v else none
        | _ => none) else none
      | none => none
    | _ => none) = some v), (match evOp (evO e) H' o.op with
    | some (.val v _) => if pureOp o.op then some v else none
    | some (.call k args) => match mapOpt (lendV H' depthF) args with
      | some l => if groundL l then (match doCall call inl k l [] with
        | some (.ret v, []) => if ground v && (listFree v || groundL args) then some v else none
        | _ => none) else none
      | none => none
    | _ => none) = some v := by
    intro hh
    cases hv : evOp (evO e) H o.op with
    | none => rw [hv] at hh; cases hh
    | some q =>
      cases q with
      | val u H1 => rw [hv] at hh; rw [evOp_free hf H H' hv]; exact hh
      | skip _ => rw [hv] at hh; cases hh
      | panic _ _ => rw [hv] at hh; cases hh
      | call k args => exact absurd hv (hnc _ _ _ _)
  unfold quietOp at h ⊢
  dsimp only at h ⊢
  cases hg : o.guard with
  | none => rw [hg] at h; exact go h
  | some tw =>
    rw [hg] at h
    obtain ⟨t', w⟩ := tw
    dsimp only at h ⊢
    cases he : e t' with
    | bool b =>
      simp only [he] at h ⊢
      by_cases hb : b = w
      · simp only [hb, if_true] at h ⊢; exact go h
      · simp only [hb, if_false] at h ⊢; exact h
    | tuple l =>
      simp only [he] at h ⊢
      cases l with
      | nil => exact h
      | cons _ _ => cases h
    | _ => simp only [he] at h; cases h

theorem peek_ext {H : List Ob} {n : Nat} {v : V} {l : List V} (G : List Ob) (h : peek H n v = some l) : peek (H ++ G) n v = some l := by
  cases v with
  | ref x => exact h
  | ptr id off =>
    simp only [peek] at h ⊢
    cases ho : H[id]? with
    | none => rw [ho] at h; cases h
    | some o =>
      have hi : id < H.length := (List.getElem?_eq_some_iff.1 ho).1
      rw [List.getElem?_append_left hi, ho]
      rw [ho] at h
      exact h
  | _ => cases h
theorem elems_ext {H : List Ob} {n : Nat} {v : V} {l : List V × Nat} (G : List Ob) (h : elems H n v = some l) : elems (H ++ G) n v = some l := by
  cases v with
  | own id off len m =>
    simp only [elems] at h ⊢
    split at h
    · rename_i hm
      rw [if_pos hm]
      obtain ⟨x, hx, hh⟩ := Option.map_eq_some_iff.1 h
      rw [peek_ext G hx, Option.map_some, hh]
    · cases h
  | _ => exact h
theorem lend_ext {H : List Ob} (G : List Ob) : ∀ (k : Nat) (v v' : V), lendV H k v = some v' → lendV (H ++ G) k v = some v' := by
  intro k
  induction k with
  | zero => intro v v' h; cases h
  | succ k ih =>
    have hm : ∀ (l x : List V), mapOpt (lendV H k) l = some x → mapOpt (lendV (H ++ G) k) l = some x := by
      intro l
      induction l with
      | nil => intro x h; exact h
      | cons v l ihl =>
        intro x h
        simp only [mapOpt] at h ⊢
        split at h <;> cases h
        rename_i a b ha hb
        rw [ih _ _ ha, ihl _ hb]
    intro v v' h
    cases v with
    | own id off len n =>
      simp only [lendV] at h ⊢
      split at h
      · cases h
      · rename_i hn
        rw [if_neg hn]
        split at h
        · rename_i l hl
          rw [peek_ext G hl]
          dsimp only
          split at h
          · rename_i x hx; rw [hm _ _ hx]; exact h
          · cases h
        · cases h
    | agg l =>
      simp only [lendV] at h ⊢
      obtain ⟨x, hx, hh⟩ := Option.map_eq_some_iff.1 h
      rw [hm _ _ hx, Option.map_some, hh]
    | tuple l =>
      simp only [lendV] at h ⊢
      obtain ⟨x, hx, hh⟩ := Option.map_eq_some_iff.1 h
      rw [hm _ _ hx, Option.map_some, hh]
    | _ => exact h
theorem lends_ext {H : List Ob} (G : List Ob) (k : Nat) : ∀ (l x : List V), mapOpt (lendV H k) l = some x → mapOpt (lendV (H ++ G) k) l = some x := by
  intro l
  induction l with
  | nil => intro x h; exact h
  | cons v l ihl =>
    intro x h
    simp only [mapOpt] at h ⊢
    split at h <;> cases h
    rename_i a b ha hb
    rw [lend_ext G _ _ _ ha, ihl _ hb]

theorem mapOf_ext {H : List Ob} (G : List Ob) {m : V} {x : List V × List V} (h : mapOf H m = some x) : mapOf (H ++ G) m = some x := by
  unfold mapOf at h ⊢
  split at h <;> try (cases h; done)
  · exact h
  · exact h
  · rename_i id
    split at h <;> cases h
    rename_i ho
    have := (List.getElem?_eq_some_iff.1 ho).1
    simp only [List.getElem?_append_left this, ho]
theorem rd_ext {H : List Ob} (G : List Ob) {k : RK} {l : List V} {v : V} (h : rdV H k l = some v) : rdV (H ++ G) k l = some v := by
  unfold rdV at h ⊢
  split at h
  · rename_i kk z ok m k
    cases hm : mapOf H m with
    | none => rw [hm] at h; cases h
    | some x => rw [hm] at h; rw [mapOf_ext G hm]; exact h
  · cases h
theorem evOp_ext {ρ : Opd → V} {op : AOp} (hp : pureOp op = true) {H : List Ob} (G : List Ob) {v : V} {H1 : List Ob} (h : evOp ρ H op = some (.val v H1)) :
    ∃ H2, evOp ρ (H ++ G) op = some (.val v H2) := by
  by_cases hf : heapFree op = true
  · exact ⟨_, evOp_free hf H (H ++ G) h⟩
  · cases op with
    | rd k l =>
      simp only [evOp, ans] at h ⊢
      obtain ⟨u, hu, h⟩ := Option.map_eq_some_iff.1 h
      rw [rd_ext G hu]; cases h; exact ⟨_, rfl⟩
    | load agg n x =>
      simp only [evOp] at h ⊢
      cases hl : peek H n (ρ x) with
      | none => rw [hl] at h; cases h
      | some l =>
        rw [hl] at h
        rw [peek_ext G hl]
        dsimp only at h ⊢
        split at h
        · rename_i ha; cases h; exact ⟨_, if_pos ha⟩
        · rename_i ha
          rw [if_neg ha]
          split at h
          · cases h; exact ⟨_, rfl⟩
          · cases h
    | conv k x =>
      cases k with
      | b2s =>
        simp only [evOp] at h ⊢
        cases hx : ρ x with
        | list l c =>
          rw [hx] at h
          dsimp only at h ⊢
          obtain ⟨q, hq, h⟩ := Option.bind_eq_some_iff.1 h
          rw [elems_ext G hq, Option.bind_some]
          split at h <;> cases h
          rename_i hc
          exact ⟨_, if_pos hc⟩
        | own a b c d =>
          rw [hx] at h
          dsimp only at h ⊢
          obtain ⟨q, hq, h⟩ := Option.bind_eq_some_iff.1 h
          rw [elems_ext G hq, Option.bind_some]
          split at h <;> cases h
          rename_i hc
          exact ⟨_, if_pos hc⟩
        | _ => rw [hx] at h; cases h
      | _ => exact absurd rfl hf
    | slice k x lo hi mx =>
      cases k with
      | arr alen n =>
        simp only [evOp, ans] at h ⊢
        obtain ⟨u, hu, hh⟩ := Option.map_eq_some_iff.1 h
        refine ⟨H ++ G, ?_⟩
        have : sliceV (H ++ G) (.arr alen n) (ρ x) (lo.map ρ) (hi.map ρ) (mx.map ρ) = some u := by
          unfold sliceV at hu ⊢
          split at hu
          · cases hu
          · rename_i hc
            rw [if_neg hc]
            cases hx : ρ x with
            | ptr id off =>
              rw [hx] at hu
              dsimp only at hu ⊢
              split at hu
              · rename_i h1 h2 h3 h4
                rw [h1, h2, h3, peek_ext G h4]
                exact hu
              · cases hu
            | _ => rw [hx] at hu; cases hu
        rw [this]
        cases hh
        rfl
      | _ => exact absurd rfl hf
    | _ => first | (exact absurd rfl hf) | (cases hp)

theorem quiet_ext {call : CallT} {inl : FuncId → Bool} {e : Env} {o : AO} {H : List Ob} (G : List Ob) {v : V} (h : quietOp call inl e H o = some v) :
    quietOp call inl e (H ++ G) o = some v := by
  have go : ∀ (hh : (match evOp (evO e) H o.op with
    | some (.val v _) => if pureOp o.op then some v else none
    | some (.call k args) => match mapOpt (lendV H depthF) args with
      | some l => if groundL l then (match doCall call inl k l [] with
        | some (.ret v, []) => if ground v && (listFree v || groundL args) then some v else none
        | _ => none) else none
      | none => none
    | _ => none) = some v), (match evOp (evO e) (H ++ G) o.op with
    | some (.val v _) => if pureOp o.op then some v else none
    | some (.call k args) => match mapOpt (lendV (H ++ G) depthF) args with
      | some l => if groundL l then (match doCall call inl k l [] with
        | some (.ret v, []) => if ground v && (listFree v || groundL args) then some v else none
        | _ => none) else none
      | none => none
    | _ => none) = some v := by
    intro hh
    cases hv : evOp (evO e) H o.op with
    | none => rw [hv] at hh; cases hh
    | some q =>
      cases q with
      | val u H1 =>
        rw [hv] at hh
        dsimp only at hh
        have hp : pureOp o.op = true := by
          split at hh
          · assumption
          · cases hh
        obtain ⟨H2, h2⟩ := evOp_ext hp G hv
        rw [h2]
        exact hh
      | skip _ => rw [hv] at hh; cases hh
      | panic _ _ => rw [hv] at hh; cases hh
      | call k args =>
        have hc : evOp (evO e) (H ++ G) o.op = some (.call k args) := by
          generalize o.op = op at hv
          cases op with
          | call f l => exact hv
          | callv f l => exact hv
          | conv kk x =>
            exfalso
            cases kk with
            | b2s =>
              simp only [evOp] at hv
              split at hv
              · obtain ⟨a, _, hv⟩ := Option.bind_eq_some_iff.1 hv
                split at hv <;> cases hv
              · obtain ⟨a, _, hv⟩ := Option.bind_eq_some_iff.1 hv
                split at hv <;> cases hv
              · cases hv
            | _ =>
              simp only [evOp] at hv
              first
              | (cases hv; done)
              | (split at hv <;> cases hv)
          | append n b z s x =>
            exfalso
            simp only [evOp] at hv
            repeat' split at hv
            all_goals cases hv
          | mem k l =>
            exfalso
            simp only [evOp] at hv
            exact memV_nocall hv
          | _ =>
            exfalso
            simp only [evOp, ans] at hv
            repeat' split at hv
            all_goals first | (cases hv; done) | (obtain ⟨_, _, hv⟩ := Option.map_eq_some_iff.1 hv; cases hv)
        rw [hc]
        rw [hv] at hh
        dsimp only at hh ⊢
        split at hh
        · rename_i l hl
          rw [lends_ext G _ _ _ hl]
          exact hh
        · cases hh
  unfold quietOp at h ⊢
  dsimp only at h ⊢
  cases hg : o.guard with
  | none => rw [hg] at h; exact go h
  | some tw =>
    rw [hg] at h
    obtain ⟨t', w⟩ := tw
    dsimp only at h ⊢
    cases he : e t' with
    | bool b =>
      simp only [he] at h ⊢
      by_cases hb : b = w
      · simp only [hb, if_true] at h ⊢; exact go h
      · simp only [hb, if_false] at h ⊢; exact h
    | tuple l =>
      simp only [he] at h ⊢
      cases l with
      | nil => exact h
      | cons _ _ => cases h
    | _ => simp only [he] at h; cases h

theorem eff_ext {call : CallT} {inl : FuncId → Bool} {e : Env} {o : AO} (hx : isExt o.op = true) {H H' : List Ob} {v : V} (h : effOp call inl e H o = some (v, H')) :
    ∃ G, H' = H ++ G := by
  have go : ∀ (hh : (match evOp (evO e) H o.op with
    | some (.val v H') => some (v, H')
    | some (.skip H') => some (uv, H')
    | some (.call k args) => match doCall call inl k args H with
      | some (.ret v, H') => some (v, H')
      | _ => none
    | _ => none) = some (v, H')), ∃ G, H' = H ++ G := by
    intro hh
    generalize o.op = op at hx hh
    cases op with
    | alloc z => cases hh; exact ⟨_, rfl⟩
    | box x =>
      simp only [evOp] at hh
      split at hh
      · rename_i h1; split at h1 <;> cases h1; cases hh; exact ⟨_, rfl⟩
      · rename_i h1; split at h1 <;> cases h1
      · rename_i h1; split at h1 <;> cases h1
      · cases hh
    | buildSlice n l z ps =>
      simp only [evOp] at hh
      split at hh
      · rename_i h1
        split at h1
        · split at h1 <;> cases h1 <;> cases hh
          · exact ⟨[], (List.append_nil _).symm⟩
          · exact ⟨_, rfl⟩
        · cases h1
      · rename_i h1; repeat' split at h1
        all_goals cases h1
      · rename_i h1; repeat' split at h1
        all_goals cases h1
      · cases hh
    | makeSlice n b z l c =>
      simp only [evOp] at hh
      split at hh
      · rename_i h1
        repeat' split at h1
        all_goals first | (cases h1; done) | (cases h1; cases hh; first | exact ⟨[], (List.append_nil _).symm⟩ | exact ⟨_, rfl⟩)
      · rename_i h1
        repeat' split at h1
        all_goals cases h1
      · rename_i h1
        repeat' split at h1
        all_goals cases h1
      · cases hh
    | _ => cases hx
  unfold effOp at h
  dsimp only at h
  split at h
  · exact go h
  · split at h
    · split at h
      · exact go h
      · cases h; exact ⟨[], (List.append_nil _).symm⟩
    · cases h; exact ⟨[], (List.append_nil _).symm⟩
    · cases h
end Fz
namespace Fz
open Go

theorem trace_more {call : CallT} {inl : FuncId → Bool} (r : List AO) : ∀ (e : Env) (hs : List (List Ob)) (t) (hs' : List (List Ob)) (e' : Env),
    trace call inl r e hs = some (t, hs', e') → ∃ m, hs' = hs ++ m := by
  induction r with
  | nil => intro e hs t hs' e' h; cases h; exact ⟨[], by simp⟩
  | cons o r ih =>
    intro e hs t hs' e' h
    unfold trace at h
    split at h
    · cases h
    · split at h
      · split at h
        · cases h
        · obtain ⟨x, hx, hh⟩ := Option.map_eq_some_iff.1 h
          obtain ⟨t1, h1, e1⟩ := x
          cases hh
          obtain ⟨m, hm⟩ := ih _ _ _ _ _ hx
          exact ⟨_, by rw [hm, List.append_assoc]⟩
      · split at h
        · cases h
        · obtain ⟨x, hx, hh⟩ := Option.map_eq_some_iff.1 h
          obtain ⟨t1, h1, e1⟩ := x
          cases hh
          exact ih _ _ _ _ _ hx

theorem trace_ext {call : CallT} {inl : FuncId → Bool} (r : List AO) : ∀ (m : Nat) (e : Env) (hs : List (List Ob)) (H : List Ob) (t) (hs' : List (List Ob)) (e' : Env),
    trace call inl r e hs = some (t, hs', e') → hs.getLast? = some H → (((r.filter fun o => o.eff).take m).all fun q => isExt q.op) = true →
    ∀ G ∈ (hs'.drop (hs.length - 1)).take (m + 1), ∃ A, G = H ++ A := by
  induction r with
  | nil =>
    intro m e hs H t hs' e' h hl _ G hG
    cases h
    have h2 : hs = hs.dropLast ++ [H] := by
      rw [List.getLast?_eq_some_iff] at hl
      obtain ⟨ys, rfl⟩ := hl
      simp
    rw [h2, show (hs.dropLast ++ [H]).length - 1 = hs.dropLast.length from by simp, List.drop_left] at hG
    have := List.mem_of_mem_take hG
    rw [List.mem_singleton] at this
    exact ⟨[], by rw [this, List.append_nil]⟩
  | cons o r ih =>
    intro m e hs H t hs' e' h hl hx G hG
    have hm := trace_more _ _ _ _ _ _ h
    unfold trace at h
    rw [hl] at h
    dsimp only at h
    split at h
    · rename_i heff
      split at h
      · cases h
      · rename_i v H1 hv
        obtain ⟨x, hx2, hh⟩ := Option.map_eq_some_iff.1 h
        obtain ⟨t1, h1, e1⟩ := x
        cases hh
        rw [List.filter_cons, if_pos heff] at hx
        obtain ⟨M, hM⟩ := hm
        have h2 : hs = hs.dropLast ++ [H] := by
          rw [List.getLast?_eq_some_iff] at hl
          obtain ⟨ys, rfl⟩ := hl
          simp
        have hd : hs'.drop (hs.length - 1) = H :: hs'.drop hs.length := by
          rw [hM]
          rw [List.drop_left]
          rw [h2, List.append_assoc, show (hs.dropLast ++ [H]).length - 1 = hs.dropLast.length from by simp, List.drop_left]
          rfl
        rw [hd, List.take_succ_cons, List.mem_cons] at hG
        rcases hG with rfl | hG
        · exact ⟨[], (List.append_nil _).symm⟩
        · cases m with
          | zero => rw [List.take_zero] at hG; cases hG
          | succ m =>
            rw [List.take_succ_cons, List.all_cons, Bool.and_eq_true] at hx
            obtain ⟨A, rfl⟩ := eff_ext hx.1 hv
            obtain ⟨B, rfl⟩ := ih m _ _ (H ++ A) _ _ _ hx2 (by simp) hx.2 G (by
              rw [List.length_append, List.length_singleton, Nat.add_sub_cancel]
              exact hG)
            exact ⟨A ++ B, List.append_assoc ..⟩
    · rename_i heff
      split at h
      · cases h
      · rename_i v hv
        obtain ⟨x, hx2, hh⟩ := Option.map_eq_some_iff.1 h
        obtain ⟨t1, h1, e1⟩ := x
        cases hh
        rw [List.filter_cons, if_neg heff] at hx
        exact ih m _ _ H _ _ _ hx2 hl hx G hG

theorem steady_calm {call : CallT} {inl : FuncId → Bool} {ops : List AO} {an : List (List Nat)} {effs : List AO} (r : List AO) : ∀ (s : Nat) (e : Env) (hs : List (List Ob)) (t) (hs' : List (List Ob)) (e' : Env),
    trace call inl r e hs = some (t, hs', e') → effs.drop (hs.length - 1) = (r.filter fun o => o.eff) → calmGo ops an effs (r.zipIdx s) (hs.length - 1) = true → steadyAll call inl ops an hs' (r.zipIdx s) t = true := by
  induction r with
  | nil => intro s e hs t hs' e' h _ _; cases h; rfl
  | cons o r ih =>
    intro s e hs t hs' e' h hE hc
    have hext := fun m H => trace_ext (o :: r) m e hs H t hs' e' h
    obtain ⟨m, hm⟩ := trace_more _ _ _ _ _ _ h
    rw [List.zipIdx_cons] at hc ⊢
    unfold calmGo at hc
    rw [Bool.and_eq_true] at hc
    obtain ⟨hc1, hc2⟩ := hc
    unfold trace at h
    split at h
    · cases h
    · rename_i H hl
      have hlen : hs.length ≠ 0 := by intro h0; rw [List.length_eq_zero_iff.1 h0] at hl; cases hl
      split at h
      · rename_i heff
        split at h
        · cases h
        · obtain ⟨x, hx, hh⟩ := Option.map_eq_some_iff.1 h
          obtain ⟨t1, h1, e1⟩ := x
          cases hh
          unfold steadyAll
          rw [Bool.and_eq_true]
          have e2 : hs.length + 1 - 1 = hs.length - 1 + 1 := by omega
          refine ⟨by rw [heff]; rfl, ih _ _ _ _ _ _ hx ?_ ?_⟩
          · rw [List.length_append, List.length_singleton, e2, ← List.drop_drop, hE, List.filter_cons, if_pos heff]
            rfl
          · rw [if_pos heff] at hc2
            rw [List.length_append, List.length_singleton, e2]
            exact hc2
      · rename_i heff
        split at h
        · cases h
        · rename_i v hv
          obtain ⟨x, hx, hh⟩ := Option.map_eq_some_iff.1 h
          obtain ⟨t1, h1, e1⟩ := x
          cases hh
          unfold steadyAll
          rw [Bool.and_eq_true]
          refine ⟨?_, ih _ _ _ _ _ _ hx (by rw [hE, List.filter_cons, if_neg heff]) (by rw [if_neg heff] at hc2; exact hc2)⟩
          rw [Bool.or_eq_true]
          refine .inr ?_
          rw [Bool.or_eq_true, Bool.or_eq_true] at hc1
          have key : ∀ l : List (List Ob), (∀ G ∈ l, quietOp call inl e G o = some v) → steady call inl e v o l = true := by
            intro l
            induction l with
            | nil => intro _; rfl
            | cons H' l ihl =>
              intro hq
              unfold steady
              rw [hq H' (List.mem_cons_self ..), Bool.and_eq_true]
              exact ⟨veq_refl v, ihl fun G hG => hq G (List.mem_cons_of_mem _ hG)⟩
          rcases hc1 with (h1 | h1) | h1
          · exact absurd h1 heff
          · exact key _ fun G _ => quiet_free h1 H G hv
          · rw [Bool.and_eq_true, beq_iff_eq] at h1
            obtain ⟨h1, h2⟩ := h1
            rw [h1]
            by_cases hh : hs.length - 1 ≤ hiOf ops an s
            · refine key _ fun G hG => ?_
              rw [hE] at h2
              rw [show hiOf ops an s + 1 - (hs.length - 1) = hiOf ops an s - (hs.length - 1) + 1 from by omega] at hG
              obtain ⟨A, rfl⟩ := hext _ H hl h2 G hG
              exact quiet_ext A hv
            · rw [show hiOf ops an s + 1 - (hs.length - 1) = 0 from by omega, List.take_zero]
              rfl

theorem runDraw_calm {call : CallT} {inl : FuncId → Bool} {ops : List AO} (hc : calm ops = true) {e : Env} {H : List Ob} {t hs e' H'}
    (h : trace call inl ops e [H] = some (t, hs, e')) (hl : hs.getLast? = some H') : runDraw call inl ops e H = some (.normal, e', H') := by
  unfold calm at hc
  rw [Bool.and_eq_true] at hc
  unfold runDraw
  rw [h]
  dsimp only
  rw [hc.1, steady_calm ops 0 _ _ _ _ _ h rfl hc.2, hl]
  rfl

/-- Operations in turn, those that leave the heap alone apart. -/
def wCalm (p : AP) (Q : X → Env → List Ob → Prop) : List AO → Env → List Ob → Prop
  | [], e, H => Q .normal e H
  | o :: r, e, H => if o.eff = true then
      wGuard e o.guard (wAct p e H (fun v H' => wCalm p Q r (putE e o.dst v) H') (fun _ _ => False) o.op) (wCalm p Q r (putE e o.dst uv) H)
    else wGuard e o.guard (wQ p e H (fun v => wCalm p Q r (putE e o.dst v) H) o.op) (wCalm p Q r (putE e o.dst uv) H)

theorem noskip {ρ : Opd → V} {H H' : List Ob} {op : AOp} (h : pureOp op = true) : evOp ρ H op ≠ some (.skip H') := by
  intro h2
  cases op with
  | store n a x => cases h
  | append _ _ _ _ _ => cases h
  | mem _ _ => cases h
  | conv k x =>
    cases k with
    | b2s =>
      simp only [evOp] at h2
      split at h2
      · obtain ⟨a, _, h2⟩ := Option.bind_eq_some_iff.1 h2
        split at h2 <;> cases h2
      · obtain ⟨a, _, h2⟩ := Option.bind_eq_some_iff.1 h2
        split at h2 <;> cases h2
      · cases h2
    | _ =>
      simp only [evOp] at h2
      first
      | (cases h2; done)
      | (split at h2 <;> cases h2)
  | _ =>
    simp only [evOp, ans] at h2
    repeat' split at h2
    all_goals first | (cases h2; done) | (obtain ⟨_, _, h2⟩ := Option.map_eq_some_iff.1 h2; cases h2)

theorem wQ_ok {p : AP} {e : Env} {H : List Ob} {K : V → Prop} {op : AOp} (h : wQ p e H K op) :
    (∃ v H', evOp (evO e) H op = some (.val v H') ∧ pureOp op = true ∧ K v) ∨
    (∃ f args, evOp (evO e) H op = some (.call f args) ∧ WQuiet p f args H K) := by
  unfold wQ at h
  split at h
  · exact .inr ⟨_, _, rfl, h⟩
  · split at h
    · rename_i hf; exact .inr ⟨_, _, by simp only [evOp, hf, if_neg h.1], h.2⟩
    · cases h
    · cases h
  · obtain ⟨h1, h⟩ := h
    obtain ⟨v, H', h2, h3⟩ := wOp_ok h
    rcases h2 with h2 | ⟨h2, _⟩
    · exact .inl ⟨v, H', h2, h1, h3⟩
    · exact absurd h2 (noskip h1)

theorem wEff_ok {p : AP} {e : Env} {H : List Ob} {K : V → List Ob → Prop} {o : AO} {N : Prop}
    (h : wGuard e o.guard (wAct p e H K (fun _ _ => False) o.op) N) :
    (∃ n v H', effOp (acall p n) p.inlY e H o = some (v, H') ∧ K v H') ∨ ((∀ n, effOp (acall p n) p.inlY e H o = some (uv, H)) ∧ N) := by
  have go : ∀ (hh : wAct p e H K (fun _ _ => False) o.op), ∃ n v H', (match evOp (evO e) H o.op with
      | some (.val v H') => some (v, H')
      | some (.skip H') => some (uv, H')
      | some (.call k args) => match doCall (acall p n) p.inlY k args H with
        | some (.ret v, H') => some (v, H')
        | _ => none
      | _ => none) = some (v, H') ∧ K v H' := by
    intro hh
    rcases wAct_ok hh with ⟨v, H', h1, h2⟩ | ⟨v, H', h1, h2⟩ | ⟨f, args, h1, n, c, H', h2, h3⟩
    · rcases h1 with h1 | ⟨h1, rfl⟩
      · exact ⟨0, v, H', by rw [h1], h2⟩
      · exact ⟨0, _, H', by rw [h1], h2⟩
    · cases h2
    · cases c with
      | ret v => exact ⟨n, v, H', by rw [h1]; dsimp only; rw [h2], h3⟩
      | panic v => cases h3
  unfold wGuard at h
  unfold effOp
  dsimp only
  cases hg : o.guard with
  | none => rw [hg] at h; exact .inl (go h)
  | some tw =>
    obtain ⟨t, w⟩ := tw
    rw [hg] at h
    dsimp only at h ⊢
    cases he : e t with
    | bool b =>
      simp only [he] at h ⊢
      by_cases hb : b = w
      · rw [if_pos hb] at h; simp only [if_pos hb]; exact .inl (go h)
      · rw [if_neg hb] at h; simp only [if_neg hb]; exact .inr ⟨fun _ => trivial, h⟩
    | tuple l =>
      simp only [he] at h ⊢
      obtain ⟨rfl, h⟩ := h
      exact .inr ⟨fun _ => rfl, h⟩
    | _ => simp only [he] at h

theorem wQuiet_ok {p : AP} {e : Env} {H : List Ob} {K : V → Prop} {o : AO} {N : Prop}
    (h : wGuard e o.guard (wQ p e H K o.op) N) :
    (∃ n v, quietOp (acall p n) p.inlY e H o = some v ∧ K v) ∨ ((∀ n, quietOp (acall p n) p.inlY e H o = some uv) ∧ N) := by
  have go : ∀ (hh : wQ p e H K o.op), ∃ n v, (match evOp (evO e) H o.op with
      | some (.val v _) => if pureOp o.op then some v else none
      | some (.call k args) => match mapOpt (lendV H depthF) args with
        | some l => if groundL l then (match doCall (acall p n) p.inlY k l [] with
          | some (.ret v, []) => if ground v && (listFree v || groundL args) then some v else none
          | _ => none) else none
        | none => none
      | _ => none) = some v ∧ K v := by
    intro hh
    rcases wQ_ok hh with ⟨v, H', h1, h2, h3⟩ | ⟨f, args, h1, n, l, v, h2, h3, h4, h5, h6⟩
    · exact ⟨0, v, by rw [h1]; simp only [h2, if_true], h3⟩
    · exact ⟨n, v, by rw [h1]; simp only [h2, h3, if_true, h4, h5], h6⟩
  unfold wGuard at h
  unfold quietOp
  dsimp only
  cases hg : o.guard with
  | none => rw [hg] at h; exact .inl (go h)
  | some tw =>
    obtain ⟨t, w⟩ := tw
    rw [hg] at h
    dsimp only at h ⊢
    cases he : e t with
    | bool b =>
      simp only [he] at h ⊢
      by_cases hb : b = w
      · rw [if_pos hb] at h; simp only [if_pos hb]; exact .inl (go h)
      · rw [if_neg hb] at h; simp only [if_neg hb]; exact .inr ⟨fun _ => trivial, h⟩
    | tuple l =>
      simp only [he] at h ⊢
      obtain ⟨rfl, h⟩ := h
      exact .inr ⟨fun _ => rfl, h⟩
    | _ => simp only [he] at h

theorem wCalm_trace {p : AP} {Q : X → Env → List Ob → Prop} (ops : List AO) : ∀ (e : Env) (H : List Ob) (hs : List (List Ob)), wCalm p Q ops e H → hs.getLast? = some H →
    ∃ n t hs' e' H', trace (acall p n) p.inlY ops e hs = some (t, hs', e') ∧ hs'.getLast? = some H' ∧ Q .normal e' H' := by
  induction ops with
  | nil => intro e H hs h hl; exact ⟨0, _, _, _, _, rfl, hl, h⟩
  | cons o r ih =>
    intro e H hs h hl
    unfold wCalm at h
    unfold trace
    rw [hl]
    dsimp only
    by_cases he : o.eff = true
    · rw [if_pos he] at h
      simp only [if_pos he]
      rcases wEff_ok h with ⟨n, v, H', h1, h2⟩ | ⟨h1, h2⟩
      · obtain ⟨m, t, hs', e', H'', h3, h4, h5⟩ := ih _ _ (hs ++ [H']) h2 (by simp)
        refine ⟨max n m, (e, hs.length - 1, v) :: t, hs', e', H'', ?_, h4, h5⟩
        rw [effOp_mono (acall_le p (Nat.le_max_left n m)) _ _ _ _ _ h1]
        dsimp only
        rw [trace_mono (acall_le p (Nat.le_max_right n m)) _ _ _ _ _ h3]
        rfl
      · obtain ⟨m, t, hs', e', H'', h3, h4, h5⟩ := ih _ _ (hs ++ [H]) h2 (by simp)
        refine ⟨m, (e, hs.length - 1, uv) :: t, hs', e', H'', ?_, h4, h5⟩
        rw [h1]
        dsimp only
        rw [h3]
        rfl
    · rw [if_neg he] at h
      simp only [if_neg he]
      rcases wQuiet_ok h with ⟨n, v, h1, h2⟩ | ⟨h1, h2⟩
      · obtain ⟨m, t, hs', e', H'', h3, h4, h5⟩ := ih _ _ hs h2 hl
        refine ⟨max n m, (e, hs.length - 1, v) :: t, hs', e', H'', ?_, h4, h5⟩
        rw [quietOp_mono (acall_le p (Nat.le_max_left n m)) _ _ _ _ _ h1]
        dsimp only
        rw [trace_mono (acall_le p (Nat.le_max_right n m)) _ _ _ _ _ h3]
        rfl
      · obtain ⟨m, t, hs', e', H'', h3, h4, h5⟩ := ih _ _ hs h2 hl
        refine ⟨m, (e, hs.length - 1, uv) :: t, hs', e', H'', ?_, h4, h5⟩
        rw [h1]
        dsimp only
        rw [h3]
        rfl

def WDraw (p : AP) (ops : List AO) (e : Env) (H : List Ob) (Q : X → Env → List Ob → Prop) : Prop :=
  ∃ n x e' H', runDraw (acall p n) p.inlY ops e H = some (x, e', H') ∧ Q x e' H'
theorem WDraw_calm {p : AP} {ops : List AO} (hc : calm ops = true) {e : Env} {H : List Ob} {Q : X → Env → List Ob → Prop} (h : wCalm p Q ops e H) : WDraw p ops e H Q := by
  obtain ⟨n, t, hs', e', H', h1, h2, h3⟩ := wCalm_trace ops e H [H] h rfl
  exact ⟨n, _, _, _, runDraw_calm hc h1 h2, h3⟩

/-- Operations of which none changes the heap, in turn. -/
def wSame (p : AP) (Q : X → Env → List Ob → Prop) : List AO → Env → List Ob → Prop
  | [], e, H => Q .normal e H
  | o :: r, e, H => if o.eff = true then
      wGuard e o.guard (wAct p e H (fun v H' => H' = H ∧ wSame p Q r (putE e o.dst v) H) (fun _ _ => False) o.op) (wSame p Q r (putE e o.dst uv) H)
    else wGuard e o.guard (wQ p e H (fun v => wSame p Q r (putE e o.dst v) H) o.op) (wSame p Q r (putE e o.dst uv) H)

theorem wSame_trace {p : AP} {Q : X → Env → List Ob → Prop} (ops : List AO) : ∀ (e : Env) (H : List Ob) (hs : List (List Ob)), wSame p Q ops e H → hs.getLast? = some H → (∀ G ∈ hs, G = H) →
    ∃ n t hs' e', trace (acall p n) p.inlY ops e hs = some (t, hs', e') ∧ hs'.getLast? = some H ∧ (∀ G ∈ hs', G = H) ∧ Q .normal e' H := by
  induction ops with
  | nil => intro e H hs h hl ha; exact ⟨0, _, _, _, rfl, hl, ha, h⟩
  | cons o r ih =>
    intro e H hs h hl ha
    unfold wSame at h
    unfold trace
    rw [hl]
    dsimp only
    have ha' : ∀ G ∈ hs ++ [H], G = H := by
      intro G hG
      rcases List.mem_append.1 hG with h | h
      · exact ha G h
      · exact List.mem_singleton.1 h
    by_cases he : o.eff = true
    · rw [if_pos he] at h
      simp only [if_pos he]
      rcases wEff_ok h with ⟨n, v, H', h1, rfl, h2⟩ | ⟨h1, h2⟩
      · obtain ⟨m, t, hs', e', h3, h4, h5, h6⟩ := ih _ _ (hs ++ [H']) h2 (by simp) ha'
        refine ⟨max n m, (e, hs.length - 1, v) :: t, hs', e', ?_, h4, h5, h6⟩
        rw [effOp_mono (acall_le p (Nat.le_max_left n m)) _ _ _ _ _ h1]
        dsimp only
        rw [trace_mono (acall_le p (Nat.le_max_right n m)) _ _ _ _ _ h3]
        rfl
      · obtain ⟨m, t, hs', e', h3, h4, h5, h6⟩ := ih _ _ (hs ++ [H]) h2 (by simp) ha'
        refine ⟨m, (e, hs.length - 1, uv) :: t, hs', e', ?_, h4, h5, h6⟩
        rw [h1]
        dsimp only
        rw [h3]
        rfl
    · rw [if_neg he] at h
      simp only [if_neg he]
      rcases wQuiet_ok h with ⟨n, v, h1, h2⟩ | ⟨h1, h2⟩
      · obtain ⟨m, t, hs', e', h3, h4, h5, h6⟩ := ih _ _ hs h2 hl ha
        refine ⟨max n m, (e, hs.length - 1, v) :: t, hs', e', ?_, h4, h5, h6⟩
        rw [quietOp_mono (acall_le p (Nat.le_max_left n m)) _ _ _ _ _ h1]
        dsimp only
        rw [trace_mono (acall_le p (Nat.le_max_right n m)) _ _ _ _ _ h3]
        rfl
      · obtain ⟨m, t, hs', e', h3, h4, h5, h6⟩ := ih _ _ hs h2 hl ha
        refine ⟨m, (e, hs.length - 1, uv) :: t, hs', e', ?_, h4, h5, h6⟩
        rw [h1]
        dsimp only
        rw [h3]
        rfl

theorem steady_same {call : CallT} {inl : FuncId → Bool} {ops : List AO} {an : List (List Nat)} {H : List Ob} {hsF : List (List Ob)} (hF : ∀ G ∈ hsF, G = H) (r : List AO) :
    ∀ (s : Nat) (e : Env) (hs : List (List Ob)) (t) (hs' : List (List Ob)) (e' : Env), trace call inl r e hs = some (t, hs', e') → (∀ G ∈ hs', G = H) → steadyAll call inl ops an hsF (r.zipIdx s) t = true := by
  induction r with
  | nil => intro s e hs t hs' e' h _; cases h; rfl
  | cons o r ih =>
    intro s e hs t hs' e' h hall
    obtain ⟨m, hm⟩ := trace_more _ _ _ _ _ _ h
    rw [List.zipIdx_cons]
    unfold trace at h
    split at h
    · cases h
    · rename_i G hl
      have hG : G = H := hall G (by rw [hm]; exact List.mem_append_left _ (List.mem_of_getLast? hl))
      split at h
      · rename_i heff
        split at h
        · cases h
        · obtain ⟨x, hx, hh⟩ := Option.map_eq_some_iff.1 h
          obtain ⟨t1, h1, e1⟩ := x
          cases hh
          unfold steadyAll
          rw [Bool.and_eq_true]
          exact ⟨by rw [heff]; rfl, ih _ _ _ _ _ _ hx hall⟩
      · split at h
        · cases h
        · rename_i v hv
          obtain ⟨x, hx, hh⟩ := Option.map_eq_some_iff.1 h
          obtain ⟨t1, h1, e1⟩ := x
          cases hh
          unfold steadyAll
          rw [Bool.and_eq_true]
          refine ⟨?_, ih _ _ _ _ _ _ hx hall⟩
          rw [Bool.or_eq_true]
          refine .inr ?_
          have : ∀ l : List (List Ob), (∀ G ∈ l, G = H) → steady call inl e v o l = true := by
            intro l
            induction l with
            | nil => intro _; rfl
            | cons H' l ihl =>
              intro hl'
              unfold steady
              rw [hl' H' (List.mem_cons_self ..), ← hG, hv, Bool.and_eq_true]
              exact ⟨veq_refl v, ihl fun G hG => hl' G (List.mem_cons_of_mem _ hG)⟩
          exact this _ fun G hG => hF G (List.mem_of_mem_drop (List.mem_of_mem_take hG))

theorem WDraw_same {p : AP} {ops : List AO} (hc : okDraw ops = true) {e : Env} {H : List Ob} {Q : X → Env → List Ob → Prop} (h : wSame p Q ops e H) : WDraw p ops e H Q := by
  obtain ⟨n, t, hs', e', h1, h2, h3, h4⟩ := wSame_trace ops e H [H] h rfl (fun G hG => List.mem_singleton.1 hG)
  refine ⟨n, .normal, e', H, ?_, h4⟩
  unfold runDraw
  rw [h1]
  dsimp only
  rw [hc, steady_same h3 ops 0 _ _ _ _ _ h1 h3, h2]
  rfl
end Fz
namespace Fz
open Go

/-- Code, its regions whose order is open told apart. -/
inductive WC where
  | skip
  | reg (ops : List AO)
  | calm (ops : List AO)
  | same (ops : List AO)
  | draw (ops : List AO)
  | seq (a b : WC)
  | cond (c : Opd) (thn els : WC)
  | block (id : Nat) (body : WC)
  | loop (body : WC)
  | exit (id : Nat)
  | ret
  | fix (t : Option Nat) (body : WC)
  | range (k : Nat) (f : Opd) (ps : List Nat) (assign body : WC)
def toA : WC → ACode
  | .skip => .skip
  | .reg ops => .region ops false
  | .calm ops => .region ops true
  | .same ops => .region ops true
  | .draw ops => .region ops true
  | .seq a b => .seq (toA a) (toA b)
  | .cond c a b => .cond c (toA a) (toA b)
  | .block i b => .block i (toA b)
  | .loop b => .loop (toA b)
  | .exit i => .exit i
  | .ret => .ret
  | .fix t b => .fix t (toA b)
  | .range k f ps a b => .range k f ps (toA a) (toA b)
/-- Are they as they are told to be? -/
def okW : WC → Bool
  | .calm ops => Fz.calm ops
  | .same ops => okDraw ops
  | .seq a b => okW a && okW b
  | .cond _ a b => okW a && okW b
  | .block _ b => okW b
  | .loop b => okW b
  | .fix _ b => okW b
  | _ => true

abbrev QX := X → Env → List Ob → Prop

def WX (p : AP) (c : ACode) (e : Env) (H : List Ob) (Q : QX) : Prop := ∃ n x e' H', exec p n c e H = some (x, e', H') ∧ Q x e' H'

def thenQ (N : Env → List Ob → Prop) (Q : QX) : QX := fun x e H => match x with
  | .normal => N e H
  | .mayRet => False
  | x => Q x e H
def blockQ (id : Nat) (Q : QX) : QX := fun x e H => match x with
  | .exit i => if i = id then Q .normal e H else Q (.exit i) e H
  | x => Q x e H

/-- A loop over a function. -/
def WRange (p : AP) (k : Nat) (f : V) (e : Env) (H : List Ob) (Q : QX) : Prop := ∃ ab g first cap, p.body k = some ab ∧ f = .fn (.func g) first cap ∧
  ∃ n r H2, doCall (callE p (exec p n)) (fun _ => true) g (first ++ [.yld H.length] ++ cap) (H ++ [.loop k ab.keep (ab.keep.map e) .ready]) = some (r, H2) ∧ ∃ x e' H', endRange H.length e (some (r, H2)) = some (x, e', H') ∧ Q x e' H'
def WL (p : AP) (b : WC) (e : Env) (H : List Ob) (Q : QX) : Prop := WX p (.loop (toA b)) e H Q

def wFixV (v : V) (H : List Ob) (K : V → List Ob → Prop) : Prop := ∃ v' H', freezeV depthF v H = some (v', H') ∧ K v' H'
def wFixH (H : List Ob) (K : List Ob → Prop) : Prop := ∃ H', freezeObs 0 H H = some H' ∧ K H'

/-- Two ways that come to the same. -/
def wJoin (A B : QX → Prop) (Q : QX) : Prop := ∃ x e1 e2 H', A (fun x' e' H'' => x' = x ∧ e' = e1 ∧ H'' = H') ∧ B (fun x' e' H'' => x' = x ∧ e' = e2 ∧ H'' = H') ∧ (xEq x x = true ∧ obsEq H' H' = true) ∧ Q x (joinE e1 e2) H'
def wCond (v : V) (P N J : Prop) : Prop := match v with
  | .bool b => if b = true then P else N
  | .anyb => J
  | _ => False
def wx (p : AP) : WC → Env → List Ob → QX → Prop
  | .skip, e, H, Q => Q .normal e H
  | .reg ops, e, H, Q => wOps p Q ops e H
  | .calm ops, e, H, Q => wCalm p Q ops e H
  | .same ops, e, H, Q => wSame p Q ops e H
  | .draw ops, e, H, Q => WDraw p ops e H Q
  | .seq a b, e, H, Q => wx p a e H (thenQ (fun e H => wx p b e H Q) Q)
  | .cond c a b, e, H, Q => wCond (evO e c) (wx p a e H Q) (wx p b e H Q) (wJoin (wx p a e H) (wx p b e H) Q)
  | .block id b, e, H, Q => wx p b e H (blockQ id Q)
  | .loop b, e, H, Q => WL p b e H Q
  | .exit id, e, H, Q => Q (.exit id) e H
  | .ret, e, H, Q => Q .ret e H
  | .fix (some t) b, e, H, Q => wFixV (e t) H fun v H' => wx p b (upd e t v) H' Q
  | .fix none b, e, H, Q => wFixH H fun H' => wx p b e H' Q
  | .range k f _ _ _, e, H, Q => WRange p k (evO e f) e H Q

theorem WX_draw {p : AP} {ops : List AO} {e : Env} {H : List Ob} {Q : QX} (h : WDraw p ops e H Q) : WX p (.region ops true) e H Q := by
  obtain ⟨n, x, e', H', h1, h2⟩ := h
  exact ⟨n + 1, x, e', H', by unfold exec; exact h1, h2⟩

theorem wx_ok {p : AP} (c : WC) : ∀ (e : Env) (H : List Ob) (Q : QX), okW c = true → wx p c e H Q → WX p (toA c) e H Q := by
  induction c with
  | skip => intro e H Q _ h; exact ⟨1, _, _, _, rfl, h⟩
  | reg ops =>
    intro e H Q hc h
    obtain ⟨n, x, e', H', h1, h2⟩ := wOps_ok ops e H h
    exact ⟨n + 1, x, e', H', by unfold toA exec; exact h1, h2⟩
  | calm ops => intro e H Q hc h; exact WX_draw (WDraw_calm hc h)
  | same ops => intro e H Q hc h; exact WX_draw (WDraw_same hc h)
  | draw ops => intro e H Q hc h; exact WX_draw h
  | seq a b iha ihb =>
    intro e H Q hc h
    rw [okW, Bool.and_eq_true] at hc
    unfold wx at h
    obtain ⟨n, x, e', H', h1, h2⟩ := iha e H _ hc.1 h
    unfold toA
    cases x with
    | normal =>
      obtain ⟨m, x, e'', H'', h3, h4⟩ := ihb e' H' Q hc.2 h2
      refine ⟨max n m + 1, x, e'', H'', ?_, h4⟩
      rw [exec, exec_le p (Nat.le_max_left n m) _ _ _ _ h1]
      exact exec_le p (Nat.le_max_right n m) _ _ _ _ h3
    | mayRet => cases h2
    | _ => exact ⟨n + 1, _, _, _, by rw [exec, h1], h2⟩
  | cond c a b iha ihb =>
    intro e H Q hc h
    rw [okW, Bool.and_eq_true] at hc
    unfold wx wCond at h
    unfold toA
    cases hv : evO e c with
    | bool t =>
      rw [hv] at h
      cases t with
      | true =>
        obtain ⟨n, x, e', H', h1, h2⟩ := iha e H Q hc.1 h
        exact ⟨n + 1, x, e', H', by rw [exec, hv]; exact h1, h2⟩
      | false =>
        obtain ⟨n, x, e', H', h1, h2⟩ := ihb e H Q hc.2 h
        exact ⟨n + 1, x, e', H', by rw [exec, hv]; exact h1, h2⟩
    | anyb =>
      rw [hv] at h
      obtain ⟨x, e1, e2, H1, h1, h2, h3, h4⟩ := h
      obtain ⟨n, x1, e1', H1', g1, rfl, rfl, rfl⟩ := iha e H _ hc.1 h1
      obtain ⟨m, x2, e2', H2', g2, rfl, rfl, rfl⟩ := ihb e H _ hc.2 h2
      refine ⟨max n m + 1, _, _, _, ?_, h4⟩
      rw [exec, hv]
      dsimp only
      rw [exec_le p (Nat.le_max_left n m) _ _ _ _ g1, exec_le p (Nat.le_max_right n m) _ _ _ _ g2]
      simp only [joinR, h3.1, h3.2, if_true]
    | _ => rw [hv] at h; cases h
  | block id b ih =>
    intro e H Q hc h
    unfold wx at h
    unfold toA
    obtain ⟨n, x, e', H', h1, h2⟩ := ih e H _ hc h
    unfold blockQ at h2
    split at h2
    · rename_i i
      split at h2
      · rename_i hi; exact ⟨n + 1, _, _, _, by rw [exec, h1]; simp only [if_pos hi], h2⟩
      · rename_i hi; exact ⟨n + 1, _, _, _, by rw [exec, h1]; simp only [if_neg hi], h2⟩
    · rename_i hx
      refine ⟨n + 1, x, e', H', ?_, h2⟩
      rw [exec, h1]
      cases x with
      | exit i => exact absurd rfl (hx i)
      | _ => rfl
  | loop b ih => intro e H Q hc h; exact h
  | fix t b ih =>
    intro e H Q hc h
    unfold toA
    cases t with
    | some t =>
      unfold wx at h
      obtain ⟨v, H1, h1, h2⟩ := h
      obtain ⟨n, x, e', H', h3, h4⟩ := ih _ _ Q hc h2
      exact ⟨n + 1, x, e', H', by rw [exec, h1]; exact h3, h4⟩
    | none =>
      unfold wx at h
      obtain ⟨H1, h1, h2⟩ := h
      obtain ⟨n, x, e', H', h3, h4⟩ := ih _ _ Q hc h2
      exact ⟨n + 1, x, e', H', by rw [exec, h1]; exact h3, h4⟩
  | range k f ps a b _ _ =>
    intro e H Q _ h
    obtain ⟨ab, g, first, cap, h1, h2, n, r, H2, h3, x, e', H', h4, h5⟩ := h
    refine ⟨n + 1, x, e', H', ?_, h5⟩
    unfold toA
    rw [exec, h1, h2]
    dsimp only
    rw [h3]; exact h4
  | exit id => intro e H Q _ h; exact ⟨1, _, _, _, rfl, h⟩
  | ret => intro e H Q _ h; exact ⟨1, _, _, _, rfl, h⟩

/-- A loop: what holds ahead of each round, and falls. -/
def loopQ (I : Nat → Env → List Ob → Prop) (k : Nat) (Q : QX) : QX := fun x e H => match x with
  | .normal => ∃ k', k' < k ∧ I k' e H
  | .mayRet => False
  | x => Q x e H
theorem WL_by {p : AP} {b : WC} {Q : QX} {e : Env} {H : List Ob} (hc : okW b = true) (I : Nat → Env → List Ob → Prop) (k : Nat) (h : I k e H)
    (step : ∀ k e H, I k e H → wx p b e H (loopQ I k Q)) : WL p b e H Q := by
  unfold WL
  induction k using Nat.strongRecOn generalizing e H with
  | _ k ih =>
    obtain ⟨n, x, e', H', h1, h2⟩ := wx_ok b e H _ hc (step k e H h)
    cases x with
    | normal =>
      obtain ⟨k', hk, hI⟩ := h2
      obtain ⟨m, x, e'', H'', h3, h4⟩ := ih k' hk hI
      refine ⟨max n m + 1, x, e'', H'', ?_, h4⟩
      rw [exec, exec_le p (Nat.le_max_left n m) _ _ _ _ h1]
      exact exec_le p (Nat.le_max_right n m) _ _ _ _ h3
    | mayRet => cases h2
    | _ => exact ⟨n + 1, _, _, _, by rw [exec, h1], h2⟩

/-! ### Functions -/

def wResult (e : Env) (H : List Ob) (K : V → Prop) : Nat × Option (Bool × Nat) → Prop
  | (t, none) => K (e t)
  | (t, some (agg, n)) => wPeek H n (e t) fun l => if agg = true then K (.agg l) else ∃ v, l = [v] ∧ K v
def wResults (e : Env) (H : List Ob) : List (Nat × Option (Bool × Nat)) → (List V → Prop) → Prop
  | [], K => K []
  | r :: rs, K => wResult e H (fun v => wResults e H rs fun l => K (v :: l)) r
def tupV : List V → V
  | [v] => v
  | l => .tuple l
def finQ (rs : List (Nat × Option (Bool × Nat))) (Q : CR → List Ob → Prop) : QX := fun x e H => match x with
  | .normal => wResults e H rs fun l => Q (.ret (tupV l)) H
  | .ret => wResults e H rs fun l => Q (.ret (tupV l)) H
  | .panic v => Q (.panic v) H
  | .exit _ => False
  | .mayRet => False

theorem wResult_ok {e : Env} {H : List Ob} {K : V → Prop} {r : Nat × Option (Bool × Nat)} (h : wResult e H K r) : ∃ v, resultV e H r = some v ∧ K v := by
  obtain ⟨t, o⟩ := r
  cases o with
  | none => exact ⟨_, rfl, h⟩
  | some q =>
    obtain ⟨agg, n⟩ := q
    obtain ⟨l, h1, h2⟩ := wPeek_ok (show wPeek H n (e t) (fun l => if agg = true then K (.agg l) else ∃ v, l = [v] ∧ K v) from h)
    cases agg with
    | true => exact ⟨_, by simp only [resultV, h1]; rfl, h2⟩
    | false =>
      rw [if_neg Bool.false_ne_true] at h2
      obtain ⟨v, rfl, h2⟩ := h2
      exact ⟨v, by simp only [resultV, h1]; rfl, h2⟩
theorem wResults_ok {e : Env} {H : List Ob} : ∀ {rs : List (Nat × Option (Bool × Nat))} {K : List V → Prop}, wResults e H rs K → ∃ l, resultsV e H rs = some l ∧ K l
  | [], K, h => ⟨[], rfl, h⟩
  | r :: rs, K, h => by
    obtain ⟨v, h1, h2⟩ := wResult_ok h
    obtain ⟨l, h3, h4⟩ := wResults_ok h2
    exact ⟨v :: l, by rw [resultsV, h1, h3], h4⟩
theorem resultOf_eq {e : Env} {H : List Ob} {rs : List (Nat × Option (Bool × Nat))} {l : List V} (h : resultsV e H rs = some l) : resultOf e H rs = some (tupV l) := by
  unfold resultOf
  rw [h]
  match l with
  | [] => rfl
  | [v] => rfl
  | _ :: _ :: _ => rfl

def WFun (p : AP) (f : FuncId) (args : List V) (H : List Ob) (Q : CR → List Ob → Prop) : Prop := ∃ n r H', acall p n f args H = some (r, H') ∧ Q r H'

/-- A function, by its code. -/
structure WF where
  nt : Nat
  results : List (Nat × Option (Bool × Nat))
  code : WC
  dfr : Option (List WC × List AO × Opd × WC) := none
  rcv : Option Nat := none
def WF.toA (w : WF) : AFun := { nt := w.nt, results := w.results, code := Fz.toA w.code, dfr := w.dfr.map fun x => (x.1.map Fz.toA, x.2.1, x.2.2.1, Fz.toA x.2.2.2), rcv := w.rcv }

/-- Its pieces, around a call that is deferred. -/
def okD (w : WF) : Bool := match w.dfr with
  | some (pre, _, _, r) => pre.all okW && okW r
  | none => true
theorem WFun_of {p : AP} {f : FuncId} (w : WF) {args : List V} {H : List Ob} {Q : CR → List Ob → Prop} (hp : p.prim f = none) (hf : p.fn f = some w.toA)
    (hc : okW w.code = true) (h : wx p w.code (env0 args) H (finQ w.results Q)) (hY : f ≠ YF := by decide) (hd : w.dfr = none := by rfl) (hr : w.rcv = none := by rfl) : WFun p f args H Q := by
  obtain ⟨n, x, e, H', h1, h2⟩ := wx_ok _ _ _ _ hc h
  cases x with
  | normal =>
    obtain ⟨l, h3, h4⟩ := wResults_ok h2
    exact ⟨n, _, H', by simp only [acall, callW, if_neg hY, hp, hf, runFn, WF.toA, hd, hr, h1, finishF, resultOf_eq h3, Option.map_some, Option.map_none], h4⟩
  | ret =>
    obtain ⟨l, h3, h4⟩ := wResults_ok h2
    exact ⟨n, _, H', by simp only [acall, callW, if_neg hY, hp, hf, runFn, WF.toA, hd, hr, h1, finishF, resultOf_eq h3, Option.map_some, Option.map_none], h4⟩
  | panic v => exact ⟨n, _, H', by simp only [acall, callW, if_neg hY, hp, hf, runFn, WF.toA, hd, hr, h1, finishF, Option.map_none], h2⟩
  | exit _ => cases h2
  | mayRet => cases h2

/-! ### Calls by values that name no object -/

def shal : Nat → V → Bool
  | 0, _ => false
  | k + 1, v => match v with
    | .agg l => l.all (shal k)
    | .tuple l => l.all (shal k)
    | _ => true
/-- Names no object, and isn't deep. -/
def gr (v : V) : Bool := ground v && shal depthF v

theorem freeze_gr : ∀ (k : Nat) (v : V) (H : List Ob), ground v = true → shal k v = true → freezeV k v H = some (v, H) := by
  intro k
  induction k with
  | zero => intro v H _ h; cases h
  | succ k ih =>
    have hl : ∀ (l : List V) (H : List Ob), l.all ground = true → l.all (shal k) = true → mapS (freezeV k) l H = some (l, H) := by
      intro l
      induction l with
      | nil => intros; rfl
      | cons v l ihl =>
        intro H h1 h2
        rw [List.all_cons, Bool.and_eq_true] at h1 h2
        rw [mapS, ih v H h1.1 h2.1]
        dsimp only
        rw [ihl H h1.2 h2.2]
    intro v H h1 h2
    cases v with
    | agg l => simp only [freezeV, hl l H (by rw [← groundL_eq]; simpa only [ground] using h1) (by simpa only [shal] using h2), Option.map_some]
    | tuple l => simp only [freezeV, hl l H (by rw [← groundL_eq]; simpa only [ground] using h1) (by simpa only [shal] using h2), Option.map_some]
    | own _ _ _ _ => cases h1
    | mref _ => cases h1
    | _ => rfl

theorem lend_gr (H : List Ob) : ∀ (k : Nat) (v : V), ground v = true → shal k v = true → lendV H k v = some v := by
  intro k
  induction k with
  | zero => intro v _ h; cases h
  | succ k ih =>
    have hl : ∀ (l : List V), l.all ground = true → l.all (shal k) = true → mapOpt (lendV H k) l = some l := by
      intro l
      induction l with
      | nil => intros; rfl
      | cons v l ihl =>
        intro h1 h2
        rw [List.all_cons, Bool.and_eq_true] at h1 h2
        rw [mapOpt, ih v h1.1 h2.1, ihl h1.2 h2.2]
    intro v h1 h2
    cases v with
    | agg l => simp only [lendV, hl l (by rw [← groundL_eq]; simpa only [ground] using h1) (by simpa only [shal] using h2), Option.map_some]
    | tuple l => simp only [lendV, hl l (by rw [← groundL_eq]; simpa only [ground] using h1) (by simpa only [shal] using h2), Option.map_some]
    | own _ _ _ _ => cases h1
    | _ => rfl

theorem grs_freeze {l : List V} (h : l.all gr = true) (H : List Ob) : mapS (freezeV depthF) l H = some (l, H) := by
  induction l with
  | nil => rfl
  | cons v l ih =>
    rw [List.all_cons, Bool.and_eq_true] at h
    unfold gr at h
    rw [Bool.and_eq_true] at h
    rw [mapS, freeze_gr _ _ _ h.1.1 h.1.2]
    dsimp only
    rw [ih h.2]
theorem grs_lend {l : List V} (h : l.all gr = true) (H : List Ob) : mapOpt (lendV H depthF) l = some l := by
  induction l with
  | nil => rfl
  | cons v l ih =>
    rw [List.all_cons, Bool.and_eq_true] at h
    unfold gr at h
    rw [Bool.and_eq_true] at h
    rw [mapOpt, lend_gr _ _ _ h.1.1 h.1.2, ih h.2]
theorem grs_ground {l : List V} (h : l.all gr = true) : groundL l = true := by
  rw [groundL_eq, List.all_eq_true] at *
  intro v hv
  have := h v hv
  unfold gr at this
  exact (Bool.and_eq_true _ _ ▸ this).1

mutual
theorem ground_ren (g : Nat → Nat) : ∀ (v : V), ground v = true → ren g v = v := by
  intro v h
  cases v with
  | ptr _ _ => cases h
  | own _ _ _ _ => cases h
  | mref _ => cases h
  | any => cases h
  | yld _ => cases h
  | ref l => rw [ren, groundL_ren g l h]
  | list l c => rw [ren, groundL_ren g l h]
  | agg l => rw [ren, groundL_ren g l h]
  | tuple l => rw [ren, groundL_ren g l h]
  | fn f a b =>
    rw [ground, Bool.and_eq_true] at h
    rw [ren, groundL_ren g a h.1, groundL_ren g b h.2]
  | iface t v => rw [ren, ground_ren g v h]
  | map a b =>
    rw [ground, Bool.and_eq_true] at h
    rw [ren, groundL_ren g a h.1, groundL_ren g b h.2]
  | _ => rfl
theorem groundL_ren (g : Nat → Nat) : ∀ (l : List V), groundL l = true → renL g l = l := by
  intro l h
  cases l with
  | nil => rfl
  | cons v l =>
    rw [groundL, Bool.and_eq_true] at h
    rw [renL, ground_ren g v h.1, groundL_ren g l h.2]
end

mutual
/-- Is no slice's room known? -/
def nm : V → Bool
  | .list l c => !c && nmL l
  | .agg l => nmL l
  | .tuple l => nmL l
  | .iface _ v => nm v
  | _ => true
def nmL : List V → Bool
  | [] => true
  | v :: l => nm v && nmL l
end
mutual
theorem nrm_nm : ∀ (v : V), nm v = true → nrm v = v := by
  intro v h
  cases v with
  | list l c =>
    simp only [nm, Bool.and_eq_true, Bool.not_eq_true'] at h
    rw [nrm, nrmL_nm l h.2, h.1]
  | agg l => rw [nrm, nrmL_nm l (by simpa only [nm] using h)]
  | tuple l => rw [nrm, nrmL_nm l (by simpa only [nm] using h)]
  | iface t v => rw [nrm, nrm_nm v (by simpa only [nm] using h)]
  | _ => rfl
theorem nrmL_nm : ∀ (l : List V), nmL l = true → nrmL l = l := by
  intro l h
  cases l with
  | nil => rfl
  | cons v l =>
    rw [nmL, Bool.and_eq_true] at h
    rw [nrmL, nrm_nm v h.1, nrmL_nm l h.2]
end
theorem nmL_eq (l : List V) : nmL l = l.all nm := by
  induction l with
  | nil => rfl
  | cons v l ih => rw [nmL, ih, List.all_cons]
theorem nrms_nm {l : List V} (h : l.all nm = true) : l.map nrm = l := by
  rw [← nrmL_eq]; exact nrmL_nm l (by rw [nmL_eq]; exact h)

/-- What a function makes of values that name no object: a value that names none. -/
def Comes (p : AP) (f : FuncId) (args : List V) (v : V) : Prop :=
  args.all gr = true ∧ gr v = true ∧ (p.inlY f || args.all nm) = true ∧ ∃ n u H', acall p n f args [] = some (.ret u, H') ∧
    (p.inlY f = true ∧ u = v ∨ p.inlY f = false ∧ ∃ u' H'', freezeV depthF u H' = some (u', H'') ∧ nrm u' = v)

theorem Comes.doCall {p : AP} {f : FuncId} {args : List V} {v : V} (h : Comes p f args v) : ∃ n, ∀ H, doCall (acall p n) p.inlY f args H = some (.ret v, H) := by
  obtain ⟨h1, h2, h0, n, u, H', h3, h4⟩ := h
  refine ⟨n, fun H => ?_⟩
  have hg : ground v = true := by unfold gr at h2; exact (Bool.and_eq_true _ _ ▸ h2).1
  have ha : (if p.inlY f = true then some (args, H) else (mapS (freezeV depthF) args H).map fun x => (x.1.map nrm, x.2)) = some (args, H) := by
    split
    · rfl
    · rename_i hi
      rw [Bool.or_eq_true] at h0
      rw [grs_freeze h1 H, Option.map_some, nrms_nm (h0.resolve_left hi)]
  have hs : ∃ H'', (if p.inlY f = true then some (CR.ret u, H') else settleR 0 (.ret u) H') = some (.ret v, H'') := by
    rcases h4 with ⟨h4, rfl⟩ | ⟨h4, u', H'', h5, h6⟩
    · exact ⟨H', if_pos h4⟩
    · refine ⟨H'', ?_⟩
      rw [if_neg (by rw [h4]; exact Bool.false_ne_true)]
      unfold settleR
      rw [List.take_zero, freezeObs]
      dsimp only
      rw [h5, Option.map_some, h6]
  obtain ⟨H'', hs⟩ := hs
  unfold Fz.doCall
  rw [ha]
  dsimp only
  rw [groundL_refs _ (grs_ground h1), show reach H 1000 [] [] = some [] from rfl]
  dsimp only
  rw [groundL_ren _ _ (grs_ground h1), List.map_nil, h3]
  dsimp only
  rw [List.length_nil, hs]
  dsimp only
  rw [if_pos (Nat.zero_le _), List.take_zero, List.map_nil, setAll.eq_def]
  dsimp only
  rw [crV, ground_refs _ hg, List.flatMap_nil, List.append_nil, List.any_nil, if_neg Bool.false_ne_true, renR, ground_ren _ _ hg]

theorem WCall_fn {p : AP} {f : FuncId} {args : List V} {v : V} (h : Comes p f args v) (H : List Ob) (Q : CR → List Ob → Prop) : WCall p f args H Q = Q (.ret v) H := by
  obtain ⟨n, hn⟩ := h.doCall
  refine propext ⟨?_, fun hq => ⟨n, _, _, hn H, hq⟩⟩
  rintro ⟨m, r, H', h1, h2⟩
  have e1 := doCall_mono (acall_le p (Nat.le_max_left m n)) p.inlY _ _ _ _ h1
  have e2 := doCall_mono (acall_le p (Nat.le_max_right m n)) p.inlY _ _ _ _ (hn H)
  rw [e1] at e2
  cases e2
  exact h2

theorem WQuiet_fn {p : AP} {f : FuncId} {args : List V} {v : V} (h : Comes p f args v) (H : List Ob) (K : V → Prop) : WQuiet p f args H K = K v := by
  obtain ⟨n, hn⟩ := h.doCall
  have hg : ground v = true := by have := h.2.1; unfold gr at this; exact (Bool.and_eq_true _ _ ▸ this).1
  refine propext ⟨?_, fun hq => ⟨n, args, v, grs_lend h.1 H, grs_ground h.1, hn [], by rw [hg, grs_ground h.1, Bool.or_true]; rfl, hq⟩⟩
  rintro ⟨m, l, u, h1, h2, h3, h4, h5⟩
  rw [grs_lend h.1 H] at h1
  cases h1
  have e1 := doCall_mono (acall_le p (Nat.le_max_left m n)) p.inlY _ _ _ _ h3
  have e2 := doCall_mono (acall_le p (Nat.le_max_right m n)) p.inlY _ _ _ _ (hn [])
  rw [e1] at e2
  cases e2
  exact h5

/-- Made to stay. -/
def wFix (p : AP) (f : FuncId) (v : V) (r : CR) (H : List Ob) : Prop := match r with
  | .ret u => p.inlY f = true ∧ u = v ∨ p.inlY f = false ∧ ∃ u' H'', freezeV depthF u H = some (u', H'') ∧ nrm u' = v
  | .panic _ => False

theorem Comes_of {p : AP} {f : FuncId} (w : WF) {args : List V} {v : V} (hp : p.prim f = none) (hf : p.fn f = some w.toA)
    (hc : okW w.code = true) (ha : args.all gr = true) (hn : (p.inlY f || args.all nm) = true) (hv : gr v = true) (h : wx p w.code (env0 args) [] (finQ w.results (wFix p f v))) (hY : f ≠ YF := by decide) (hd : w.dfr = none := by rfl) (hr : w.rcv = none := by rfl) : Comes p f args v := by
  obtain ⟨n, r, H', h1, h2⟩ := WFun_of w hp hf hc h hY hd hr
  cases r with
  | panic _ => cases h2
  | ret u => exact ⟨ha, hv, hn, n, u, H', h1, h2⟩
end Fz
namespace Fz
open Go

/-- What follows, left alone by 'simp' until it is its turn: an argument that an instance depends on. -/
class Tok {α : Sort _} (a : α) : Type where
instance {α : Sort _} (a : α) : Tok a := ⟨⟩
def xFixV (v : V) (H : List Ob) (K : V → List Ob → Prop) [Tok K] : Prop := wFixV v H K
def xFixH (H : List Ob) (K : List Ob → Prop) [Tok K] : Prop := wFixH H K
def xInt (v : V) (K : IntKind → Int → Prop) [Tok K] : Prop := wInt v K
def xBool (v : V) (P N : Prop) [Tok P] [Tok N] : Prop := wBool v P N
def xNat (o : Option V) (d : Nat) (K : Nat → Prop) [Tok K] [Tok d] : Prop := wNat o d K
def xPeek (H : List Ob) (n : Nat) (v : V) (K : List V → Prop) [Tok K] [Tok H] : Prop := wPeek H n v K
def xElems (H : List Ob) (n : Nat) (v : V) (K : List V → Nat → Prop) [Tok K] [Tok H] : Prop := wElems H n v K
def xSlice (H : List Ob) (k : SlK) (x : V) (lo hi mx : Option V) (K : V → Prop) [Tok K] [Tok H] : Prop := wSlice H k x lo hi mx K
def xAppend (H : List Ob) (n bytes : Nat) (s : V) (xs : List V) (k : Nat) (Q : V → List Ob → Prop) [Tok Q] [Tok H] : Prop := wAppend H n bytes s xs k Q
def xBin (op : BinOp) (ek : EqK) (x y : V) (K : V → Prop) [Tok K] : Prop := wBin op ek x y K
def xUn (op : UnOp) (x : V) (K : V → Prop) [Tok K] : Prop := wUn op x K
def xL (p : AP) (b : WC) (e : Env) (H : List Ob) (Q : QX) [Tok b] [Tok e] [Tok H] [Tok Q] : Prop := WL p b e H Q
def xDraw (p : AP) (ops : List AO) (e : Env) (H : List Ob) (Q : QX) [Tok ops] [Tok e] [Tok H] [Tok Q] : Prop := WDraw p ops e H Q
def xCall (p : AP) (f : FuncId) (args : List V) (H : List Ob) (Q : CR → List Ob → Prop) [Tok H] [Tok Q] : Prop := WCall p f args H Q
def xQuiet (p : AP) (f : FuncId) (args : List V) (H : List Ob) (K : V → Prop) [Tok H] [Tok K] : Prop := WQuiet p f args H K
/-- A value, made plain ahead of what follows. -/
def wVal {α : Type} (x : α) (K : α → Prop) [Tok K] : Prop := K x
def wGuardV (v : V) (w : Bool) (P N : Prop) [Tok P] [Tok N] : Prop := match v with
  | .bool b => if b = w then P else N
  | .tuple l => l = [] ∧ N
  | _ => False
def wGet (l : List V) (i : Nat) (K : V → Prop) [Tok K] : Prop := ∃ v, l[i]? = some v ∧ K v
def wAt {α : Type} (l : List α) (i : Nat) (K : α → Prop) [Tok K] : Prop := ∃ v, l[i]? = some v ∧ K v
def wLive (H : List Ob) (id : Nat) (K : List V → Prop) [Tok K] : Prop := ∃ l, (H[id]? = some (.live l) ∨ H[id]? = some (.fixed l)) ∧ K l
def wMut (H : List Ob) (id : Nat) (K : List V → Prop) [Tok K] : Prop := ∃ l, H[id]? = some (.live l) ∧ K l
def wOne (l : List V) (K : V → Prop) [Tok K] : Prop := ∃ v, l = [v] ∧ K v

/-! ### Code -/
section code
variable {p : AP} {e : Env} {H : List Ob} {Q : QX}
@[simp ↓] theorem wx_skip : wx p .skip e H Q = Q .normal e H := (rfl)
@[simp ↓] theorem wx_reg {ops : List AO} : wx p (.reg ops) e H Q = wOps p Q ops e H := (rfl)
@[simp ↓] theorem wx_calm {ops : List AO} : wx p (.calm ops) e H Q = wCalm p Q ops e H := (rfl)
@[simp ↓] theorem wx_same {ops : List AO} : wx p (.same ops) e H Q = wSame p Q ops e H := (rfl)
@[simp ↓] theorem wx_draw {ops : List AO} : wx p (.draw ops) e H Q = xDraw p ops e H Q := (rfl)
@[simp ↓] theorem wx_seq {a b : WC} : wx p (.seq a b) e H Q = wx p a e H (thenQ (fun e H => wx p b e H Q) Q) := (rfl)
def xCond (v : V) (P N J : Prop) [Tok P] [Tok N] [Tok J] : Prop := wCond v P N J
@[simp] theorem xCond_bool {b : Bool} {P N J : Prop} : xCond (.bool b) P N J = if b = true then P else N := (rfl)
theorem xCond_any {P N J : Prop} : xCond .anyb P N J = J := (rfl)
@[simp ↓] theorem wx_cond {c : Opd} {a b : WC} : wx p (.cond c a b) e H Q = xCond (evO e c) (wx p a e H Q) (wx p b e H Q) (wJoin (wx p a e H) (wx p b e H) Q) := (rfl)
@[simp ↓] theorem wx_block {i : Nat} {b : WC} : wx p (.block i b) e H Q = wx p b e H (blockQ i Q) := (rfl)
@[simp ↓] theorem wx_loop {b : WC} : wx p (.loop b) e H Q = xL p b e H Q := (rfl)
@[simp ↓] theorem wx_exit {i : Nat} : wx p (.exit i) e H Q = Q (.exit i) e H := (rfl)
@[simp ↓] theorem wx_fixT {t : Nat} {b : WC} : wx p (.fix (some t) b) e H Q = xFixV (e t) H fun v H' => wVal v fun v => wx p b (upd e t v) H' Q := (rfl)
@[simp ↓] theorem wx_fixH {b : WC} : wx p (.fix none b) e H Q = xFixH H fun H' => wx p b e H' Q := (rfl)
@[simp ↓] theorem wx_ret : wx p .ret e H Q = Q .ret e H := (rfl)

@[simp ↓] theorem thenQ_normal {N : Env → List Ob → Prop} : thenQ N Q .normal e H = N e H := (rfl)
@[simp ↓] theorem thenQ_exit {N : Env → List Ob → Prop} {i : Nat} : thenQ N Q (.exit i) e H = Q (.exit i) e H := (rfl)
@[simp ↓] theorem thenQ_ret {N : Env → List Ob → Prop} : thenQ N Q .ret e H = Q .ret e H := (rfl)
@[simp ↓] theorem thenQ_panic {N : Env → List Ob → Prop} {v : V} : thenQ N Q (.panic v) e H = Q (.panic v) e H := (rfl)
@[simp ↓] theorem blockQ_normal {i : Nat} : blockQ i Q .normal e H = Q .normal e H := (rfl)
@[simp ↓] theorem blockQ_exit {i j : Nat} : blockQ i Q (.exit j) e H = if j = i then Q .normal e H else Q (.exit j) e H := (rfl)
@[simp ↓] theorem blockQ_ret {i : Nat} : blockQ i Q .ret e H = Q .ret e H := (rfl)
@[simp ↓] theorem blockQ_panic {i : Nat} {v : V} : blockQ i Q (.panic v) e H = Q (.panic v) e H := (rfl)
section
variable {I : Nat → Env → List Ob → Prop} {k : Nat}
/-- Another round. -/
def again (I : Nat → Env → List Ob → Prop) (k : Nat) (e : Env) (H : List Ob) [Tok I] [Tok k] [Tok e] [Tok H] : Prop := ∃ k', k' < k ∧ I k' e H
@[simp ↓] theorem loopQ_normal : loopQ I k Q .normal e H = again I k e H := (rfl)
@[simp ↓] theorem loopQ_exit {j : Nat} : loopQ I k Q (.exit j) e H = Q (.exit j) e H := (rfl)
@[simp ↓] theorem loopQ_ret : loopQ I k Q .ret e H = Q .ret e H := (rfl)
@[simp ↓] theorem loopQ_panic {v : V} : loopQ I k Q (.panic v) e H = Q (.panic v) e H := (rfl)
end
section
variable {rs : List (Nat × Option (Bool × Nat))} {Q : CR → List Ob → Prop}
@[simp ↓] theorem finQ_normal : finQ rs Q .normal e H = wResults e H rs fun l => Q (.ret (tupV l)) H := (rfl)
@[simp ↓] theorem finQ_ret : finQ rs Q .ret e H = wResults e H rs fun l => Q (.ret (tupV l)) H := (rfl)
@[simp ↓] theorem finQ_panic {v : V} : finQ rs Q (.panic v) e H = Q (.panic v) H := (rfl)
@[simp ↓] theorem finQ_exit {i : Nat} : finQ rs Q (.exit i) e H = False := (rfl)
end
@[simp ↓] theorem wResults_nil {K : List V → Prop} : wResults e H [] K = K [] := (rfl)
@[simp ↓] theorem wResults_cons {K : List V → Prop} {r : Nat × Option (Bool × Nat)} {rs : List (Nat × Option (Bool × Nat))} : wResults e H (r :: rs) K = wResult e H (fun v => wResults e H rs fun l => K (v :: l)) r := (rfl)
@[simp ↓] theorem wResult_none {K : V → Prop} {t : Nat} : wResult e H K (t, none) = wVal (e t) K := (rfl)
@[simp ↓] theorem wResult_agg {K : V → Prop} {t n : Nat} : wResult e H K (t, some (true, n)) = xPeek H n (e t) fun l => wVal l fun l => K (.agg l) := (rfl)
@[simp ↓] theorem wResult_cell {K : V → Prop} {t n : Nat} : wResult e H K (t, some (false, n)) = xPeek H n (e t) fun l => wOne l K := (rfl)

@[simp ↓] theorem wOps_nil : wOps p Q [] e H = Q .normal e H := (rfl)
@[simp ↓] theorem wOps_none {op : AOp} {af : List Nat} {ef : Bool} {r : List AO} :
    wOps p Q (⟨none, op, none, af, ef⟩ :: r) e H = wAct p e H (fun _ H' => wOps p Q r e H') (fun v H' => Q (.panic v) e H') op := (rfl)
@[simp ↓] theorem wOps_some {d : Nat} {op : AOp} {af : List Nat} {ef : Bool} {r : List AO} :
    wOps p Q (⟨some d, op, none, af, ef⟩ :: r) e H = wAct p e H (fun v H' => wVal v fun v => wOps p Q r (upd e d v) H') (fun v H' => Q (.panic v) e H') op := (rfl)
@[simp ↓] theorem wOps_guard {d : Option Nat} {op : AOp} {t : Nat} {w : Bool} {af : List Nat} {ef : Bool} {r : List AO} :
    wOps p Q (⟨d, op, some (t, w), af, ef⟩ :: r) e H = wGuardV (e t) w (wAct p e H (fun v H' => wVal v fun v => wOps p Q r (putE e d v) H') (fun v H' => Q (.panic v) e H') op) (wOps p Q r (putE e d uv) H) := (rfl)
@[simp ↓] theorem wCalm_nil : wCalm p Q [] e H = Q .normal e H := (rfl)
@[simp ↓] theorem wCalm_eff {d : Option Nat} {op : AOp} {af : List Nat} {r : List AO} :
    wCalm p Q (⟨d, op, none, af, true⟩ :: r) e H = wAct p e H (fun v H' => wVal v fun v => wCalm p Q r (putE e d v) H') (fun _ _ => False) op := (rfl)
@[simp ↓] theorem wCalm_effG {d : Option Nat} {op : AOp} {t : Nat} {w : Bool} {af : List Nat} {r : List AO} :
    wCalm p Q (⟨d, op, some (t, w), af, true⟩ :: r) e H = wGuardV (e t) w (wAct p e H (fun v H' => wVal v fun v => wCalm p Q r (putE e d v) H') (fun _ _ => False) op) (wCalm p Q r (putE e d uv) H) := (rfl)
@[simp ↓] theorem wCalm_q {d : Option Nat} {op : AOp} {af : List Nat} {r : List AO} :
    wCalm p Q (⟨d, op, none, af, false⟩ :: r) e H = wQ p e H (fun v => wVal v fun v => wCalm p Q r (putE e d v) H) op := (rfl)
@[simp ↓] theorem wCalm_qG {d : Option Nat} {op : AOp} {t : Nat} {w : Bool} {af : List Nat} {r : List AO} :
    wCalm p Q (⟨d, op, some (t, w), af, false⟩ :: r) e H = wGuardV (e t) w (wQ p e H (fun v => wVal v fun v => wCalm p Q r (putE e d v) H) op) (wCalm p Q r (putE e d uv) H) := (rfl)
@[simp ↓] theorem wSame_nil : wSame p Q [] e H = Q .normal e H := (rfl)
@[simp ↓] theorem wSame_eff {d : Option Nat} {op : AOp} {af : List Nat} {r : List AO} :
    wSame p Q (⟨d, op, none, af, true⟩ :: r) e H = wAct p e H (fun v H' => H' = H ∧ wVal v fun v => wSame p Q r (putE e d v) H) (fun _ _ => False) op := (rfl)
@[simp ↓] theorem wSame_effG {d : Option Nat} {op : AOp} {t : Nat} {w : Bool} {af : List Nat} {r : List AO} :
    wSame p Q (⟨d, op, some (t, w), af, true⟩ :: r) e H = wGuardV (e t) w (wAct p e H (fun v H' => H' = H ∧ wVal v fun v => wSame p Q r (putE e d v) H) (fun _ _ => False) op) (wSame p Q r (putE e d uv) H) := (rfl)
@[simp ↓] theorem wSame_q {d : Option Nat} {op : AOp} {af : List Nat} {r : List AO} :
    wSame p Q (⟨d, op, none, af, false⟩ :: r) e H = wQ p e H (fun v => wVal v fun v => wSame p Q r (putE e d v) H) op := (rfl)
@[simp ↓] theorem wSame_qG {d : Option Nat} {op : AOp} {t : Nat} {w : Bool} {af : List Nat} {r : List AO} :
    wSame p Q (⟨d, op, some (t, w), af, false⟩ :: r) e H = wGuardV (e t) w (wQ p e H (fun v => wVal v fun v => wSame p Q r (putE e d v) H) op) (wSame p Q r (putE e d uv) H) := (rfl)
@[simp ↓] theorem putE_some {d : Nat} {v : V} : putE e (some d) v = upd e d v := (rfl)
@[simp ↓] theorem putE_none {v : V} : putE e none v = e := (rfl)
@[simp ↓] theorem upd_at {d i : Nat} {v : V} : upd e d v i = if i = d then v else e i := (rfl)
@[simp ↓] theorem evO_t {n : Nat} : evO e (.t n) = e n := (rfl)
@[simp ↓] theorem evO_c {v : V} : evO e (.c v) = v := (rfl)
@[simp] theorem env0_zero {v : V} {l : List V} : env0 (v :: l) 0 = v := (rfl)
@[simp] theorem env0_succ {v : V} {l : List V} {n : Nat} : env0 (v :: l) (n + 1) = env0 l n := (rfl)
@[simp] theorem env0_nil {n : Nat} : env0 [] n = uv := (rfl)
end code

/-! ### Operations -/
section ops
variable {p : AP} {e : Env} {H : List Ob} {K R : V → List Ob → Prop} {ρ : Opd → V}
@[simp ↓] theorem wAct_call {f : FuncId} {l : List Opd} : wAct p e H K R (.call f l) = xCall p f (l.map (evO e)) H (wRet K R) := (rfl)
def wFnV (v : V) (K : FuncId → List V → List V → Prop) (Y : Nat → Prop) [Tok K] [Tok Y] : Prop := match v with
  | .fn (.func g) a b => g ≠ YF ∧ K g a b
  | .yld id => Y id
  | _ => False
@[simp] theorem wFnV_fn {g : FuncId} {a b : List V} {K : FuncId → List V → List V → Prop} {Y : Nat → Prop} : wFnV (.fn (.func g) a b) K Y = (g ≠ 4000000000 ∧ K g a b) := (rfl)
@[simp] theorem wFnV_yld {id : Nat} {K : FuncId → List V → List V → Prop} {Y : Nat → Prop} : wFnV (.yld id) K Y = Y id := (rfl)
@[simp ↓] theorem wAct_callv {f : Opd} {l : List Opd} : wAct p e H K R (.callv f l) = wFnV (evO e f) (fun g a b => xCall p g (a ++ l.map (evO e) ++ b) H (wRet K R)) (fun id => xCall p YF (.yld id :: l.map (evO e)) H (wRet K R)) := (rfl)
@[simp ↓] theorem wQ_call {f : FuncId} {l : List Opd} {K : V → Prop} : wQ p e H K (.call f l) = xQuiet p f (l.map (evO e)) H K := (rfl)
@[simp ↓] theorem wQ_callv {f : Opd} {l : List Opd} {K : V → Prop} : wQ p e H K (.callv f l) = wFnV (evO e f) (fun g a b => xQuiet p g (a ++ l.map (evO e) ++ b) H K) (fun _ => False) := (rfl)
@[simp ↓] theorem wRet_ret {Q : V → List Ob → Prop} {v : V} : wRet Q R (.ret v) H = Q v H := (rfl)
@[simp ↓] theorem wRet_panic {Q : V → List Ob → Prop} {v : V} : wRet Q R (.panic v) H = R v H := (rfl)
def wIface (v : V) (K : V → Prop) [Tok K] : Prop := match v with
  | .iface t v => K (.iface t v)
  | _ => False
@[simp] theorem wIface_iface {t : TypeId} {v : V} {K : V → Prop} : wIface (.iface t v) K = K (.iface t v) := (rfl)
@[simp ↓] theorem wAct_panic {x : Opd} : wAct p e H K R (.panic x) = wIface (evO e x) fun v => R v H := by
  simp only [wAct, wIface] <;> (split <;> simp_all)

/-- Each other operation. -/
def plain : AOp → Bool
  | .call _ _ | .callv _ _ | .panic _ => false
  | _ => true
theorem wAct_plain {op : AOp} (h : plain op = true) : wAct p e H K R op = wOp (evO e) H K op := by
  cases op <;> first | rfl | cases h
theorem wQ_plain {op : AOp} {K : V → Prop} (h : plain op = true) : wQ p e H K op = (pureOp op = true ∧ wOp (evO e) H (fun v _ => K v) op) := by
  cases op <;> first | rfl | cases h

def wStr (v : V) (K : ByteArray → Prop) [Tok K] : Prop := match v with
  | .str s => K s
  | _ => False
def wPtr (v : V) (K : Nat → Nat → Prop) [Tok K] : Prop := match v with
  | .ptr i o => K i o
  | _ => False
/-- By what a value is: a pointer, cells that stay. -/
def wPR (v : V) (P : Nat → Nat → Prop) (R : List V → Prop) [Tok P] [Tok R] : Prop := match v with
  | .ptr i o => P i o
  | .ref l => R l
  | _ => False
/-- A slice: of elements that stay, of an object's. -/
def wSl (v : V) (L : List V → Bool → Prop) (O : Nat → Nat → Nat → Nat → Prop) [Tok L] [Tok O] : Prop := match v with
  | .list l c => L l c
  | .own a b c d => O a b c d
  | _ => False
def wAgg (v : V) (K : List V → Prop) [Tok K] : Prop := match v with
  | .agg l => K l
  | _ => False
def wTup (v : V) (K : List V → Prop) [Tok K] : Prop := match v with
  | .tuple l => K l
  | _ => False
def wNil (v : V) (K : V → Prop) [Tok K] : Prop := match v with
  | .ptr i o => K (.ptr i o)
  | .ref l => K (.ref l)
  | .fn (.func f) a b => K (.fn (.func f) a b)
  | _ => False
def wOpt {α : Type} (o : Option α) (K : α → Prop) [Tok K] : Prop := ∃ v, o = some v ∧ K v
variable {A : Prop}
@[simp] theorem wVal_eq {α : Type} {x : α} {K : α → Prop} : wVal x K = K x := (rfl)
@[simp] theorem wStr_str {s : ByteArray} {K : ByteArray → Prop} : wStr (.str s) K = K s := (rfl)
@[simp] theorem wPtr_ptr {i o : Nat} {K : Nat → Nat → Prop} : wPtr (.ptr i o) K = K i o := (rfl)
@[simp] theorem wPR_ptr {i o : Nat} {P : Nat → Nat → Prop} {R : List V → Prop} : wPR (.ptr i o) P R = P i o := (rfl)
@[simp] theorem wPR_ref {l : List V} {P : Nat → Nat → Prop} {R : List V → Prop} : wPR (.ref l) P R = R l := (rfl)
@[simp] theorem wSl_list {l : List V} {c : Bool} {L : List V → Bool → Prop} {O : Nat → Nat → Nat → Nat → Prop} : wSl (.list l c) L O = L l c := (rfl)
@[simp] theorem wSl_own {a b c d : Nat} {L : List V → Bool → Prop} {O : Nat → Nat → Nat → Nat → Prop} : wSl (.own a b c d) L O = O a b c d := (rfl)
@[simp] theorem wAgg_agg {l : List V} {K : List V → Prop} : wAgg (.agg l) K = K l := (rfl)
@[simp] theorem wTup_tuple {l : List V} {K : List V → Prop} : wTup (.tuple l) K = K l := (rfl)
@[simp] theorem wNil_ptr {i o : Nat} {K : V → Prop} : wNil (.ptr i o) K = K (.ptr i o) := (rfl)
@[simp] theorem wNil_ref {l : List V} {K : V → Prop} : wNil (.ref l) K = K (.ref l) := (rfl)
@[simp] theorem wNil_fn {f : FuncId} {a b : List V} {K : V → Prop} : wNil (.fn (.func f) a b) K = K (.fn (.func f) a b) := (rfl)
@[simp] theorem wOpt_some {α : Type} {x : α} {K : α → Prop} : wOpt (some x) K = K x := by simp [wOpt]
@[simp] theorem wOpt_none {α : Type} {K : α → Prop} : wOpt none K = False := by simp [wOpt]
@[simp] theorem wInt_int {k : IntKind} {n : Int} {K : IntKind → Int → Prop} : xInt (.int k n) K = K k n := (rfl)
@[simp] theorem wBool_bool {b : Bool} {P N : Prop} : xBool (.bool b) P N = if b = true then P else N := (rfl)
@[simp] theorem wGuardV_true {b : Bool} {P N : Prop} : wGuardV (.bool b) true P N = if b = true then P else N := (rfl)
@[simp] theorem wGuardV_false {b : Bool} {P N : Prop} : wGuardV (.bool b) false P N = if b = true then N else P := by
  cases b <;> simp [wGuardV]
@[simp] theorem wGuardV_uv {w : Bool} {P N : Prop} : wGuardV uv w P N = N := by simp [wGuardV, uv]
@[simp] theorem wNat_none {d : Nat} {K : Nat → Prop} : xNat none d K = wVal d K := (rfl)
@[simp] theorem wNat_some {k : IntKind} {i : Int} {d : Nat} {K : Nat → Prop} : xNat (some (.int k i)) d K = (0 ≤ i ∧ wVal i.toNat K) := (rfl)
@[simp] theorem wPeek_ref {n : Nat} {l : List V} {K : List V → Prop} : xPeek H n (.ref l) K = (n ≤ l.length ∧ wVal (l.take n) K) := (rfl)
@[simp] theorem wPeek_ptr {n i o : Nat} {K : List V → Prop} : xPeek H n (.ptr i o) K = wLive H i fun l => o + n ≤ l.length ∧ wVal ((l.drop o).take n) K := (rfl)
@[simp] theorem wElems_list {n : Nat} {l : List V} {c : Bool} {K : List V → Nat → Prop} : xElems H n (.list l c) K = (uni n l = true ∧ wVal (flat l) fun x => wVal l.length fun k => K x k) := (rfl)
@[simp] theorem wElems_own {n i o len m : Nat} {K : List V → Nat → Prop} : xElems H n (.own i o len m) K = (m = n ∧ xPeek H (len * n) (.ptr i o) fun x => K x len) := (rfl)
@[simp] theorem wElems_str {n : Nat} {s : ByteArray} {K : List V → Nat → Prop} : xElems H n (.str s) K = (n = 1 ∧ K (s.data.toList.map fun b => V.int .u8 b.toNat) s.size) := (rfl)
@[simp] theorem wSlice_list {n : Nat} {l : List V} {c : Bool} {lo hi mx : Option V} {K : V → Prop} : xSlice H (.sl n) (.list l c) lo hi mx K =
    ((mx.isSome && hi.isNone) = false ∧ uni n l = true ∧ xNat mx l.length fun m => xNat hi l.length fun h => xNat lo 0 fun o =>
      (o ≤ h ∧ h ≤ m ∧ m ≤ l.length) ∧ wVal (V.list ((l.drop o).take (h - o)) (if mx.isSome then m == h else c && h == l.length)) K) := (rfl)
@[simp] theorem wSlice_str {s : ByteArray} {lo hi mx : Option V} {K : V → Prop} : xSlice H .str (.str s) lo hi mx K =
    ((mx.isSome && hi.isNone) = false ∧ mx.isSome = false ∧ xNat hi s.size fun h => xNat lo 0 fun l => (l ≤ h ∧ h ≤ s.size) ∧ wVal (V.str (s.extract l h)) K) := (rfl)
@[simp] theorem wSlice_own {n id off len n' : Nat} {lo hi mx : Option V} {K : V → Prop} : xSlice H (.sl n) (.own id off len n') lo hi mx K =
    ((mx.isSome && hi.isNone) = false ∧ xNat mx len fun m => xNat hi len fun h => xNat lo 0 fun l => (n = n' ∧ l ≤ h ∧ h ≤ m ∧ m ≤ len) ∧
      K (if h = l ∧ (l ≠ 0 ∨ mx.isSome = true) then .list [] (mx.isSome && m == h) else .own id (off + l * n) (h - l) n)) := (rfl)
@[simp] theorem wSlice_arr {alen n id off : Nat} {lo hi mx : Option V} {K : V → Prop} : xSlice H (.arr alen n) (.ptr id off) lo hi mx K =
    ((mx.isSome && hi.isNone) = false ∧ xNat mx alen fun m => xNat hi alen fun h => xNat lo 0 fun l => xPeek H (alen * n) (.ptr id off) fun _ => (l ≤ h ∧ h ≤ m ∧ m ≤ alen) ∧
      K (if h = l then .list [] (m == h) else .own id (off + l * n) (h - l) n)) := (rfl)
@[simp] theorem wAppend_list {n bytes : Nat} {l : List V} {c : Bool} {xs : List V} {k : Nat} : xAppend H n bytes (.list l c) xs k K =
    if k = 0 then K (.list l c) H else (c = true ∧ uni n l = true ∧ xs.length = k * n ∧ capOk (l.length + k) bytes = true) ∧ wVal (flat l ++ xs) fun y =>
      K (.own H.length 0 (l.length + k) n) (H ++ [.live y]) := (rfl)
@[simp] theorem wAppend_own {n bytes id off len m : Nat} {xs : List V} {k : Nat} : xAppend H n bytes (.own id off len m) xs k K =
    (off = 0 ∧ if k = 0 then K (.own id off len m) H else wMut H id fun l => (m = n ∧ len * n ≤ l.length ∧ xs.all storable = true ∧ capOk (len + k) bytes = true) ∧
      wVal (l.take (len * n) ++ xs) fun y => K (.own H.length 0 (len + k) n) (H.set id .dead ++ [.live y])) := (rfl)

/-! ### Cells -/
@[simp] theorem wGet_zero {v : V} {l : List V} {K : V → Prop} : wGet (v :: l) 0 K = K v := by simp [wGet]
@[simp] theorem wGet_succ {v : V} {l : List V} {n : Nat} {K : V → Prop} : wGet (v :: l) (n + 1) K = wGet l n K := by simp [wGet]
@[simp] theorem wGet_nil {n : Nat} {K : V → Prop} : wGet [] n K = False := by simp [wGet]
@[simp] theorem wGet_map {α : Type} {f : α → V} {l : List α} {n : Nat} {K : V → Prop} : wGet (l.map f) n K = wAt l n fun x => wVal (f x) K := by
  unfold wGet wAt wVal
  rw [List.getElem?_map]
  refine propext ⟨?_, ?_⟩
  · rintro ⟨v, h1, h2⟩
    obtain ⟨a, h3, rfl⟩ := Option.map_eq_some_iff.1 h1
    exact ⟨a, h3, h2⟩
  · rintro ⟨a, h1, h2⟩
    exact ⟨f a, by rw [h1]; rfl, h2⟩
@[simp] theorem wAt_eq {α : Type} [Inhabited α] {l : List α} {n : Nat} {K : α → Prop} : wAt l n K = (n < l.length ∧ K (l.getD n default)) := by
  unfold wAt
  refine propext ⟨?_, ?_⟩
  · rintro ⟨v, h1, h2⟩
    obtain ⟨h3, h4⟩ := List.getElem?_eq_some_iff.1 h1
    refine ⟨h3, ?_⟩
    rw [List.getD_eq_getElem?_getD, h1]
    exact h2
  · rintro ⟨h1, h2⟩
    refine ⟨_, List.getElem?_eq_getElem h1, ?_⟩
    rw [List.getD_eq_getElem?_getD, List.getElem?_eq_getElem h1] at h2
    exact h2
@[simp] theorem wOne_one {v : V} {K : V → Prop} : wOne [v] K = K v := by simp [wOne]
@[simp] theorem wLive_zero {l : List V} {H : List Ob} {K : List V → Prop} : wLive (.live l :: H) 0 K = K l := by simp [wLive]
@[simp] theorem wLive_fixed {l : List V} {H : List Ob} {K : List V → Prop} : wLive (.fixed l :: H) 0 K = K l := by simp [wLive]
@[simp] theorem wLive_succ {o : Ob} {H : List Ob} {n : Nat} {K : List V → Prop} : wLive (o :: H) (n + 1) K = wLive H n K := by simp [wLive]
@[simp] theorem wMut_zero {l : List V} {H : List Ob} {K : List V → Prop} : wMut (.live l :: H) 0 K = K l := by simp [wMut]
@[simp] theorem wMut_succ {o : Ob} {H : List Ob} {n : Nat} {K : List V → Prop} : wMut (o :: H) (n + 1) K = wMut H n K := by simp [wMut]
end ops
end Fz
namespace Fz
open Go
section acts
variable {p : AP} {e : Env} {H : List Ob} {K R : V → List Ob → Prop} {Q : V → Prop}
@[simp ↓] theorem wAct_mov {x : Opd} : wAct p e H K R (.mov x) = wOp (evO e) H K (.mov x) := (rfl)
@[simp ↓] theorem wQ_mov {x : Opd} : wQ p e H Q (.mov x) = wOp (evO e) H (fun v _ => Q v) (.mov x) := propext ⟨fun h => h.2, fun h => ⟨rfl, h⟩⟩
@[simp ↓] theorem wAct_pick {c a b : Opd} : wAct p e H K R (.pick c a b) = wOp (evO e) H K (.pick c a b) := (rfl)
@[simp ↓] theorem wQ_pick {c a b : Opd} : wQ p e H Q (.pick c a b) = wOp (evO e) H (fun v _ => Q v) (.pick c a b) := propext ⟨fun h => h.2, fun h => ⟨rfl, h⟩⟩
@[simp ↓] theorem wAct_alloc {z : List V} : wAct p e H K R (.alloc z) = wOp (evO e) H K (.alloc z) := (rfl)
@[simp ↓] theorem wAct_box {x : Opd} : wAct p e H K R (.box x) = wOp (evO e) H K (.box x) := (rfl)
@[simp ↓] theorem wAct_build {z : List V} {ps : List (Nat × Nat × Opd)} : wAct p e H K R (.build z ps) = wOp (evO e) H K (.build z ps) := (rfl)
@[simp ↓] theorem wQ_build {z : List V} {ps : List (Nat × Nat × Opd)} : wQ p e H Q (.build z ps) = wOp (evO e) H (fun v _ => Q v) (.build z ps) := propext ⟨fun h => h.2, fun h => ⟨rfl, h⟩⟩
@[simp ↓] theorem wAct_buildSlice {n len : Nat} {z : List V} {ps : List (Nat × Nat × Opd)} : wAct p e H K R (.buildSlice n len z ps) = wOp (evO e) H K (.buildSlice n len z ps) := (rfl)
@[simp ↓] theorem wAct_load {agg : Bool} {n : Nat} {x : Opd} : wAct p e H K R (.load agg n x) = wOp (evO e) H K (.load agg n x) := (rfl)
@[simp ↓] theorem wQ_load {agg : Bool} {n : Nat} {x : Opd} : wQ p e H Q (.load agg n x) = wOp (evO e) H (fun v _ => Q v) (.load agg n x) := propext ⟨fun h => h.2, fun h => ⟨rfl, h⟩⟩
@[simp ↓] theorem wAct_store {n : Nat} {a x : Opd} : wAct p e H K R (.store n a x) = wOp (evO e) H K (.store n a x) := (rfl)
@[simp ↓] theorem wAct_nilCheck {x : Opd} : wAct p e H K R (.nilCheck x) = wOp (evO e) H K (.nilCheck x) := (rfl)
@[simp ↓] theorem wQ_nilCheck {x : Opd} : wQ p e H Q (.nilCheck x) = wOp (evO e) H (fun v _ => Q v) (.nilCheck x) := propext ⟨fun h => h.2, fun h => ⟨rfl, h⟩⟩
@[simp ↓] theorem wAct_bin {op : BinOp} {k : EqK} {x y : Opd} : wAct p e H K R (.bin op k x y) = wOp (evO e) H K (.bin op k x y) := (rfl)
@[simp ↓] theorem wQ_bin {op : BinOp} {k : EqK} {x y : Opd} : wQ p e H Q (.bin op k x y) = wOp (evO e) H (fun v _ => Q v) (.bin op k x y) := propext ⟨fun h => h.2, fun h => ⟨rfl, h⟩⟩
@[simp ↓] theorem wAct_un {op : UnOp} {x : Opd} : wAct p e H K R (.un op x) = wOp (evO e) H K (.un op x) := (rfl)
@[simp ↓] theorem wQ_un {op : UnOp} {x : Opd} : wQ p e H Q (.un op x) = wOp (evO e) H (fun v _ => Q v) (.un op x) := propext ⟨fun h => h.2, fun h => ⟨rfl, h⟩⟩
@[simp ↓] theorem wAct_conv {k : CvK} {x : Opd} : wAct p e H K R (.conv k x) = wOp (evO e) H K (.conv k x) := (rfl)
@[simp ↓] theorem wQ_conv_int {k : IntKind} {x : Opd} : wQ p e H Q (.conv (.int k) x) = wOp (evO e) H (fun v _ => Q v) (.conv (.int k) x) := propext ⟨fun h => h.2, fun h => ⟨rfl, h⟩⟩
@[simp ↓] theorem wQ_conv_s2s {x : Opd} : wQ p e H Q (.conv .s2s x) = wOp (evO e) H (fun v _ => Q v) (.conv .s2s x) := propext ⟨fun h => h.2, fun h => ⟨rfl, h⟩⟩
@[simp ↓] theorem wQ_conv_b2s {x : Opd} : wQ p e H Q (.conv .b2s x) = wOp (evO e) H (fun v _ => Q v) (.conv .b2s x) := propext ⟨fun h => h.2, fun h => ⟨rfl, h⟩⟩
@[simp ↓] theorem wAct_makeIface {t : TypeId} {x : Opd} : wAct p e H K R (.makeIface t x) = wOp (evO e) H K (.makeIface t x) := (rfl)
@[simp ↓] theorem wQ_makeIface {t : TypeId} {x : Opd} : wQ p e H Q (.makeIface t x) = wOp (evO e) H (fun v _ => Q v) (.makeIface t x) := propext ⟨fun h => h.2, fun h => ⟨rfl, h⟩⟩
@[simp ↓] theorem wAct_makeFunc {f : Fn} {a b : List Opd} : wAct p e H K R (.makeFunc f a b) = wOp (evO e) H K (.makeFunc f a b) := (rfl)
@[simp ↓] theorem wQ_makeFunc {f : Fn} {a b : List Opd} : wQ p e H Q (.makeFunc f a b) = wOp (evO e) H (fun v _ => Q v) (.makeFunc f a b) := propext ⟨fun h => h.2, fun h => ⟨rfl, h⟩⟩
@[simp ↓] theorem wAct_makeSlice {n bytes : Nat} {z : List V} {l c : Opd} : wAct p e H K R (.makeSlice n bytes z l c) = wOp (evO e) H K (.makeSlice n bytes z l c) := (rfl)
@[simp ↓] theorem wAct_slice {k : SlK} {x : Opd} {lo hi mx : Option Opd} : wAct p e H K R (.slice k x lo hi mx) = wOp (evO e) H K (.slice k x lo hi mx) := (rfl)
@[simp ↓] theorem wQ_slice {k : SlK} {x : Opd} {lo hi mx : Option Opd} : wQ p e H Q (.slice k x lo hi mx) = wOp (evO e) H (fun v _ => Q v) (.slice k x lo hi mx) := propext ⟨fun h => h.2, fun h => ⟨rfl, h⟩⟩
@[simp ↓] theorem wAct_fieldAddr {off : Nat} {x : Opd} : wAct p e H K R (.fieldAddr off x) = wOp (evO e) H K (.fieldAddr off x) := (rfl)
@[simp ↓] theorem wQ_fieldAddr {off : Nat} {x : Opd} : wQ p e H Q (.fieldAddr off x) = wOp (evO e) H (fun v _ => Q v) (.fieldAddr off x) := propext ⟨fun h => h.2, fun h => ⟨rfl, h⟩⟩
@[simp ↓] theorem wAct_field {agg : Bool} {off n : Nat} {x : Opd} : wAct p e H K R (.field agg off n x) = wOp (evO e) H K (.field agg off n x) := (rfl)
@[simp ↓] theorem wQ_field {agg : Bool} {off n : Nat} {x : Opd} : wQ p e H Q (.field agg off n x) = wOp (evO e) H (fun v _ => Q v) (.field agg off n x) := propext ⟨fun h => h.2, fun h => ⟨rfl, h⟩⟩
@[simp ↓] theorem wAct_indexSl {n : Nat} {x i : Opd} : wAct p e H K R (.indexSl n x i) = wOp (evO e) H K (.indexSl n x i) := (rfl)
@[simp ↓] theorem wQ_indexSl {n : Nat} {x i : Opd} : wQ p e H Q (.indexSl n x i) = wOp (evO e) H (fun v _ => Q v) (.indexSl n x i) := propext ⟨fun h => h.2, fun h => ⟨rfl, h⟩⟩
@[simp ↓] theorem wAct_indexPA {al n : Nat} {x i : Opd} : wAct p e H K R (.indexPA al n x i) = wOp (evO e) H K (.indexPA al n x i) := (rfl)
@[simp ↓] theorem wQ_indexPA {al n : Nat} {x i : Opd} : wQ p e H Q (.indexPA al n x i) = wOp (evO e) H (fun v _ => Q v) (.indexPA al n x i) := propext ⟨fun h => h.2, fun h => ⟨rfl, h⟩⟩
@[simp ↓] theorem wAct_indexArr {al n : Nat} {agg : Bool} {x i : Opd} : wAct p e H K R (.indexArr al n agg x i) = wOp (evO e) H K (.indexArr al n agg x i) := (rfl)
@[simp ↓] theorem wQ_indexArr {al n : Nat} {agg : Bool} {x i : Opd} : wQ p e H Q (.indexArr al n agg x i) = wOp (evO e) H (fun v _ => Q v) (.indexArr al n agg x i) := propext ⟨fun h => h.2, fun h => ⟨rfl, h⟩⟩
@[simp ↓] theorem wAct_indexStr {x i : Opd} : wAct p e H K R (.indexStr x i) = wOp (evO e) H K (.indexStr x i) := (rfl)
@[simp ↓] theorem wQ_indexStr {x i : Opd} : wQ p e H Q (.indexStr x i) = wOp (evO e) H (fun v _ => Q v) (.indexStr x i) := propext ⟨fun h => h.2, fun h => ⟨rfl, h⟩⟩
@[simp ↓] theorem wAct_extract {i : Nat} {x : Opd} : wAct p e H K R (.extract i x) = wOp (evO e) H K (.extract i x) := (rfl)
@[simp ↓] theorem wQ_extract {i : Nat} {x : Opd} : wQ p e H Q (.extract i x) = wOp (evO e) H (fun v _ => Q v) (.extract i x) := propext ⟨fun h => h.2, fun h => ⟨rfl, h⟩⟩
@[simp ↓] theorem wAct_lenC {n : Nat} : wAct p e H K R (.lenC n) = wOp (evO e) H K (.lenC n) := (rfl)
@[simp ↓] theorem wQ_lenC {n : Nat} : wQ p e H Q (.lenC n) = wOp (evO e) H (fun v _ => Q v) (.lenC n) := propext ⟨fun h => h.2, fun h => ⟨rfl, h⟩⟩
@[simp ↓] theorem wAct_lenS {x : Opd} : wAct p e H K R (.lenS x) = wOp (evO e) H K (.lenS x) := (rfl)
@[simp ↓] theorem wQ_lenS {x : Opd} : wQ p e H Q (.lenS x) = wOp (evO e) H (fun v _ => Q v) (.lenS x) := propext ⟨fun h => h.2, fun h => ⟨rfl, h⟩⟩
@[simp ↓] theorem wAct_len {x : Opd} : wAct p e H K R (.len x) = wOp (evO e) H K (.len x) := (rfl)
@[simp ↓] theorem wQ_len {x : Opd} : wQ p e H Q (.len x) = wOp (evO e) H (fun v _ => Q v) (.len x) := propext ⟨fun h => h.2, fun h => ⟨rfl, h⟩⟩
@[simp ↓] theorem wAct_cap {x : Opd} : wAct p e H K R (.cap x) = wOp (evO e) H K (.cap x) := (rfl)
@[simp ↓] theorem wQ_cap {x : Opd} : wQ p e H Q (.cap x) = wOp (evO e) H (fun v _ => Q v) (.cap x) := propext ⟨fun h => h.2, fun h => ⟨rfl, h⟩⟩
@[simp ↓] theorem wAct_append {n bytes : Nat} {zs : Option (List V)} {s x : Opd} : wAct p e H K R (.append n bytes zs s x) = wOp (evO e) H K (.append n bytes zs s x) := (rfl)
@[simp ↓] theorem wAct_copy {n : Nat} {d s : Opd} : wAct p e H K R (.copy n d s) = wOp (evO e) H K (.copy n d s) := (rfl)
@[simp ↓] theorem wAct_clear {z : List V} {n : Nat} {x : Opd} : wAct p e H K R (.clear z n x) = wOp (evO e) H K (.clear z n x) := (rfl)
@[simp ↓] theorem wAct_max {l : List Opd} : wAct p e H K R (.max l) = wOp (evO e) H K (.max l) := (rfl)
@[simp ↓] theorem wQ_max {l : List Opd} : wQ p e H Q (.max l) = wOp (evO e) H (fun v _ => Q v) (.max l) := propext ⟨fun h => h.2, fun h => ⟨rfl, h⟩⟩
@[simp ↓] theorem wAct_min {l : List Opd} : wAct p e H K R (.min l) = wOp (evO e) H K (.min l) := (rfl)
@[simp ↓] theorem wQ_min {l : List Opd} : wQ p e H Q (.min l) = wOp (evO e) H (fun v _ => Q v) (.min l) := propext ⟨fun h => h.2, fun h => ⟨rfl, h⟩⟩
end acts

section ops
variable {H : List Ob} {K : V → List Ob → Prop} {ρ : Opd → V}
@[simp ↓] theorem wOp_mov {x : Opd} : wOp ρ H K (.mov x) = wVal (ρ x) fun v => K v H := (rfl)
@[simp ↓] theorem wOp_pick {c a b : Opd} : wOp ρ H K (.pick c a b) = xBool (ρ c) (wVal (ρ a) fun v => K v H) (wVal (ρ b) fun v => K v H) := (rfl)
@[simp ↓] theorem wOp_alloc {z : List V} : wOp ρ H K (.alloc z) = wVal H fun H => K (.ptr H.length 0) (H ++ [.live z]) := (rfl)
@[simp ↓] theorem wOp_box {x : Opd} : wOp ρ H K (.box x) = wVal (ρ x) fun v => isAny v = false ∧ wVal H fun H => K (.ptr H.length 0) (H ++ [.live (cellsOf v)]) := (rfl)
/-- Parts, laid one by one. -/
def wBuild (ρ : Opd → V) (cells : List V) (K : List V → Prop) : List (Nat × Nat × Opd) → Prop
  | [] => K cells
  | (off, n, x) :: r => wVal (ρ x) fun v => wVal (cellsOf v) fun c => (c.length = n ∧ off + n ≤ cells.length ∧ isAny v = false) ∧ wVal (splice cells off c) fun cells => wBuild ρ cells K r
@[simp ↓] theorem wBuild_nil {c : List V} {K : List V → Prop} : wBuild ρ c K [] = K c := (rfl)
@[simp ↓] theorem wBuild_cons {off n : Nat} {x : Opd} {r : List (Nat × Nat × Opd)} {cells : List V} {K : List V → Prop} : wBuild ρ cells K ((off, n, x) :: r) =
    wVal (ρ x) fun v => wVal (cellsOf v) fun c => (c.length = n ∧ off + n ≤ cells.length ∧ isAny v = false) ∧ wVal (splice cells off c) fun cells => wBuild ρ cells K r := (rfl)
theorem wFill_eq {K : List V → Prop} : ∀ (ps : List (Nat × Nat × Opd)) (cells : List V), wFill cells K (ps.map fun p => (p.1, p.2.1, ρ p.2.2)) = wBuild ρ cells K ps
  | [], _ => rfl
  | (off, n, x) :: r, cells => by rw [List.map_cons, wFill, wFill_eq]; rfl
@[simp ↓] theorem wOp_build {z : List V} {ps : List (Nat × Nat × Opd)} : wOp ρ H K (.build z ps) = wBuild ρ z (fun l => K (.agg l) H) ps := wFill_eq ps z
@[simp ↓] theorem wOp_buildSlice {n len : Nat} {z : List V} {ps : List (Nat × Nat × Opd)} : wOp ρ H K (.buildSlice n len z ps) =
    wVal (zeros z len) fun z => wBuild ρ z (fun cells => if len = 0 then K (.list [] true) H else wVal H fun H => K (.own H.length 0 len n) (H ++ [.live cells])) ps := wFill_eq ps _
@[simp ↓] theorem wOp_load {n : Nat} {x : Opd} : wOp ρ H K (.load false n x) = xPeek H n (ρ x) fun l => wOne l fun v => K v H := (rfl)
@[simp ↓] theorem wOp_loadA {n : Nat} {x : Opd} : wOp ρ H K (.load true n x) = xPeek H n (ρ x) fun l => K (.agg l) H := (rfl)
@[simp ↓] theorem wOp_store {n : Nat} {a x : Opd} : wOp ρ H K (.store n a x) = wPtr (ρ a) fun id off => wVal (cellsOf (ρ x)) fun c => wVal H fun H => wMut H id fun l =>
    (c.length = n ∧ off + n ≤ l.length ∧ c.all storable = true) ∧ wVal (splice l off c) fun l => K uv (H.set id (.live l)) := by
  simp only [wOp, wPtr] <;> (generalize ρ a = v; cases v <;> rfl)
@[simp ↓] theorem wOp_nilCheck {x : Opd} : wOp ρ H K (.nilCheck x) = wNil (ρ x) fun v => K v H := (rfl)
@[simp ↓] theorem wOp_bin {op : BinOp} {k : EqK} {x y : Opd} : wOp ρ H K (.bin op k x y) = xBin op k (ρ x) (ρ y) fun v => K v H := (rfl)
@[simp ↓] theorem wOp_un {op : UnOp} {x : Opd} : wOp ρ H K (.un op x) = xUn op (ρ x) fun v => K v H := (rfl)
@[simp ↓] theorem wOp_convI {k : IntKind} {x : Opd} : wOp ρ H K (.conv (.int k) x) = xInt (ρ x) fun _ n => wVal (k.wrap n) fun n => K (.int k n) H := (rfl)
@[simp ↓] theorem wOp_convS {x : Opd} : wOp ρ H K (.conv .s2s x) = wStr (ρ x) fun s => K (.str s) H := by
  simp only [wOp, wStr] <;> (generalize ρ x = v; cases v <;> first | rfl | simp [wVal, wGet, wAt, wMut])
@[simp ↓] theorem wOp_convB {x : Opd} : wOp ρ H K (.conv .b2s x) = wSl (ρ x) (fun l c => xElems H 1 (.list l c) fun p _ => allU8 p = true ∧ wVal (bytesV p) fun s => K (.str s) H)
    (fun a b c d => xElems H 1 (.own a b c d) fun p _ => allU8 p = true ∧ wVal (bytesV p) fun s => K (.str s) H) := by
  simp only [wOp, wSl, wVal] <;> (generalize ρ x = v; cases v <;> first | rfl | simp [wVal, wGet, wAt, wMut])
@[simp ↓] theorem wOp_makeIface {t : TypeId} {x : Opd} : wOp ρ H K (.makeIface t x) = wVal (ρ x) fun v => isAny v = false ∧ K (.iface t v) H := (rfl)
@[simp ↓] theorem wOp_makeFunc {f : Fn} {a b : List Opd} : wOp ρ H K (.makeFunc f a b) = wVal (a.map ρ) fun a => wVal (b.map ρ) fun b => K (.fn f a b) H := (rfl)
@[simp ↓] theorem wOp_makeSlice {n bytes : Nat} {z : List V} {l c : Opd} : wOp ρ H K (.makeSlice n bytes z l c) = xInt (ρ l) fun _ l => xInt (ρ c) fun _ c =>
    (0 ≤ l ∧ l ≤ c ∧ c * bytes ≤ 2 ^ 47 ∧ c ≤ 2 ^ 47 ∧ (z.length = n ∧ n ≠ 0)) ∧
      if c = 0 then K (.list [] true) H else wVal H fun H => wVal (zeros z c.toNat) fun z => K (.own H.length 0 l.toNat n) (H ++ [.live z]) := (rfl)
@[simp ↓] theorem wOp_slice {k : SlK} {x : Opd} {lo hi mx : Option Opd} : wOp ρ H K (.slice k x lo hi mx) = xSlice H k (ρ x) (lo.map ρ) (hi.map ρ) (mx.map ρ) fun v => K v H := (rfl)
@[simp ↓] theorem wOp_fieldAddr {off : Nat} {x : Opd} : wOp ρ H K (.fieldAddr off x) = wPR (ρ x) (fun id o => wVal (o + off) fun o => K (.ptr id o) H) (fun l => off ≤ l.length ∧ wVal (l.drop off) fun l => K (.ref l) H) := by
  simp only [wOp, wPR, wVal] <;> (generalize ρ x = v; cases v <;> first | rfl | simp [wVal, wGet, wAt, wMut])
@[simp ↓] theorem wOp_field {off n : Nat} {x : Opd} : wOp ρ H K (.field false off n x) = wAgg (ρ x) fun l => off + n ≤ l.length ∧ wGet l off fun v => K v H := by
  simp only [wOp, wAgg, wGet] <;> (split <;> simp_all)
@[simp ↓] theorem wOp_fieldA {off n : Nat} {x : Opd} : wOp ρ H K (.field true off n x) = wAgg (ρ x) fun l => off + n ≤ l.length ∧ wVal ((l.drop off).take n) fun l => K (.agg l) H := by
  simp only [wOp, wAgg, wVal] <;> (split <;> simp_all)
@[simp ↓] theorem wOp_indexSl {n : Nat} {x i : Opd} : wOp ρ H K (.indexSl n x i) = xInt (ρ i) fun _ j => 0 ≤ j ∧ wSl (ρ x) (fun l _ => wVal j.toNat fun j => wGet l j fun v => wVal (cellsOf v) fun c => c.length = n ∧ K (.ref c) H)
    (fun id off len m => (j < len ∧ m = n) ∧ K (.ptr id (off + j.toNat * n)) H) := by
  simp only [wOp, wSl, wVal, wGet] <;> (generalize ρ x = v; cases v <;> first | rfl | simp [wVal, wGet, wAt, wMut])
@[simp ↓] theorem wOp_indexPA {al n : Nat} {x i : Opd} : wOp ρ H K (.indexPA al n x i) = xInt (ρ i) fun _ j => 0 ≤ j ∧ wPR (ρ x) (fun id off => j < al ∧ K (.ptr id (off + j.toNat * n)) H)
    (fun l => (j < al ∧ j.toNat * n ≤ l.length) ∧ wVal (l.drop (j.toNat * n)) fun l => K (.ref l) H) := by
  simp only [wOp, wPR, wVal] <;> (generalize ρ x = v; cases v <;> first | rfl | simp [wVal, wGet, wAt, wMut])
@[simp ↓] theorem wOp_indexArr {al n : Nat} {x i : Opd} : wOp ρ H K (.indexArr al n false x i) = xInt (ρ i) fun _ j => wAgg (ρ x) fun l => (0 ≤ j ∧ j < al ∧ j.toNat * n + n ≤ l.length) ∧ wGet l (j.toNat * n) fun v => K v H := by
  simp only [wOp, xInt, wAgg, wGet] <;> (generalize ρ i = u; generalize ρ x = v; cases u <;> first | rfl | (cases v <;> simp))
@[simp ↓] theorem wOp_indexArrA {al n : Nat} {x i : Opd} : wOp ρ H K (.indexArr al n true x i) = xInt (ρ i) fun _ j => wAgg (ρ x) fun l => (0 ≤ j ∧ j < al ∧ j.toNat * n + n ≤ l.length) ∧ wVal ((l.drop (j.toNat * n)).take n) fun l => K (.agg l) H := by
  simp only [wOp, xInt, wAgg, wVal] <;> (generalize ρ i = u; generalize ρ x = v; cases u <;> first | rfl | (cases v <;> simp))
@[simp ↓] theorem wOp_indexStr {x i : Opd} : wOp ρ H K (.indexStr x i) = xInt (ρ i) fun _ j => 0 ≤ j ∧ wStr (ρ x) fun s => wAt s.data.toList j.toNat fun b => K (.int .u8 b.toNat) H := by
  simp only [wOp, wStr, wAt] <;> (generalize ρ x = v; cases v <;> first | rfl | simp [wVal, wGet, wAt, wMut])
@[simp ↓] theorem wOp_extract {i : Nat} {x : Opd} : wOp ρ H K (.extract i x) = wTup (ρ x) fun l => wGet l i fun v => K v H := (rfl)
@[simp ↓] theorem wOp_lenC {n : Nat} : wOp ρ H K (.lenC n) = K (.int .i64 n) H := (rfl)
@[simp ↓] theorem wOp_lenS {x : Opd} : wOp ρ H K (.lenS x) = wStr (ρ x) fun s => K (.int .i64 s.size) H := (rfl)
@[simp ↓] theorem wOp_len {x : Opd} : wOp ρ H K (.len x) = wSl (ρ x) (fun l _ => wVal (V.int .i64 l.length) fun v => K v H) (fun _ _ n _ => K (.int .i64 n) H) := (rfl)
@[simp ↓] theorem wOp_cap {x : Opd} : wOp ρ H K (.cap x) = wSl (ρ x) (fun l c => c = true ∧ wVal (V.int .i64 l.length) fun v => K v H) (fun _ _ _ _ => False) := by
  simp only [wOp, wSl, wVal] <;> (generalize ρ x = v; cases v <;> simp)
@[simp ↓] theorem wOp_append {n bytes : Nat} {s x : Opd} : wOp ρ H K (.append n bytes none s x) = wVal H fun H => xElems H n (ρ x) fun xs k => xAppend H n bytes (ρ s) xs k K := (rfl)
@[simp ↓] theorem wOp_appendN {n bytes : Nat} {z : List V} {s x : Opd} : wOp ρ H K (.append n bytes (some z) s x) = xInt (ρ x) fun _ l => (0 ≤ l ∧ l ≤ 2 ^ 47 ∧ l * bytes ≤ 2 ^ 47 ∧ z.length = n) ∧
    wVal H fun H => xAppend H n bytes (ρ s) (zeros z l.toNat) l.toNat K := (rfl)
@[simp ↓] theorem wOp_copy {n : Nat} {d s : Opd} : wOp ρ H K (.copy n d s) = wVal H fun H => xElems H n (ρ s) fun xs k => wSl (ρ d) (fun l _ => l = [] ∧ K (.int .i64 0) H)
    (fun id off len m => wMut H id fun l => (m = n ∧ off + len * n ≤ l.length ∧ (xs.take (Nat.min k len * n)).all storable = true) ∧
      K (.int .i64 (Nat.min k len : Nat)) (H.set id (.live (splice l off (xs.take (Nat.min k len * n)))))) := by
  simp only [wOp, wSl, wVal, wMut] <;> (generalize ρ d = v; cases v <;> first | rfl | simp [wVal, wGet, wAt, wMut])
@[simp ↓] theorem wOp_clear {z : List V} {n : Nat} {x : Opd} : wOp ρ H K (.clear z n x) = wVal H fun H => wSl (ρ x) (fun l _ => l = [] ∧ K uv H)
    (fun id off len m => wMut H id fun l => (m = n ∧ z.length = n ∧ off + len * n ≤ l.length ∧ z.all storable = true) ∧ K uv (H.set id (.live (splice l off (zeros z len))))) := by
  simp only [wOp, wSl, wVal, wMut] <;> (generalize ρ x = v; cases v <;> first | rfl | simp [wVal, wGet, wAt, wMut])
@[simp ↓] theorem wOp_max {l : List Opd} : wOp ρ H K (.max l) = wOpt (maxV (l.map ρ)) fun v => K v H := (rfl)
@[simp ↓] theorem wOp_min {l : List Opd} : wOp ρ H K (.min l) = wOpt (minV (l.map ρ)) fun v => K v H := (rfl)
end ops

/-! ### Numbers and truths -/
section bin
variable {k : IntKind} {ek : EqK} {a b : Int} {K : V → Prop}
@[simp] theorem wBin_add : xBin .add ek (.int k a) (.int k b) K = wVal (k.wrap (a + b)) fun n => K (.int k n) := by simp [xBin, wBin, binV, wVal]
@[simp] theorem wBin_sub : xBin .sub ek (.int k a) (.int k b) K = wVal (k.wrap (a - b)) fun n => K (.int k n) := by simp [xBin, wBin, binV, wVal]
@[simp] theorem wBin_mul : xBin .mul ek (.int k a) (.int k b) K = wVal (k.wrap (a * b)) fun n => K (.int k n) := by simp [xBin, wBin, binV, wVal]
@[simp] theorem wBin_quo : xBin .quo ek (.int k a) (.int k b) K = (b ≠ 0 ∧ wVal (k.wrap (a.tdiv b)) fun n => K (.int k n)) := by
  by_cases h : b = 0 <;> simp [xBin, wBin, binV, wVal, h]
@[simp] theorem wBin_rem : xBin .rem ek (.int k a) (.int k b) K = (b ≠ 0 ∧ wVal (a.tmod b) fun n => K (.int k n)) := by
  by_cases h : b = 0 <;> simp [xBin, wBin, binV, wVal, h]
@[simp] theorem wBin_lss : xBin .lss ek (.int k a) (.int k b) K = K (.bool (decide (a < b))) := by simp [xBin, wBin, binV, cmpInt]
@[simp] theorem wBin_leq : xBin .leq ek (.int k a) (.int k b) K = K (.bool (decide (a ≤ b))) := by simp [xBin, wBin, binV, cmpInt]
@[simp] theorem wBin_gtr : xBin .gtr ek (.int k a) (.int k b) K = K (.bool (decide (b < a))) := by simp [xBin, wBin, binV, cmpInt]
@[simp] theorem wBin_geq : xBin .geq ek (.int k a) (.int k b) K = K (.bool (decide (b ≤ a))) := by simp [xBin, wBin, binV, cmpInt]
@[simp] theorem wBin_eql : xBin .eql ek (.int k a) (.int k b) K = K (.bool (decide (a = b))) := by
  simp only [xBin, wBin, binV, cmpInt, if_true, Option.map_some, Option.some.injEq, exists_eq_left']
  rw [show (a == b) = decide (a = b) from by by_cases h : a = b <;> simp [h]]
@[simp] theorem wBin_neq : xBin .neq ek (.int k a) (.int k b) K = K (.bool (decide (a ≠ b))) := by
  simp only [xBin, wBin, binV, cmpInt, if_true, Option.map_some, Option.some.injEq, exists_eq_left']
  rw [show (a != b) = decide (a ≠ b) from by by_cases h : a = b <;> simp [h]]
@[simp] theorem wUn_not {t : Bool} : xUn .not (.bool t) K = K (.bool (!t)) := by simp [xUn, wUn, unV]
@[simp] theorem wUn_neg : xUn .neg (.int k a) K = wVal (k.wrap (0 - a)) fun n => K (.int k n) := by simp [xUn, wUn, unV, wVal]
end bin
end Fz
