import Derived.Test.YtagdmfgnnhlakaaGreatDoorFzRaBM1
import Derived.Lib.ConvBytes
import Derived.Laws.StructEq
import Derived.ChangeKeysEq
import Derived.WideLaws
import Derived.Laws.Cover3
import Derived.CallsIn
import Derived.OrdersIn
import Derived.LoopNIn
import Derived.RangeFuncRecord
import Derived.RangeFuncCalls
import Derived.Orders
set_option linter.all false
set_option linter.unusedVariables false
set_option linter.unusedSimpArgs false
set_option linter.unnecessarySimpa false
namespace Fz
open Go
theorem flat_chunks (n : Nat) : ∀ (k : Nat) (l : List V), l.length = k * n → flat (chunks n k l) = l ∧ (chunks n k l).length = k ∧ ∀ v ∈ chunks n k l, (cellsOf v).length = n
  | 0, l, h => by
    have : l = [] := List.eq_nil_of_length_eq_zero (by omega)
    subst this
    simp [chunks, flat]
  | k + 1, l, h => by
    rw [Nat.add_mul] at h
    obtain ⟨h1, h2, h3⟩ := flat_chunks n k (l.drop n) (by simp; omega)
    simp only [chunks]
    refine ⟨?_, by simp [h2], ?_⟩
    · simp only [flat, List.flatMap_cons, cellsOf] at h1 ⊢
      rw [h1, List.take_append_drop]
    · intro v hv
      rcases List.mem_cons.1 hv with rfl | hv
      · simp [cellsOf]; omega
      · exact h3 v hv
theorem flat_leafy : ∀ {l : List V}, l.all leafy = true → flat l = l ∧ ∀ v ∈ l, (cellsOf v).length = 1
  | [], _ => by simp [flat]
  | v :: l, h => by
    simp only [List.all_cons, Bool.and_eq_true] at h
    obtain ⟨h1, h2⟩ := flat_leafy h.2
    have hc : cellsOf v = [v] := by
      cases v <;> first | rfl | (have := h.1; simp [leafy] at this)
    refine ⟨?_, ?_⟩
    · simp only [flat, List.flatMap_cons, hc] at h1 ⊢
      rw [h1]; rfl
    · intro u hu
      rcases List.mem_cons.1 hu with rfl | hu
      · rw [hc]; rfl
      · exact h2 u hu
theorem chunk_flat {n len : Nat} {l : List V} (hl : l.length = len * n) (h : n ≠ 1 ∨ l.all leafy = true) :
    flat (chunk n len l) = l ∧ (chunk n len l).length = len ∧ ∀ v ∈ chunk n len l, (cellsOf v).length = n := by
  unfold chunk
  by_cases e : n = 1
  · subst e
    have hall := h.resolve_left (by simp)
    rw [if_pos rfl, List.take_of_length_le (by omega)]
    obtain ⟨h1, h2⟩ := flat_leafy hall
    exact ⟨h1, by omega, h2⟩
  · rw [if_neg e]; exact flat_chunks n len l hl
theorem Inv.newO {K : Kn} {β : Bi} {H : List Ob} {w w' : World} (h : Inv K β H w) {ob : Ob} {x : Obj}
    (hh : w'.heap = w.heap.push x) (h1 : w'.os = w.os) (h2 : w'.tape = w.tape) (h3 : w'.output = w.output)
    (ho' : ObR K (setB β H.length w.heap.size) w' H.length ob) :
    let β' := setB β H.length w.heap.size
    (∀ i x, β i = some x → β' i = some x) ∧ β' H.length = some w.heap.size ∧ Inv K β' (H ++ [ob]) w' ∧ Ev K β H w K β' (H ++ [ob]) w' := by
  intro β'
  have hβ : ∀ i x, β i = some x → β' i = some x := setB_le h.freshB
  have hb : β' H.length = some w.heap.size := by simp [β', setB]
  have hβ' : ∀ i x, β' i = some x → (i = H.length ∧ x = w.heap.size) ∨ β i = some x := by
    intro i x hi
    by_cases e : i = H.length
    · subst e; rw [hb] at hi; exact .inl ⟨rfl, (Option.some.inj hi).symm⟩
    · right; simpa [β', setB, e] using hi
  have hlive : ∀ i, liveAt (H ++ [ob]) i → i = H.length ∨ liveAt H i := by
    rintro i ⟨o, ho, hl⟩
    by_cases e : i < H.length
    · rw [List.getElem?_append_left e] at ho; exact .inr ⟨o, ho, hl⟩
    · left
      have := (List.getElem?_eq_some_iff.1 ho).1
      simp at this; omega
  have hold : ∀ i b, liveAt H i → β i = some b → b < w.heap.size := by
    rintro i b ⟨o, ho, hl⟩ hi
    obtain ⟨b', g1, g2, _⟩ := (h.obj i o ho).lt hl
    rw [hi] at g1; cases g1; exact g2
  refine ⟨hβ, hb, ⟨?_, ?_, ?_, ?_, ?_⟩, ⟨K.le_refl, hβ, by simp, ?_, by rw [hh]; simp, h1, h2, h3, ?_, ?_, fun i hi => if_neg (by omega)⟩⟩
  · intro b o hf
    have := h.fixed b o hf
    rw [hh, push_get (heap_lt this)]; exact this
  · intro b z hs
    obtain ⟨cs', e', fr, g1, g2⟩ := h.size b z hs
    exact ⟨cs', e', fr, by rw [hh, push_get (heap_lt g1)]; exact g1, g2⟩
  · intro i b hi
    rcases hβ' i b hi with ⟨rfl, rfl⟩ | hi
    · simp
    · have := h.dom i b hi; simp; omega
  · intro i o ho
    by_cases e : i < H.length
    · rw [List.getElem?_append_left e] at ho
      refine (h.obj i o ho).mono K.le_refl hβ fun b hl hb' hf => ⟨hf, ?_⟩
      rw [hh, push_get (hold i b ⟨o, ho, hl⟩ hb')]
    · have hi : i = H.length := by have := (List.getElem?_eq_some_iff.1 ho).1; simp at this; omega
      subst hi
      simp at ho; subst ho
      exact ho'
  · intro i j b hi hj h1 h2
    rcases hβ' i b h1 with ⟨rfl, rfl⟩ | h1
    · rcases hβ' j _ h2 with ⟨rfl, _⟩ | h2
      · rfl
      · rcases hlive j hj with rfl | hj
        · rfl
        · have := hold j _ hj h2; omega
    · rcases hβ' j b h2 with ⟨rfl, rfl⟩ | h2
      · rcases hlive i hi with rfl | hi
        · rfl
        · have := hold i _ hi h1; omega
      · rcases hlive i hi with rfl | hi
        · rw [h.freshB] at h1; cases h1
        · rcases hlive j hj with rfl | hj
          · rw [h.freshB] at h2; cases h2
          · exact h.inj i j b hi hj h1 h2
  · intro x hx _
    rw [hh, push_get hx]
  · rintro x ⟨i, hi, hx⟩
    rcases hβ' i x hx with ⟨rfl, rfl⟩ | hx
    · exact .inr (Nat.le_refl _)
    · rcases hlive i hi with rfl | hi
      · rw [h.freshB] at hx; cases hx
      · exact .inl ⟨i, hi, hx⟩
  · intro x o hf; exact .inl hf
theorem Inv.putO {K : Kn} {β : Bi} {H : List Ob} {w w' : World} (h : Inv K β H w) {id b : Nat} {o o' : Ob} {x' : Obj}
    (hi : H[id]? = some o) (hl : o.isLive = true) (hb : β id = some b) (hf : K.fixed b = none) (hz : K.size b = none)
    (hh : ∀ x, w'.heap[x]? = if x = b then some x' else w.heap[x]?) (hs : w'.heap.size = w.heap.size)
    (h1 : w'.os = w.os) (h2 : w'.tape = w.tape) (h3 : w'.output = w.output) (ho' : ObR K β w' id o') :
    Inv K β (H.set id o') w' ∧ Ev K β H w K β (H.set id o') w' := by
  have hlv : liveAt H id := ⟨_, hi, hl⟩
  have hlive : ∀ i, liveAt (H.set id o') i → liveAt H i := by
    rintro i ⟨o, ho, hl⟩
    by_cases e : id = i
    · subst e; exact hlv
    · rw [set_get e] at ho; exact ⟨o, ho, hl⟩
  refine ⟨⟨?_, ?_, ?_, ?_, ?_⟩, ⟨K.le_refl, fun _ _ h => h, by simp, ?_, by omega, h1, h2, h3, ?_, fun _ _ h => .inl h, fun _ _ => rfl⟩⟩
  · intro x y hy
    rw [hh]
    by_cases ex : x = b
    · subst ex; rw [hf] at hy; cases hy
    · rw [if_neg ex]; exact h.fixed x y hy
  · intro x z hy
    rw [hh]
    by_cases ex : x = b
    · subst ex; rw [hz] at hy; cases hy
    · rw [if_neg ex]; exact h.size x z hy
  · intro i x hx; have := h.dom i x hx; simpa using this
  · intro i y ho
    by_cases ei : id = i
    · subst ei
      rw [set_self hi] at ho; cases ho
      exact ho'
    · rw [set_get ei] at ho
      refine (h.obj i y ho).mono K.le_refl (fun _ _ h => h) fun x hl' hx hf => ⟨hf, ?_⟩
      rw [hh, if_neg]
      intro ex; subst ex
      exact ei (h.inj id i x hlv ⟨y, ho, hl'⟩ hb hx)
  · intro i j x hi' hj' hx hy
    exact h.inj i j x (hlive i hi') (hlive j hj') hx hy
  · intro x hx hn
    rw [hh, if_neg]
    intro ex; subst ex
    exact hn ⟨id, hlv, hb⟩
  · rintro x ⟨i, hi', hx⟩
    exact .inl ⟨i, hlive i hi', hx⟩
theorem size_none {K : Kn} {β : Bi} {H : List Ob} {w : World} (h : Inv K β H w) {b : Nat} {x : Obj} (hb : w.heap[b]? = some x) (hx : ∀ cs e fr, x ≠ .cells cs e fr) : K.size b = none := by
  cases hz : K.size b with
  | none => rfl
  | some z =>
    obtain ⟨cs, e, fr, h1, _⟩ := h.size b z hz
    rw [hb] at h1
    exact absurd (Option.some.inj h1) (hx _ _ _)
theorem tOne_VR {P : Program} {t : TypeId} {z : V} (h : tOne P t = some z) (K : Kn) (β : Bi) : ∃ c, (∀ w, (zeroValue t).run P w = .ok c w) ∧ VR K β z c := by
  unfold tOne at h
  cases hi : P.info? t with
  | none => simp [hi] at h
  | some i =>
    cases hz : i.zero with
    | none => simp [hi, hz] at h
    | some c =>
      simp only [hi, hz, Option.bind_some] at h
      exact ⟨c, fun w => by simp [zeroValue, typeInfo, hi, hz], ofVal_VR K β 4 c z h⟩
theorem checkKey_ok {P : Program} {kt : TypeId} {kk : KyK} (hk : cKey P kt = some kk) (b : Bool) (c : Value) (w : World) : (Instr.checkKey b 10000 kt c).run P w = .ok () w := by
  unfold cKey at hk
  split at hk <;> try (cases hk; done)
  all_goals
    rename_i hu
    have h1 := run_underlying hu w
    rw [show (10000 : Nat) = 9999 + 1 from rfl]
    unfold Instr.checkKey
    simp only [Sem.run_bind, h1, Result.andThen_ok]
    rfl
theorem findNow_ok {P : Program} {K : Kn} {β : Bi} {kt : TypeId} {kk : KyK} {d : TypeDesc} (hk : cKey P kt = some kk) (hd : P.underlying kt = some d) {k : V} {ck : Value} (hv : VR K β k ck) :
    ∀ (ks : List V) (es : List MapEntry) (i : Nat) (r : Option Nat), ks.length = es.length → (∀ j v, ks[j]? = some v → VR K β v (es.getD j default).key) → findV kk k ks i = some r →
      Instr.findNow d ck es i = some (r.map fun j => (j, (es.getD (j - i) default).val)) ∧ ∀ j, r = some j → i ≤ j ∧ j - i < es.length
  | [], [], i, r, _, _, h => by cases h; exact ⟨rfl, fun j h => by cases h⟩
  | [], _ :: _, _, _, hl, _, _ => by simp at hl
  | _ :: _, [], _, _, hl, _, _ => by simp at hl
  | u :: ks, e :: es, i, r, hl, hr, h => by
    have h0 : VR K β u e.key := by simpa using hr 0 u rfl
    have hsame : ∀ b, keyEq kk k u = some b → Instr.sameNow d ck e.key = some b := by
      intro b hb
      generalize e.key = ek at h0
      unfold cKey at hk
      rw [hd] at hk
      cases d <;> simp at hk <;> subst hk
      · unfold keyEq at hb
        split at hb <;> try (cases hb; done)
        · rename_i heq; cases hv; cases h0
          split at hb <;> cases hb
          rename_i hkk; subst hkk
          simp [Instr.sameNow]
        · rename_i heq; cases heq
      · unfold keyEq at hb
        split at hb <;> try (cases hb; done)
        · rename_i heq; cases heq
        · cases hv; cases h0; cases hb
          simp only [Instr.sameNow, Option.some.injEq]
          rename_i a b _
          cases a; cases b
          simp
          rfl
    unfold findV at h
    split at h
    · rename_i hb
      cases h
      refine ⟨?_, fun j hj => by cases hj; exact ⟨Nat.le_refl _, by simp⟩⟩
      simp [Instr.findNow, hsame _ hb]
    · rename_i hb
      obtain ⟨g1, g2⟩ := findNow_ok hk hd hv ks es (i + 1) r (by simpa using hl) (fun j v hj => by simpa using hr (j + 1) v (by simpa using hj)) h
      refine ⟨?_, fun j hj => ?_⟩
      · simp only [Instr.findNow, hsame _ hb, g1]
        cases r with
        | none => rfl
        | some j =>
          obtain ⟨g3, g4⟩ := g2 j rfl
          simp only [Option.map_some, Option.some.injEq, Prod.mk.injEq, true_and]
          rw [show j - i = (j - (i + 1)) + 1 from by omega]
          simp
      · obtain ⟨g3, g4⟩ := g2 j hj
        exact ⟨by omega, by simp; omega⟩
    · cases h
theorem findKey_ok {P : Program} {K : Kn} {β : Bi} {kt : TypeId} {kk : KyK} (hk : cKey P kt = some kk) {k : V} {ck : Value} (hv : VR K β k ck) {ks : List V} {es : Array MapEntry}
    (hl : ks.length = es.size) (hr : ∀ j v, ks[j]? = some v → VR K β v (es.getD j default).key) {r : Option Nat} (h : findV kk k ks 0 = some r) (w : World) :
    (Instr.findKey kt ck es.toList).run P w = .ok (r.map fun j => (j, (es.getD j default).val)) w ∧ ∀ j, r = some j → j < es.size := by
  cases hd : P.underlying kt with
  | none => unfold cKey at hk; rw [hd] at hk; cases hk
  | some d =>
    obtain ⟨g1, g2⟩ := findNow_ok hk hd hv ks es.toList 0 r (by simpa using hl) (fun j v hj => by
      have := hr j v hj
      simpa [List.getD, Array.getD_eq_getD_getElem?] using this) h
    refine ⟨?_, fun j hj => by simpa using (g2 j hj).2⟩
    unfold Instr.findKey
    simp only [Sem.run_bind, run_underlying hd w, Result.andThen_ok, g1]
    cases r <;> simp [List.getD, Array.getD_eq_getD_getElem?]
section
variable {P : Program} {K : Kn} {β : Bi} {H : List Ob} {w : World} {nt : Nat} {e : Env} {a : Act} (hI : Inv K β H w) (hE : ER K β nt e a)
variable {dst : Option Tmp} {ty : TypeId} {pos : String} {after : Array Edge} {guard : Option (Nat × Bool)} {op : AOp} {r : OR}
include hI hE

omit hE in
theorem run_makeMap' {t kt et : TypeId} (hu : P.underlying t = some (.map kt et)) (o : Option Value) (ho : ∀ v, o = some v → ∃ k n, v = .int k n) :
    ∃ w' K' β', (Instr.makeMap t o).run P w = .ok (.map (some w.heap.size)) w' ∧ VR K' β' (.mref H.length) (.map (some w.heap.size)) ∧ Inv K' β' (H ++ [.mlive [] []]) w' ∧ Ev K β H w K' β' (H ++ [.mlive [] []]) w' := by
  have hn : ∀ w', w'.heap = w.heap.push (.map #[] 0) → ObR K (setB β H.length w.heap.size) w' H.length (.mlive [] []) := by
    intro w' hw
    refine ⟨w.heap.size, #[], 0, by simp [setB], hI.fresh, by rw [hw]; exact push_new, rfl, rfl, fun i v h => by simp at h, fun i v h => by simp at h⟩
  obtain ⟨q1, q2, q3, q4⟩ := Inv.newO (w' := w.alloc (.map #[] 0)) hI (ob := .mlive [] []) (x := .map #[] 0) rfl rfl rfl rfl (hn _ rfl)
  refine ⟨_, K, _, ?_, .mref q2, q3, q4⟩
  cases o with
  | none => rfl
  | some v =>
    obtain ⟨k, n, rfl⟩ := ho v rfl
    have h1 := run_underlying hu w
    simp only [Instr.makeMap, Sem.run_bind, h1, Result.andThen_ok, asInt]
    rfl
theorem ok_makeMap {t : TypeId} {o : Option Operand} (hc : cOp P ⟨dst, .makeMap t o, ty, pos, after, guard⟩ = some op) (hr : evOp (evO e) H op = some r) : OpOk P K β H w ((execOp a.eval ⟨dst, .makeMap t o, ty, pos, after, guard⟩).run P w) r := by
  cases o with
  | none =>
    simp only [cOp] at hc
    split at hc <;> cases hc
    rename_i kt et hu
    simp only [evOp, List.map_nil, memV, Option.some.injEq] at hr; subst hr
    obtain ⟨w', K', β', h1, h2, h3, h4⟩ := run_makeMap' hI hu none (fun v h => by cases h)
    exact ⟨_, w', K', β', execOp_v h1, h2, h3, h4⟩
  | some x =>
    simp only [cOp] at hc
    split at hc <;> cases hc
    rename_i kt et y hu hy
    have hv := hE.opd hy
    simp only [evOp, List.map_cons, List.map_nil] at hr
    generalize hcx : a.eval x = cx at hv
    generalize evO e y = uy at hv hr
    obtain ⟨k, n, rfl⟩ : ∃ k n, uy = .int k n := by cases uy <;> first | exact ⟨_, _, rfl⟩ | (cases hr; done)
    cases hr
    cases hv
    obtain ⟨w', K', β', h1, h2, h3, h4⟩ := run_makeMap' hI hu (some (a.eval x)) (fun v h => by cases h; exact ⟨_, _, hcx⟩)
    exact ⟨_, w', K', β', execOp_v h1, h2, h3, h4⟩
theorem mapPut_ok {t : TypeId} {m k x : Operand} (hc : cMapPut P t m k x = some op) (hr : evOp (evO e) H op = some r) :
    OpOk P K β H w ((do Instr.mapUpdate t (a.eval m) (a.eval k) (a.eval x); pure .skip : Sem Next).run P w) r := by
  unfold cMapPut at hc
  split at hc <;> try (cases hc; done)
  rename_i kt et m' k' x' hu hm hk hx
  obtain ⟨kk, hkk, rfl⟩ := Option.map_eq_some_iff.1 hc
  have vm := hE.opd hm
  have vk := hE.opd hk
  have vx := hE.opd hx
  simp only [evOp, List.map_cons, List.map_nil] at hr
  generalize evO e m' = um at vm hr
  generalize evO e k' = uk at vk hr
  generalize evO e x' = ux at vx hr
  obtain ⟨id, rfl⟩ : ∃ id, um = .mref id := by cases um <;> first | exact ⟨_, rfl⟩ | (cases hr; done)
  simp only [memV] at hr
  · obtain ⟨k2, hk2⟩ : ∃ k2, k2 = uk := ⟨_, rfl⟩
    obtain ⟨v2, hv2⟩ : ∃ v2, v2 = ux := ⟨_, rfl⟩
    subst hk2 hv2
    split at hr <;> try (cases hr; done)
    rename_i ks vs hob
    split at hr <;> cases hr
    rename_i hf
    generalize hcm : a.eval m = cm at vm
    cases vm with
    | mref hβ =>
      rename_i b
      obtain ⟨b', es, clock, g1, g2, g3, g4, g5, g6, g7⟩ := hI.obj id _ hob
      rw [hβ] at g1; cases g1
      obtain ⟨q1, _⟩ := findKey_ok (P := P) hkk vk g4 g6 hf w
      have hrun : (Instr.mapUpdate t (.map (some b)) (a.eval k) (a.eval x)).run P w = .ok () { w with heap := w.heap.setIfInBounds b (.map (es.push { key := a.eval k, val := a.eval x, born := clock }) (clock + 1)) } := by
        have h1 := run_underlying hu w
        have h2 : (getObj b).run P w = .ok (.map es clock) w := by simp [getObj, Sem.run, g3]
        have h3 := checkKey_ok (P := P) hkk false (a.eval k) w
        simp only [Instr.mapUpdate, Sem.run_bind, h1, h2, h3, Result.andThen_ok, q1, Option.map_none]
        simp [setObj, Sem.run, g3]
      have hlt := heap_lt g3
      have hobr : ObR K β { w with heap := w.heap.setIfInBounds b (.map (es.push { key := a.eval k, val := a.eval x, born := clock }) (clock + 1)) } id (.mlive (ks ++ [k2]) (vs ++ [v2])) := by
        refine ⟨b, _, _, hβ, g2, by simp [hlt]; exact ⟨rfl, rfl⟩, by simp [g4], by simp [g5], fun i v hi => ?_, fun i v hi => ?_⟩
        · by_cases hlt' : i < ks.length
          · rw [List.getElem?_append_left hlt'] at hi
            have := g6 i v hi
            simpa [Array.getD_eq_getD_getElem?, Array.getElem?_push, show i ≠ es.size from by omega] using this
          · rw [List.getElem?_append_right (by omega)] at hi
            have hi' : i = ks.length := by have := (List.getElem?_eq_some_iff.1 hi).1; simp at this; omega
            subst hi'
            simp at hi; subst hi
            simpa [Array.getD_eq_getD_getElem?, Array.getElem?_push, g4] using vk
        · by_cases hlt' : i < vs.length
          · rw [List.getElem?_append_left hlt'] at hi
            have := g7 i v hi
            simpa [Array.getD_eq_getD_getElem?, Array.getElem?_push, show i ≠ es.size from by omega] using this
          · rw [List.getElem?_append_right (by omega)] at hi
            have hi' : i = vs.length := by have := (List.getElem?_eq_some_iff.1 hi).1; simp at this; omega
            subst hi'
            simp at hi; subst hi
            simpa [Array.getD_eq_getD_getElem?, Array.getElem?_push, g5] using vx
      obtain ⟨i1, e1⟩ := Inv.putO (w' := { w with heap := w.heap.setIfInBounds b (.map (es.push { key := a.eval k, val := a.eval x, born := clock }) (clock + 1)) }) (o' := .mlive (ks ++ [k2]) (vs ++ [v2])) (x' := .map (es.push { key := a.eval k, val := a.eval x, born := clock }) (clock + 1)) hI hob rfl hβ g2 (size_none hI g3 (fun _ _ _ h => by cases h)) (fun y => by
        show (w.heap.setIfInBounds b _)[y]? = _
        rw [Array.getElem?_setIfInBounds]
        by_cases ey : b = y
        · subst ey; simp [hlt]
        · simp [ey, Ne.symm ey]) (by simp) rfl rfl rfl hobr
      exact ⟨_, K, β, execOp_u hrun, i1, e1⟩
theorem ok_lookup {t : TypeId} {m k : Operand} {ok : Bool} (hc : cOp P ⟨dst, .lookup t m k ok, ty, pos, after, guard⟩ = some op) (hr : evOp (evO e) H op = some r) : OpOk P K β H w ((execOp a.eval ⟨dst, .lookup t m k ok, ty, pos, after, guard⟩).run P w) r := by
  simp only [cOp] at hc
  split at hc <;> try (cases hc; done)
  rename_i kt et m' k' hu hm hk
  split at hc <;> cases hc
  rename_i kk z hkk hz
  have vm := hE.opd hm
  have vk := hE.opd hk
  simp only [evOp, ans, Option.map_eq_some_iff, List.map_cons, List.map_nil] at hr
  obtain ⟨u, hr, rfl⟩ := hr
  generalize evO e m' = um at vm hr
  generalize evO e k' = uk at vk hr
  obtain ⟨cz, hcz, vz⟩ := tOne_VR hz K β
  unfold rdV at hr
  dsimp only at hr
  split at hr <;> try (cases hr; done)
  rename_i ks vs hmap
  obtain ⟨es, clock, hes, g4, g5, g6, g7⟩ : ∃ (es : Array MapEntry) (clock : Nat), ((a.eval m = .map none ∧ es = #[]) ∨ ∃ b, a.eval m = .map (some b) ∧ w.heap[b]? = some (.map es clock)) ∧ ks.length = es.size ∧ vs.length = es.size ∧
      (∀ i v, ks[i]? = some v → VR K β v (es.getD i default).key) ∧ (∀ i v, vs[i]? = some v → VR K β v (es.getD i default).val) := by
    generalize hcm : a.eval m = cm at vm
    unfold mapOf at hmap
    split at hmap <;> try (cases hmap; done)
    · cases hmap; cases vm
      exact ⟨#[], 0, .inl ⟨rfl, rfl⟩, rfl, rfl, fun i v h => by simp at h, fun i v h => by simp at h⟩
    · cases hmap
      cases vm with
      | map hb h1 h2 h3 h4 =>
        rename_i b es clock
        exact ⟨es, clock, .inr ⟨_, rfl, hI.fixed _ _ hb⟩, h1, h2, h3, h4⟩
    · split at hmap <;> cases hmap
      rename_i hob
      cases vm with
      | mref hβ =>
        obtain ⟨b', es, clock, g1, g2, g3, g4, g5, g6, g7⟩ := hI.obj _ _ hob
        rw [hβ] at g1; cases g1
        exact ⟨es, clock, .inr ⟨_, rfl, g3⟩, g4, g5, g6, g7⟩
  have h1 := run_underlying hu w
  have h3 := fun b => checkKey_ok (P := P) hkk b (a.eval k) w
  have run : ∀ (r : Option Nat) (v : Value) (o : Bool), findV kk uk ks 0 = some r → (match r with | some j => v = (es.getD j default).val ∧ o = true | none => v = cz ∧ o = false) →
      (Instr.lookup t (a.eval m) (a.eval k) ok).run P w = .ok (if ok then .tuple #[v, .bool o] else v) w := by
    intro r v o hf hv
    obtain ⟨q1, _⟩ := findKey_ok (P := P) hkk vk g4 g6 hf w
    unfold Instr.lookup
    rcases hes with ⟨hm0, rfl⟩ | ⟨b, hm0, hb⟩
    · rw [hm0]
      cases r with
      | none => obtain ⟨rfl, rfl⟩ := hv; simp at q1; cases ok <;> simp [h1, h3, q1, hcz]
      | some j => obtain ⟨rfl, rfl⟩ := hv; simp at q1; cases ok <;> simp [h1, h3, q1]
    · rw [hm0]
      have h2 : (getObj b).run P w = .ok (.map es clock) w := by simp [getObj, Sem.run, hb]
      cases r with
      | none => obtain ⟨rfl, rfl⟩ := hv; cases ok <;> simp [h1, h2, h3, q1, hcz]
      | some j => obtain ⟨rfl, rfl⟩ := hv; cases ok <;> simp [h1, h2, h3, q1]
  split at hr
  · rename_i i hf
    split at hr <;> cases hr
    rename_i v hv
    have vv := g7 i v hv
    refine .pure hI (execOp_v (run _ _ true hf ⟨rfl, rfl⟩)) ?_
    cases ok
    · exact vv
    · exact .tuple rfl (LR.cons vv (.single (.bool true))).arr.2
  · rename_i hf
    cases hr
    refine .pure hI (execOp_v (run _ _ false hf ⟨rfl, rfl⟩)) ?_
    cases ok
    · exact vz
    · exact .tuple rfl (LR.cons vz (.single (.bool false))).arr.2
  · cases hr
theorem ok_range {t : TypeId} {x : Operand} (hc : cOp P ⟨dst, .range t x, ty, pos, after, guard⟩ = some op) (hr : evOp (evO e) H op = some r) : OpOk P K β H w ((execOp a.eval ⟨dst, .range t x, ty, pos, after, guard⟩).run P w) r := by
  simp only [cOp] at hc
  split at hc <;> cases hc
  rename_i y hu hy
  have hv := hE.opd hy
  simp only [evOp, List.map_cons, List.map_nil] at hr
  generalize hcx : a.eval x = cx at hv
  generalize evO e y = uy at hv hr
  obtain ⟨s, rfl⟩ : ∃ s, uy = .str s := by cases uy <;> first | exact ⟨_, rfl⟩ | (cases hr; done)
  cases hr
  cases hv
  have ho : ObR K (setB β H.length w.heap.size) (w.alloc (.stringIter s 0)) H.length (.iter s 0) := ⟨w.heap.size, by simp [setB], hI.fresh, push_new⟩
  obtain ⟨q1, q2, q3, q4⟩ := Inv.newO (w' := w.alloc (.stringIter s 0)) hI (ob := .iter s 0) (x := .stringIter s 0) rfl rfl rfl rfl ho
  refine ⟨_, _, K, _, execOp_v (c := .pointer (some ⟨w.heap.size, 0, none⟩)) ?_, .ptr q2, q3, q4⟩
  unfold Instr.range
  simp only [Sem.run_bind, run_underlying hu w, hcx, Result.andThen_ok]
  rfl
theorem ok_next {it : Operand} (hc : cOp P ⟨dst, .next it true, ty, pos, after, guard⟩ = some op) (hr : evOp (evO e) H op = some r) : OpOk P K β H w ((execOp a.eval ⟨dst, .next it true, ty, pos, after, guard⟩).run P w) r := by
  simp only [cOp] at hc
  obtain ⟨y, hy, rfl⟩ := Option.map_eq_some_iff.1 hc
  have hv := hE.opd hy
  simp only [evOp, List.map_cons, List.map_nil] at hr
  generalize hcx : a.eval it = cx at hv
  generalize evO e y = uy at hv hr
  obtain ⟨id, rfl⟩ : ∃ id, uy = .ptr id 0 := by
    cases uy <;> first | (cases hr; done) | skip
    rename_i id off
    cases off with
    | zero => exact ⟨_, rfl⟩
    | succ n => cases hr
  simp only [memV] at hr
  cases hv with
  | ptr hβ =>
    rename_i b
    split at hr <;> try (cases hr; done)
    rename_i s pos hob
    obtain ⟨b', g1, g2, g3⟩ := hI.obj id _ hob
    rw [hβ] at g1; cases g1
    have h2 : (getObj b).run P w = .ok (.stringIter s pos) w := by simp [getObj, Sem.run, g3]
    split at hr
    · rename_i hlt
      cases hr
      have hltb := heap_lt g3
      have ho : ObR K β { w with heap := w.heap.setIfInBounds b (.stringIter s (pos + (Utf8.decode s pos).2)) } id (.iter s (pos + (Utf8.decode s pos).2)) := ⟨b, hβ, g2, by simp [hltb]⟩
      obtain ⟨i1, e1⟩ := Inv.putO (w' := { w with heap := w.heap.setIfInBounds b (.stringIter s (pos + (Utf8.decode s pos).2)) }) (o' := .iter s (pos + (Utf8.decode s pos).2)) (x' := .stringIter s (pos + (Utf8.decode s pos).2)) hI hob rfl hβ g2 (size_none hI g3 (fun _ _ _ h => by cases h)) (fun y => by
        show (w.heap.setIfInBounds b _)[y]? = _
        rw [Array.getElem?_setIfInBounds]
        by_cases ey : b = y
        · subst ey; simp [hltb]
        · simp [ey, Ne.symm ey]) (by simp) rfl rfl rfl ho
      refine ⟨.tuple #[.bool true, .int .i64 pos, .int .i32 (Utf8.decode s pos).1], _, K, β, execOp_v ?_, ?_, i1, e1⟩
      · unfold Instr.next
        simp only [hcx, Sem.run_bind, h2, Result.andThen_ok, if_pos hlt]
        simp [setObj, Sem.run, g3, goInt]
      · exact .tuple rfl (LR.cons (.bool true) (LR.cons (.int .i64 _) (.single (.int .i32 _)))).arr.2
    · rename_i hlt
      cases hr
      refine .pure hI (execOp_v (c := .tuple #[.bool false]) ?_) (.tuple rfl (LR.single (.bool false)).arr.2)
      unfold Instr.next
      simp only [hcx, Sem.run_bind, h2, Result.andThen_ok, if_neg hlt]
      rfl
theorem ok_typeAssert {x : Operand} {xt t : TypeId} {ok : Bool} (hc : cOp P ⟨dst, .typeAssert x xt t ok, ty, pos, after, guard⟩ = some op) (hr : evOp (evO e) H op = some r) : OpOk P K β H w ((execOp a.eval ⟨dst, .typeAssert x xt t ok, ty, pos, after, guard⟩).run P w) r := by
  simp only [cOp] at hc
  split at hc <;> try (cases hc; done)
  rename_i n1 n2
  cases hd : P.underlying t with
  | none => exact absurd hd n2
  | some d =>
    have hdi : ∀ l, d ≠ .interface l := fun l h => n1 l (by rw [hd, h])
    have h1 := run_underlying hd w
    split at hc <;> try (cases hc; done)
    · rename_i y z hy hz
      cases hc
      have hv := hE.opd hy
      obtain ⟨cz, hcz, vz⟩ := tOne_VR hz K β
      simp only [evOp, ans, Option.map_eq_some_iff, List.map_cons, List.map_nil] at hr
      obtain ⟨u, hr, rfl⟩ := hr
      generalize hcx : a.eval x = cx at hv
      generalize evO e y = uy at hv hr
      cases hv <;> try (cases hr; done)
      · rename_i tt v c hvc
        simp only [purV, Option.some.injEq] at hr
        by_cases ht : tt = t
        · rw [if_pos ht] at hr; subst hr
          refine .pure hI (execOp_v (c := .tuple #[c, .bool true]) ?_) (.tuple rfl (LR.cons hvc (.single (.bool true))).arr.2)
          rw [hcx]; unfold Instr.typeAssert
          cases d <;> first | exact absurd rfl (hdi _) | simp [h1, ht]
        · rw [if_neg ht] at hr; subst hr
          refine .pure hI (execOp_v (c := .tuple #[cz, .bool false]) ?_) (.tuple rfl (LR.cons vz (.single (.bool false))).arr.2)
          rw [hcx]; unfold Instr.typeAssert
          cases d <;> first | exact absurd rfl (hdi _) | simp [h1, ht, hcz]
      · simp only [purV, Option.some.injEq] at hr; subst hr
        refine .pure hI (execOp_v (c := .tuple #[cz, .bool false]) ?_) (.tuple rfl (LR.cons vz (.single (.bool false))).arr.2)
        rw [hcx]; unfold Instr.typeAssert
        cases d <;> first | exact absurd rfl (hdi _) | simp [h1, hcz]
    · rename_i y hy
      cases hc
      have hv := hE.opd hy
      simp only [evOp, ans, Option.map_eq_some_iff, List.map_cons, List.map_nil] at hr
      obtain ⟨u, hr, rfl⟩ := hr
      generalize hcx : a.eval x = cx at hv
      generalize evO e y = uy at hv hr
      cases hv <;> try (cases hr; done)
      rename_i tt v c hvc
      simp only [purV] at hr
      split at hr <;> cases hr
      rename_i ht
      refine .pure hI (execOp_v (c := c) ?_) hvc
      rw [hcx]; unfold Instr.typeAssert
      cases d <;> first | exact absurd rfl (hdi _) | simp [h1, ht]

omit hE hI in
theorem newFixed (hI : Inv K β H w) {w' : World} {x : Obj} (hh : w'.heap = w.heap.push x) (h1 : w'.os = w.os) (h2 : w'.tape = w.tape) (h3 : w'.output = w.output) :
    Inv (fixK K w.heap.size x) β H w' ∧ Ev K β H w (fixK K w.heap.size x) β H w' ∧ (fixK K w.heap.size x).fixed w.heap.size = some x := by
  have hK : K.le (fixK K w.heap.size x) := fixK_le hI.fresh
  refine ⟨⟨fun b o hb => ?_, fun b z hz => ?_, hI.dom, fun id o ho => ?_, hI.inj⟩, ⟨hK, fun _ _ h => h, Nat.le_refl _, fun y hy _ => by rw [hh, push_get hy], by rw [hh]; simp, h1, h2, h3, fun _ h => .inl h, fun y o hy => ?_, fun _ _ => rfl⟩, fixK_at hI.fresh⟩
  · by_cases e : b = w.heap.size
    · subst e; rw [fixK_at hI.fresh] at hb; cases hb; rw [hh, push_new]
    · rw [fixK_ne e] at hb
      have := hI.fixed b o hb; rw [hh, push_get (heap_lt this)]; exact this
  · obtain ⟨cs, e, fr, g1, g2⟩ := hI.size b z hz
    exact ⟨cs, e, fr, by rw [hh, push_get (heap_lt g1)]; exact g1, g2⟩
  · refine (hI.obj id o ho).mono hK (fun _ _ h => h) fun b hl hb hf => ?_
    obtain ⟨b', q1, q2, _⟩ := (hI.obj id o ho).lt hl
    rw [hb] at q1; cases q1
    refine ⟨?_, by rw [hh, push_get q2]⟩
    have : b ≠ w.heap.size := by omega
    rw [fixK_ne this]; exact hf
  · by_cases e : y = w.heap.size
    · exact .inr (.inr (by omega))
    · rw [fixK_ne e] at hy; exact .inl hy

omit hE hI in
theorem markFixed (hI : Inv K β H w) {w' : World} {id b : Nat} {l : List V} {cs : Array Value} {et : TypeId} {fr : Nat × Nat} (hi : H[id]? = some (.live l)) (hb : β id = some b) (hw : w.heap[b]? = some (.cells cs et (0, 0)))
    (hh : ∀ x, w'.heap[x]? = if x = b then some (.cells cs et fr) else w.heap[x]?) (hs : w'.heap.size = w.heap.size) (h1 : w'.os = w.os) (h2 : w'.tape = w.tape) (h3 : w'.output = w.output) :
    Inv (fixK K b (.cells cs et fr)) β (H.set id (.fixed l)) w' ∧ Ev K β H w (fixK K b (.cells cs et fr)) β (H.set id (.fixed l)) w' := by
  obtain ⟨b0, cs0, e0, g1, g2, g3, g4, g5⟩ := hI.obj id _ hi
  rw [hb] at g1; cases g1
  rw [hw] at g4; cases g4
  have hK : K.le (fixK K b (.cells cs et fr)) := fixK_le g2
  have hlv : liveAt H id := ⟨_, hi, rfl⟩
  have hfx : (fixK K b (.cells cs et fr)).fixed b = some (.cells cs et fr) := fixK_at g2
  have hlive : ∀ i, liveAt (H.set id (.fixed l)) i → liveAt H i ∧ i ≠ id := by
    rintro i ⟨y, ho, hy⟩
    by_cases e : id = i
    · subst e; rw [set_self hi] at ho; cases ho; cases hy
    · rw [set_get e] at ho; exact ⟨⟨y, ho, hy⟩, fun x => e x.symm⟩
  refine ⟨⟨?_, ?_, ?_, ?_, ?_⟩, ⟨hK, fun _ _ h => h, by simp, ?_, by omega, h1, h2, h3, ?_, ?_, fun _ _ => rfl⟩⟩
  · intro y z hz
    rw [hh]
    by_cases e : y = b
    · subst e; rw [hfx] at hz; rw [if_pos rfl]; exact hz
    · rw [if_neg e]; rw [fixK_ne e] at hz; exact hI.fixed y z hz
  · intro y z hz
    rw [hh]
    by_cases e : y = b
    · subst e; rw [show (fixK K y (.cells cs et fr)).size y = K.size y from rfl, g3] at hz; cases hz
      exact ⟨cs, et, fr, if_pos rfl, rfl⟩
    · rw [if_neg e]; exact hI.size y z hz
  · intro i y hy; have := hI.dom i y hy; simpa using this
  · intro i y hy
    by_cases e : id = i
    · subst e; rw [set_self hi] at hy; cases hy
      exact ⟨b, cs, et, fr, hb, hfx, g3, g5.mono hK fun _ _ h => h⟩
    · rw [set_get e] at hy
      refine (hI.obj i y hy).mono hK (fun _ _ h => h) fun z hl hz hn => ?_
      have hne : z ≠ b := by
        rintro rfl
        exact e (hI.inj id i z hlv ⟨y, hy, hl⟩ hb hz)
      exact ⟨by rw [fixK_ne hne]; exact hn, by rw [hh, if_neg hne]⟩
  · intro i j x hi' hj' hx hy
    exact hI.inj i j x (hlive i hi').1 (hlive j hj').1 hx hy
  · intro x hx hn
    rw [hh, if_neg]
    rintro rfl
    exact hn ⟨id, hlv, hb⟩
  · rintro x ⟨i, hi', hx⟩
    exact .inl ⟨i, (hlive i hi').1, hx⟩
  · intro x o hx
    by_cases e : x = b
    · subst e; exact .inr (.inl ⟨id, hlv, hb⟩)
    · rw [fixK_ne e] at hx; exact .inl hx
theorem ok_convB {s d : TypeId} {x : Operand} {y : Opd} (hy : cOpd x = some y) (hc : cConvB P s d y = some op) (hr : evOp (evO e) H op = some r) : OpOk P K β H w ((execOp a.eval ⟨dst, .convert s d x, ty, pos, after, guard⟩).run P w) r := by
  have hv := hE.opd hy
  unfold cConvB at hc
  split at hc
  · rename_i et h1 h2
    split at hc <;> cases hc
    rename_i h3
    simp only [evOp, ans, Option.map_eq_some_iff] at hr
    obtain ⟨u, hu, rfl⟩ := hr
    generalize hw : evO e y = vy at hv hu
    generalize hcx : a.eval x = cx at hv
    simp only [List.map_cons, List.map_nil, hw, purV] at hu
    cases hv <;> try (cases hu; done)
    rename_i t
    cases hu
    have hrun := Lib.run_convert_string_bytes (P := P) w s d et t h1 h2 h3
    have hheap : (Lib.bytesWorld w et t).heap = w.heap.push (.cells (Lib.bytesCells w et t) et ((Lib.bytesCells w et t).size, (Lib.bytesCells w et t).size + 1)) := by
      apply Array.ext_getElem?
      intro i
      rcases Nat.lt_trichotomy i w.heap.size with h | h | h
      · rw [Lib.bytesWorld_at_old w et t i h, push_get h]
      · subst h; rw [Lib.bytesWorld_at_new, push_new]
      · rw [Array.getElem?_eq_none (by rw [Lib.bytesWorld_size]; omega), Array.getElem?_eq_none (by simp; omega)]
    obtain ⟨i1, e1, f1⟩ := newFixed hI (w' := Lib.bytesWorld w et t) hheap rfl rfl rfl
    refine ⟨.slice (some ⟨w.heap.size, 0, none⟩) t.size (grownCap w t.size 0 et), Lib.bytesWorld w et t, _, β, ?_, ?_, i1, e1⟩
    · exact execOp_v (by rw [hcx]; exact hrun)
    · have hlen : (t.data.toList.map fun b => V.int .u8 b.toNat).length = t.size := by rw [List.length_map, Array.length_toList]; rfl
      have hflat : flat (t.data.toList.map fun b => V.int .u8 b.toNat) = t.data.toList.map fun b => V.int .u8 b.toNat := by
        simp only [flat, List.flatMap_map, cellsOf]; exact (List.map_eq_flatMap ..).symm
      have hg := grownCap_ge w t.size 0 et
      have := VR.list (K := fixK K w.heap.size (.cells (Lib.bytesCells w et t) et ((Lib.bytesCells w et t).size, (Lib.bytesCells w et t).size + 1))) (β := β) (l := t.data.toList.map fun b => V.int .u8 b.toNat) (c := false) (b := w.heap.size) (o := 0) (n := 1) (cap := grownCap w t.size 0 et) f1
        (by intro v hv; obtain ⟨b, _, rfl⟩ := List.mem_map.1 hv; rfl) (by simp) (by
          rw [hlen]
          show 0 + t.size * 1 ≤ ((t.data.map fun (b : UInt8) => Value.int .u8 b.toNat) ++ Array.replicate (grownCap w t.size 0 et - t.size) (Value.int .u8 0)).size
          rw [Array.size_append, Array.size_map]
          have : t.size = t.data.size := rfl
          omega) (by rw [hlen]; exact hg) (by simp) ?_
      · rw [hlen] at this; exact this
      · intro i v hv
        rw [hflat] at hv
        rw [List.getElem?_map] at hv
        obtain ⟨b, hb, rfl⟩ := Option.map_eq_some_iff.1 hv
        have hi : i < t.data.size := by have := (List.getElem?_eq_some_iff.1 hb).1; simpa using this
        have hb' : t.data[i]? = some b := by simpa using hb
        have : (Lib.bytesCells w et t).getD (0 + i) Go.undef = .int .u8 b.toNat := by
          show ((t.data.map fun (b : UInt8) => Value.int .u8 b.toNat) ++ Array.replicate (grownCap w t.size 0 et - t.size) (Value.int .u8 0)).getD (0 + i) Go.undef = _
          rw [Array.getD_eq_getD_getElem?, Nat.zero_add, Array.getElem?_append_left (by rw [Array.size_map]; exact hi), Array.getElem?_map, hb']
          rfl
        rw [this]; exact .int _ _
  · rename_i e1 et h1 h2
    split at hc
    case isFalse => cases hc
    rename_i hsd
    subst hsd
    have h12 : e1 = et := by rw [h1] at h2; cases h2; rfl
    subst h12
    split at hc <;> cases hc
    rename_i h3
    simp only [evOp] at hr
    generalize hw : evO e y = vy at hv hr
    generalize hcx : a.eval x = cx at hv
    simp only [List.map_cons, List.map_nil, hw] at hr
    cases hv <;> try (simp [memV] at hr; done)
    rename_i id b off len n cap z hβ hz hl hz' hn
    simp only [memV] at hr
    split at hr <;> cases hr
    rename_i l hob
    obtain ⟨b0, cs, eb, g1, g2, g3, g4, g5⟩ := hI.obj id _ hob
    rw [hβ] at g1; cases g1
    have hlt := heap_lt g4
    let w' := w.freeze ⟨b, cs.size, none⟩ 1
    have hsh : w.shape? b = some (eb, cs.size) := by simp [World.shape?, g4]
    have hrun : (convert s s (.slice (some ⟨b, off, none⟩) len cap)).run P w = .ok (.slice (some ⟨b, off, none⟩) len cap) w' := by
      simp [convert, run_underlying h1, run_underlying h3, markStringish, hsh, w']
    obtain ⟨i1, e1⟩ := markFixed hI (w' := w') (fr := (cs.size, cs.size + 1)) hob hβ g4 (fun x => by
      show (w.heap.modify b _)[x]? = _
      rw [Array.getElem?_modify]
      by_cases ex : x = b
      · subst ex; simp [g4]
      · simp [ex, Ne.symm ex]) (by simp [w', World.freeze]) rfl rfl rfl
    exact ⟨.slice (some ⟨b, off, none⟩) len cap, w', _, β, execOp_v (by rw [hcx]; exact hrun), .own hβ (e1.k.2.1 _ _ hz) hl hz' hn, i1, e1⟩
  · cases hc

omit hI hE in
theorem leafEq_ok {k : LfK} {x y : V} {cx cy : Value} {r : Bool} (hx : VR K β x cx) (hy : VR K β y cy) (h : leafEq k x y = some r) {t : TypeId} (ht : cLeaf P t = some k) (d : Nat) (w : World) : (Op.equalIn (d + 1) t cx cy).run P w = .ok r w := by
  unfold cLeaf at ht
  split at ht <;> cases ht
  · rename_i hu
    cases x <;> simp only [leafEq] at h <;> try (cases h; done)
    cases y <;> simp only [leafEq] at h <;> try (cases h; done)
    cases hx; cases hy; cases h
    exact run_equalIn_bool' w d t _ _ hu
  · rename_i k' hu
    cases x <;> simp only [leafEq] at h <;> try (cases h; done)
    cases y <;> simp only [leafEq] at h <;> try (cases h; done)
    split at h <;> cases h
    rename_i hk
    cases hx; cases hy
    subst hk
    exact run_equalIn_int w d t _ k' _ _ hu
  · rename_i hu
    cases x <;> simp only [leafEq] at h <;> try (cases h; done)
    cases y <;> simp only [leafEq] at h <;> try (cases h; done)
    cases hx; cases hy; cases h
    rw [run_equalIn_string w d t _ _ hu, ByteArray.toList_eq, ByteArray.toList_eq]

omit hI hE in
theorem part_leaf {k : LfK} {t : TypeId} (ht : cLeaf P t = some k) {l : List V} {cs : Array Value} (hl : ∀ i v, l[i]? = some v → VR K β v (cs.getD i Go.undef)) (hs : l.length = cs.size) {o : Nat} {v : V} (hv : l[o]? = some v) (w : World) :
    ∃ c, (part t cs o).run P w = .ok c w ∧ VR K β v c := by
  have ho : o < cs.size := by rw [← hs]; exact (List.getElem?_eq_some_iff.1 hv).1
  have hc : cs[o]? = some cs[o] := Array.getElem?_eq_getElem ho
  have hagg : tAgg P t = some false := by
    unfold cLeaf at ht
    unfold tAgg
    split at ht <;> cases ht <;> (rename_i hu; rw [hu])
  refine ⟨cs[o], ?_, by have := hl o v hv; simpa [Array.getD_eq_getD_getElem?, hc] using this⟩
  simp [part, isAgg_run hagg, hc]

omit hI hE in
theorem eqLeaves_ok {l m : List V} {cs ds : Array Value} (h1 : ∀ i v, l[i]? = some v → VR K β v (cs.getD i Go.undef)) (s1 : l.length = cs.size) (h2 : ∀ i v, m[i]? = some v → VR K β v (ds.getD i Go.undef)) (s2 : m.length = ds.size) (d : Nat) (w : World) :
    ∀ (fs : List Field) (q : List (Nat × LfK)) (r : Bool), cLeaves P fs = some q → eqLeaves l m q = some r → (Op.eqFields (d + 1) cs ds fs).run P w = .ok r w
  | [], q, r, hq, hr => by
    simp [cLeaves] at hq; subst hq
    simp [eqLeaves] at hr; subst hr
    simp [Op.eqFields]
  | f :: fs, q, r, hq, hr => by
    simp only [cLeaves] at hq
    split at hq
    · cases hq
    rename_i hn
    split at hq <;> cases hq
    rename_i k q hk hq
    simp only [eqLeaves] at hr
    split at hr
    case h_2 => cases hr
    rename_i a b ha hb
    obtain ⟨ca, ra, va⟩ := part_leaf hk h1 s1 ha w
    obtain ⟨cb, rb, vb⟩ := part_leaf hk h2 s2 hb w
    have step : ∀ x, leafEq k a b = some x → (Op.equalIn (d + 1) f.type ca cb).run P w = .ok x w := fun x hx => leafEq_ok va vb hx hk d w
    simp only [Op.eqFields, if_pos (show f.name ≠ "_" from hn), Sem.run_bind, ra, Result.andThen_ok, rb]
    cases hx : leafEq k a b with
    | none => rw [hx] at hr; cases hr
    | some x =>
      rw [step x hx]
      rw [hx] at hr
      cases x with
      | true => simpa using eqLeaves_ok h1 s1 h2 s2 d w fs q r hq hr
      | false => cases hr; simp

omit hI hE in
theorem eqItems_ok {et : TypeId} {k : LfK} (hk : cLeaf P et = some k) {l m : List V} {cs ds : Array Value} (h1 : ∀ i v, l[i]? = some v → VR K β v (cs.getD i Go.undef)) (s1 : l.length = cs.size) (h2 : ∀ i v, m[i]? = some v → VR K β v (ds.getD i Go.undef)) (s2 : m.length = ds.size) (d : Nat) (w : World) :
    ∀ (is : List Nat) (r : Bool), eqLeaves l m (is.map fun i => (i, k)) = some r → (Op.eqItems (d + 1) et 1 cs ds is).run P w = .ok r w
  | [], r, hr => by
    simp [eqLeaves] at hr; subst hr
    simp [Op.eqItems]
  | i :: is, r, hr => by
    simp only [List.map_cons, eqLeaves] at hr
    split at hr
    case h_2 => cases hr
    rename_i a b ha hb
    obtain ⟨ca, ra, va⟩ := part_leaf hk h1 s1 ha w
    obtain ⟨cb, rb, vb⟩ := part_leaf hk h2 s2 hb w
    have step : ∀ x, leafEq k a b = some x → (Op.equalIn (d + 1) et ca cb).run P w = .ok x w := fun x hx => leafEq_ok va vb hx hk d w
    simp only [Op.eqItems, Nat.mul_one, Sem.run_bind, ra, Result.andThen_ok, rb]
    cases hx : leafEq k a b with
    | none => rw [hx] at hr; cases hr
    | some x =>
      rw [step x hx]
      rw [hx] at hr
      cases x with
      | true => simpa using eqItems_ok hk h1 s1 h2 s2 d w is r hr
      | false => cases hr; simp
theorem ok_binX {bop : BinOp} {t yt : TypeId} {x y : Operand} (hc : cBinX P bop t x y = some op) (hr : evOp (evO e) H op = some r) : OpOk P K β H w ((execOp a.eval ⟨dst, .binOp bop t x y yt, ty, pos, after, guard⟩).run P w) r := by
  have key : ∀ b : Bool, (b = true ∧ bop = .eql ∨ b = false ∧ bop = .neq) → cBinY P b t x y = some op → OpOk P K β H w ((execOp a.eval ⟨dst, .binOp bop t x y yt, ty, pos, after, guard⟩).run P w) r := by
    intro b hb hc
    unfold cBinY at hc
    split at hc
    · rename_i et hu
      split at hc
      case h_2 => cases hc
      obtain ⟨x', hx, rfl⟩ := Option.map_eq_some_iff.1 hc
      have hv := hE.opd hx
      simp only [evOp, ans, Option.map_eq_some_iff] at hr
      obtain ⟨u, hu', rfl⟩ := hr
      generalize hw : evO e x' = vx at hv hu'
      generalize hcx : a.eval x = cx at hv
      simp only [List.map_cons, List.map_nil, hw] at hu'
      have hy : a.eval (.const (.slice none 0 0)) = .slice none 0 0 := rfl
      have run : ∀ (ad : Option Addr) (ln cap : Nat), cx = .slice ad ln cap → (do eqGuard bop t x (.const (.slice none 0 0)) cx (.slice none 0 0); binOp bop t cx (.slice none 0 0) : Sem Value).run P w = .ok (.bool (ad.isNone == b)) w := by
        intro ad ln cap hcx
        subst hcx
        have he := run_equalIn_slice_nil (P := P) w 9999 t et ad ln cap hu
        rcases hb with ⟨rfl, rfl⟩ | ⟨rfl, rfl⟩
        · rw [Sem.run_bind, eqGuard_ok (by simp) (by simp)]
          show (binOp .eql t (.slice ad ln cap) (.slice none 0 0)).run P w = _
          simp only [binOp, equal_eq, Sem.run_bind, he, Result.andThen_ok]
          cases ad <;> rfl
        · rw [Sem.run_bind, eqGuard_ok (by simp) (by simp)]
          show (binOp .neq t (.slice ad ln cap) (.slice none 0 0)).run P w = _
          simp only [binOp, equal_eq, Sem.run_bind, he, Result.andThen_ok]
          cases ad <;> rfl
      have fin : ∀ (ad : Option Addr) (ln cap : Nat), cx = .slice ad ln cap → VR K β u (.bool (ad.isNone == b)) → OpOk P K β H w ((execOp a.eval ⟨dst, .binOp bop t x (.const (.slice none 0 0)) yt, ty, pos, after, guard⟩).run P w) (.val u H) :=
        fun ad ln cap h1 h2 => .pure hI (execOp_v (by rw [hcx, hy]; exact run ad ln cap h1)) h2
      cases vx <;> simp only [purV] at hu' <;> try (cases hu'; done)
      · rename_i l cl
        cases l with
        | nil =>
          cases hu'
          cases hv with
          | lnil h => exact fin _ _ _ rfl (.anyb _)
          | list hb hu hn hl hc hcl h => exact fin _ _ _ rfl (.anyb _)
        | cons v l =>
          cases hu'
          cases hv with
          | list h1 h2 h3 h4 h5 h6 h7 => exact fin _ _ _ rfl (by cases b <;> exact .bool _)
      · cases hu'
        cases hv with
        | own h1 h2 h3 h4 h5 => exact fin _ _ _ rfl (by cases b <;> exact .bool _)
    · rename_i fs hu
      split at hc
      · cases hc
      rename_i hcond
      simp only [Bool.or_eq_true, not_or, Bool.not_eq_true] at hcond
      split at hc <;> cases hc
      rename_i q x' y' hq hx hy
      have hv := hE.opd hx
      have hv2 := hE.opd hy
      simp only [evOp, ans, Option.map_eq_some_iff] at hr
      obtain ⟨u, hu', rfl⟩ := hr
      generalize hw : evO e x' = vx at hv hu'
      generalize hw2 : evO e y' = vy at hv2 hu'
      generalize hcx : a.eval x = cx at hv
      generalize hcy : a.eval y = cy at hv2
      simp only [List.map_cons, List.map_nil, hw, hw2] at hu'
      cases hv <;> simp only [purV] at hu' <;> try (cases hu'; done)
      cases hv2 <;> simp only [purV] at hu' <;> try (cases hu'; done)
      rename_i l cs s1 h1 m ds s2 h2
      obtain ⟨rr, hrr, rfl⟩ := Option.map_eq_some_iff.1 hu'
      have hf : P.fieldsOf t = fs := by simp [Program.fieldsOf, hu]
      have he := run_equalIn_struct w 9999 t cs ds (by rw [hf]; exact hu) hcond.1
      rw [hf, eqLeaves_ok h1 s1 h2 s2 9998 w fs.toList q rr hq hrr] at he
      have hg : ∀ bo, (eqGuard bo t x y (.agg cs) (.agg ds)).run P w = .ok () w := fun bo => run_eqGuard_agg w bo t x y cs ds hcond.2
      refine .pure hI (execOp_v (c := .bool (rr == b)) ?_) (.bool _)
      rw [hcx, hcy, Sem.run_bind, hg]
      show (binOp bop t (.agg cs) (.agg ds)).run P w = _
      rcases hb with ⟨rfl, rfl⟩ | ⟨rfl, rfl⟩
      · rw [run_eql_struct, he]; cases rr <;> rfl
      · rw [run_neq_struct, he]; cases rr <;> rfl
    · rename_i ms hu
      split at hc
      case h_2 => cases hc
      obtain ⟨x', hx, rfl⟩ := Option.map_eq_some_iff.1 hc
      have hv := hE.opd hx
      simp only [evOp, ans, Option.map_eq_some_iff] at hr
      obtain ⟨u, hu', rfl⟩ := hr
      generalize hw : evO e x' = vx at hv hu'
      generalize hcx : a.eval x = cx at hv
      simp only [List.map_cons, List.map_nil, hw] at hu'
      have hy : a.eval (.const .nilIface) = .nilIface := rfl
      have hm : P.underlying t = some (.interface (P.methodsAt t)) := by rw [hu]; simp [Program.methodsAt, hu]
      have g : ∀ c : Value, (eqGuard bop t x (.const .nilIface) c .nilIface).run P w = .ok () w := fun c => by
        rcases hb with ⟨_, rfl⟩ | ⟨_, rfl⟩ <;> cases c <;> simp [eqGuard]
      cases vx <;> simp only [purV] at hu' <;> try (cases hu'; done)
      · rename_i t' v'
        cases hu'
        cases hv
        rename_i c' h
        refine .pure hI (execOp_v (c := .bool (!b)) ?_) (.bool _)
        rw [hcx, hy, Sem.run_bind, g]
        show (binOp bop t (.iface t' c') .nilIface).run P w = _
        rcases hb with ⟨rfl, rfl⟩ | ⟨rfl, rfl⟩
        · exact run_eql_held_nil w t t' c' hm
        · exact run_neq_held_nil w t t' c' hm
      · cases hu'
        cases hv
        refine .pure hI (execOp_v (c := .bool b) ?_) (.bool _)
        rw [hcx, hy, Sem.run_bind, g]
        show (binOp bop t .nilIface .nilIface).run P w = _
        rcases hb with ⟨rfl, rfl⟩ | ⟨rfl, rfl⟩
        · exact run_eql_nil_nil w t hm
        · exact run_neq_nil_nil w t hm
    · rename_i n et hu
      split at hc
      · cases hc
      rename_i hcond
      split at hc <;> cases hc
      rename_i k x' y' hk hsz hx hy
      obtain ⟨i, hi, hi1⟩ := Option.map_eq_some_iff.1 hsz
      have hv := hE.opd hx
      have hv2 := hE.opd hy
      simp only [evOp, ans, Option.map_eq_some_iff] at hr
      obtain ⟨u, hu', rfl⟩ := hr
      generalize hw : evO e x' = vx at hv hu'
      generalize hw2 : evO e y' = vy at hv2 hu'
      generalize hcx : a.eval x = cx at hv
      generalize hcy : a.eval y = cy at hv2
      simp only [List.map_cons, List.map_nil, hw, hw2] at hu'
      cases hv <;> simp only [purV] at hu' <;> try (cases hu'; done)
      cases hv2 <;> simp only [purV] at hu' <;> try (cases hu'; done)
      rename_i l cs s1 h1 m ds s2 h2
      obtain ⟨rr, hrr, rfl⟩ := Option.map_eq_some_iff.1 hu'
      have he := run_equalIn_array w 9999 cs ds hu hi
      have hc1 : P.cellsOf et = 1 := by simp [Program.cellsOf, hi, hi1]
      rw [hc1, eqItems_ok hk h1 s1 h2 s2 9998 w (List.range n) rr hrr] at he
      have hg : ∀ bo, (eqGuard bo t x y (.agg cs) (.agg ds)).run P w = .ok () w := fun bo => run_eqGuard_agg w bo t x y cs ds (by simpa using hcond)
      refine .pure hI (execOp_v (c := .bool (rr == b)) ?_) (.bool _)
      rw [hcx, hcy, Sem.run_bind, hg]
      show (binOp bop t (.agg cs) (.agg ds)).run P w = _
      rcases hb with ⟨rfl, rfl⟩ | ⟨rfl, rfl⟩
      · rw [run_eql_struct, he]; cases rr <;> rfl
      · rw [run_neq_struct, he]; cases rr <;> rfl
    · cases hc
  unfold cBinX at hc
  split at hc
  · exact key true (.inl ⟨rfl, rfl⟩) hc
  · exact key false (.inr ⟨rfl, rfl⟩) hc
  · cases hc
end
end Fz
namespace Fz
open Go
theorem none_some {α : Type} {x : α} {p : Prop} (h : (none : Option α) = some x) : p := by cases h
section
variable {P : Program} {K : Kn} {β : Bi} {H : List Ob} {w : World} {nt : Nat} {e : Env} {a : Act} (hI : Inv K β H w) (hE : ER K β nt e a)
variable {dst : Option Tmp} {ty : TypeId} {pos : String} {after : Array Edge} {guard : Option (Nat × Bool)} {op : AOp} {r : OR}
include hI hE

omit hI hE in
theorem zero_cells (K0 : Kn) {t : TypeId} {i : TypeInfo} {z : List V} (hi : P.info? t = some i) (hz : tZero P t = some z) : (i.zero.map fun z => z.cells.size) = some z.length := by
  unfold tZero at hz
  simp only [hi, Option.bind_some, Option.bind_eq_some_iff] at hz
  obtain ⟨c, hc, hz⟩ := hz
  obtain ⟨v, hv, rfl⟩ := Option.map_eq_some_iff.1 hz
  have := cells_LR (ofVal_VR K0 (fun _ => none) 4 c v hv) (ofVal_any hv)
  rw [hc, Option.map_some, this.1]; simp
theorem ok_append {xs : Array Operand} {ats : Array TypeId} (hc : cOp P ⟨dst, .call ⟨.builtin .append, xs, ats⟩, ty, pos, after, guard⟩ = some op) (hr : evOp (evO e) H op = some r) : OpOk P K β H w ((execOp a.eval ⟨dst, .call ⟨.builtin .append, xs, ats⟩, ty, pos, after, guard⟩).run P w) r := by
  simp only [cOp] at hc
  split at hc
  · rename_i s x t u hx ht
    have hxs : xs = #[s, x] := Array.ext' (by simpa using hx)
    have hts : ats = #[t, u] := Array.ext' (by simpa using ht)
    subst hxs; subst hts
    have run : ∀ {c : Value} {w' : World}, (Builtin.append_ #[t, u] ty #[a.eval s, a.eval x]).run P w = .ok c w' → (execOp a.eval ⟨dst, .call ⟨.builtin .append, #[s, x], #[t, u]⟩, ty, pos, after, guard⟩).run P w = .ok (.value c) w' := by
      intro c w' hc
      simp [execOp, resolve, invoke, builtin, hc]
    split at hc
    · rename_i et s' x' hu hs' hx'
      have hvs := hE.opd hs'
      have hvx := hE.opd hx'
      split at hc
      · rename_i i kk hi hku
        simp only [Option.bind_eq_some_iff] at hc
        obtain ⟨z, hz, hc⟩ := hc
        split at hc <;> cases hc
        rename_i hcond
        simp only [not_or, ne_eq, Decidable.not_not] at hcond
        simp only [evOp] at hr
        split at hr
        · rename_i k l heq
          split at hr
          · rename_i hb
            obtain ⟨b1, b2, b3, b4⟩ := hb
            split at hr <;> cases hr
            rename_i v H' hap
            rw [heq] at hvx
            generalize hcx : a.eval x = cx at hvx run
            cases hvx
            obtain ⟨zc, hz1, hz2⟩ := zero_run hz K β
            have hzs : zc.cells.size = i.size := by rw [← hcond.2]; simpa using hz2.1.symm
            have hwr : IntKind.i64.wrap l = l := by
              unfold IntKind.wrap; simp [IntKind.signed, IntKind.bits]; omega
            have ha : AppArg P K β w i.size i.bytes u et (.int k l) (zeros z l.toNat) l.toNat := by
              refine ⟨by rw [zeros_len, hcond.2], _, hku, .inr ⟨⟨kk, rfl⟩, ⟨k, l, rfl, b1, rfl, hwr, b3⟩, zc, hz1, hzs, ?_⟩⟩
              exact zeros_LR hz2 (by rw [hcond.2]; exact hcond.1) l.toNat
            obtain ⟨c, w', K', β', q1, q2, q3, q4⟩ := appendV_sound (ty := ty) hI hu hi rfl rfl (by rw [zero_cells K hi hz, hcond.2]) hcond.1 hvs ha hap
            exact ⟨c, w', K', β', run q1, q2, q3, q4⟩
          · cases hr
        · cases hr
      · rename_i i d hnint hi hku
        simp only [Option.bind_eq_some_iff] at hc
        obtain ⟨z, hz, hc⟩ := hc
        split at hc <;> cases hc
        rename_i hcond
        simp only [not_or, ne_eq, Decidable.not_not] at hcond
        simp only [evOp] at hr
        split at hr
        · rename_i ys k hel
          split at hr <;> cases hr
          rename_i v H' hap
          have he := elems_sound (P := P) hI hvx hel
          obtain ⟨ds, hd1, hd2⟩ := he.first k (Nat.le_refl _)
          rw [← he.size, List.take_length] at hd2
          have ha : AppArg P K β w i.size i.bytes u et (a.eval x) ys k :=
            ⟨he.size, _, hku, .inl ⟨fun kk hkk => by subst hkk; first | exact hnint _ _ hi hku | exact hnint _ _ rfl rfl | exact hnint kk rfl | exact hnint _ _ rfl hku | trace_state, he.len, ds, fun w' hw' => hd1 w' hw'.1, hd2⟩⟩
          obtain ⟨c, w', K', β', q1, q2, q3, q4⟩ := appendV_sound (ty := ty) hI hu hi rfl rfl (by rw [zero_cells K hi hz, hcond.2]) hcond.1 hvs ha hap
          exact ⟨c, w', K', β', run q1, q2, q3, q4⟩
        · cases hr
      · cases hc
    · cases hc
  · cases hc

omit hI in
theorem build_run {t : TypeId} {len : Nat} {ps : Array (Nat × Operand)} (hc : cOp P ⟨dst, .buildSlice t len ps, ty, pos, after, guard⟩ = some op) : ∃ s z qs et, op = .buildSlice s len z qs ∧ s ≠ 0 ∧
    ∀ cells, fillV (zeros z len) (qs.map fun p => (p.1, p.2.1, evO e p.2.2)) = some cells → ∃ cs : Array Value, LR K β cells cs.toList ∧ cells.length = len * s ∧ cs.size = len * s ∧
      (Instr.buildSlice t len (ps.map fun (i, x) => (i, a.eval x))).run P w = .ok (.slice (some ⟨w.heap.size, 0, none⟩) len len) (w.alloc (.cells cs et)) := by
  simp only [cOp] at hc
  split at hc
  · rename_i et hu
    split at hc
    · rename_i s z hs hz
      split at hc
      · rename_i hcond
        obtain ⟨g1, g2, g3⟩ := hcond
        obtain ⟨qs, hq, rfl⟩ := Option.map_eq_some_iff.1 hc
        have h1 := run_underlying hu w
        have h2 := sizeOf_run hs w
        obtain ⟨zc, hz1, hz2⟩ := zero_run hz K β
        have hzs : zc.cells.size = s := by rw [← g2]; simpa using hz2.1.symm
        refine ⟨s, z, qs, et, rfl, g3, fun cells hfl => ?_⟩
        · obtain ⟨p1, p2⟩ := parts_R (P := P) hE hq
          have hz3 := zeros_LR hz2 (by rw [g2]; exact g3) len
          rw [hzs] at hz3
          obtain ⟨cs, hf, hlr⟩ := fill_sound (K := K) (β := β) (place := fun i => some (i * s, s)) _ _ ((Array.range (len * s)).map fun i => zc.cells[i % s]!) (zeros z len) cells p1 p2 hz3 hfl
          have hcl : cells.length = len * s := by
            have key : ∀ (qs : List (Nat × Nat × V)) (z l : List V), fillV z qs = some l → l.length = z.length := by
              intro qs
              induction qs with
              | nil => intro z l h; simp [fillV] at h; rw [h]
              | cons q qs ih =>
                obtain ⟨off, n, v⟩ := q
                intro z l h
                simp only [fillV] at h
                split at h
                · rename_i hcc
                  rw [ih _ _ h]
                  simp [splice]; omega
                · cases h
            rw [key _ _ _ hfl, zeros_len, g2]
          have hcs : cs.size = len * s := by rw [← hcl]; simpa using hlr.1.symm
          have hrun : (Instr.buildSlice t len (ps.map fun (i, x) => (i, a.eval x))).run P w = .ok (.slice (some ⟨w.heap.size, 0, none⟩) len len) (w.alloc (.cells cs et)) := by
            have hf' : Instr.fill (fun i => some (i * s, s)) ((Array.range (len * s)).map fun i => zc.cells[i % s]!) (ps.map fun (i, x) => (i, a.eval x)).toList = some cs := by simpa using hf
            have g1' : ¬ len * s > 16777216 := by omega
            by_cases hl0 : len * s = 0
            · have e0 : ((Array.range (len * s)).map fun i => (#[] : Array Value)[i % (#[] : Array Value).size]!) = ((Array.range (len * s)).map fun i => zc.cells[i % s]!) := by
                rw [hl0]; apply Array.ext'; simp
              simp only [Instr.buildSlice, Sem.run_bind, h1, Result.andThen_ok, h2]
              rw [if_neg (by omega), if_pos hl0]
              simp only [Sem.run_bind, Sem.run_pure, Result.andThen_ok]
              simp only [e0, hf']
              rfl
            · simp only [Instr.buildSlice, Sem.run_bind, h1, Result.andThen_ok, h2]
              rw [if_neg (by omega), if_neg hl0]
              simp only [Sem.run_bind, hz1, Sem.run_pure, Result.andThen_ok, hzs]
              simp only [hf']
              rfl
          exact ⟨cs, hlr, hcl, hcs, hrun⟩
      · cases hc
    · cases hc
  · cases hc
theorem ok_buildSlice {t : TypeId} {len : Nat} {ps : Array (Nat × Operand)} (hc : cOp P ⟨dst, .buildSlice t len ps, ty, pos, after, guard⟩ = some op) (hr : evOp (evO e) H op = some r) : OpOk P K β H w ((execOp a.eval ⟨dst, .buildSlice t len ps, ty, pos, after, guard⟩).run P w) r := by
  obtain ⟨s, z, qs, et, rfl, g3, hb⟩ := build_run (K := K) (β := β) (w := w) hE hc
  simp only [evOp] at hr
  split at hr
  case h_2 => cases hr
  rename_i cells hfl
  obtain ⟨cs, hlr, hcl, hcs, hrun⟩ := hb cells hfl
  split at hr
  · rename_i hl0
    cases hr
    subst hl0
    obtain ⟨i1, e1⟩ : Inv K β H (w.alloc (.cells cs et)) ∧ Ev K β H w K β H (w.alloc (.cells cs et)) := by
      have hget : ∀ b, b < w.heap.size → (w.alloc (.cells cs et)).heap[b]? = w.heap[b]? := fun b hb => push_get hb
      refine ⟨⟨fun b o hf => ?_, fun b z hz => ?_, hI.dom, fun id o ho => ?_, hI.inj⟩, ⟨K.le_refl, fun _ _ h => h, Nat.le_refl _, fun x hx _ => push_get hx, by simp, rfl, rfl, rfl, fun _ h => .inl h, fun _ _ h => .inl h, fun _ _ => rfl⟩⟩
      · have := hI.fixed b o hf; rw [hget b (heap_lt this)]; exact this
      · obtain ⟨cs, e', fr, q1, q2⟩ := hI.size b z hz
        exact ⟨cs, e', fr, by rw [hget b (heap_lt q1)]; exact q1, q2⟩
      · refine (hI.obj id o ho).mono K.le_refl (fun _ _ h => h) fun b hl hb hf => ⟨hf, hget b ?_⟩
        obtain ⟨b', q1, q2, _⟩ := (hI.obj id o ho).lt hl
        rw [hb] at q1; cases q1; exact q2
    exact ⟨_, w.alloc (.cells cs et), K, β, execOp_v hrun, .lnil fun _ => rfl, i1, e1⟩
  · cases hr
    refine newSlice_ok (w' := w.alloc (.cells cs et)) (cap := len) (t := et) hI (cs := cs) ?_ (execOp_v hrun) rfl rfl rfl rfl (Nat.le_refl _) (by omega) g3
    have := hlr.csR; rwa [Array.toArray_toList] at this
theorem ok_lst {t : TypeId} {l : Nat} {ps : Array (Nat × Operand)} {n len : Nat} {z : List V} {qs : List (Nat × Nat × Opd)} (hc : cOp P ⟨dst, .buildSlice t l ps, ty, pos, after, guard⟩ = some (.buildSlice n len z qs))
    (hr : evOp (evO e) H (.pur (.lst n len z (qs.map fun p => (p.1, p.2.1))) (qs.map fun p => p.2.2)) = some r) : OpOk P K β H w ((execOp a.eval ⟨dst, .buildSlice t l ps, ty, pos, after, guard⟩).run P w) r := by
  obtain ⟨s, z', qs', et, heq, g3, hb⟩ := build_run (K := K) (β := β) (w := w) hE hc
  cases heq
  simp only [evOp, ans, purV] at hr
  obtain ⟨u, hu, rfl⟩ := Option.map_eq_some_iff.1 hr
  have hz : (((qs.map fun p => (p.1, p.2.1)).zip ((qs.map fun p => p.2.2).map (evO e))).map fun p => (p.1.1, p.1.2, p.2)) = qs.map fun p => (p.1, p.2.1, evO e p.2.2) := by
    clear hu hc hb hr
    induction qs with
    | nil => rfl
    | cons q qs ih => simp only [List.map_cons, List.zip_cons_cons]; rw [ih]
  rw [hz] at hu
  split at hu
  case isFalse => cases hu
  split at hu
  case h_2 => cases hu
  rename_i cells hfl
  obtain ⟨cs, hlr, hcl, hcs, hrun⟩ := hb cells hfl
  obtain ⟨i1, e1, f1⟩ := newFixed hI (w' := w.alloc (.cells cs et)) (x := .cells cs et) rfl rfl rfl rfl
  split at hu
  · rename_i hl0
    cases hu
    subst hl0
    exact ⟨_, _, _, β, execOp_v hrun, .lnil fun _ => rfl, i1, e1⟩
  · split at hu <;> cases hu
    rename_i hl0 hleaf
    obtain ⟨c1, c2, c3⟩ := chunk_flat hcl hleaf
    refine ⟨_, _, _, β, execOp_v hrun, ?_, i1, e1⟩
    have := VR.list (K := fixK K w.heap.size (.cells cs et)) (β := β) (l := chunk n l cells) (c := true) (b := w.heap.size) (o := 0) (n := n) (cap := l) f1 c3 g3 (by rw [c2, hcs]; omega) (by rw [c2]; exact Nat.le_refl _) (by rw [c2]; simp) ?_
    · rw [c2] at this; exact this
    · intro i v hv
      rw [c1] at hv
      obtain ⟨c, hc', hvc⟩ := hlr.get hv
      have : cs.getD (0 + i) Go.undef = c := by
        rw [Nat.zero_add, Array.getD_eq_getD_getElem?]
        have : cs[i]? = some c := by simpa using hc'
        rw [this]; rfl
      rw [this]
      exact hvc.mono e1.k (fun _ _ h => h)
theorem ok_copy {xs : Array Operand} {ats : Array TypeId} (hc : cOp P ⟨dst, .call ⟨.builtin .copy, xs, ats⟩, ty, pos, after, guard⟩ = some op) (hr : evOp (evO e) H op = some r) : OpOk P K β H w ((execOp a.eval ⟨dst, .call ⟨.builtin .copy, xs, ats⟩, ty, pos, after, guard⟩).run P w) r := by
  simp only [cOp] at hc
  split at hc
  · rename_i d s t u hx ht
    have hxs : xs = #[d, s] := Array.ext' (by simpa using hx)
    have hts : ats = #[t, u] := Array.ext' (by simpa using ht)
    subst hxs; subst hts
    have run : ∀ {c : Value} {w' : World}, (Builtin.copy_ #[t, u] ty #[a.eval d, a.eval s]).run P w = .ok c w' → (execOp a.eval ⟨dst, .call ⟨.builtin .copy, #[d, s], #[t, u]⟩, ty, pos, after, guard⟩).run P w = .ok (.value c) w' := by
      intro c w' hc
      simp [execOp, resolve, invoke, builtin, hc]
    split at hc
    · rename_i et d' s' hu hd' hs'
      simp only [Option.bind_eq_some_iff] at hc
      obtain ⟨n, hn, hc⟩ := hc
      split at hc <;> cases hc
      rename_i hn0
      have hvd := hE.opd hd'
      have hvs := hE.opd hs'
      have h1 := run_underlying hu w
      have h2 := sizeOf_run hn w
      simp only [evOp] at hr
      split at hr
      · rename_i c' p heq hel
        cases hr
        have he := elems_sound (P := P) hI hvs (xs := p.1) (k := p.2) hel
        rw [heq] at hvd
        obtain ⟨aa, cap, hcd, _, _⟩ := vr_slice hvd
        obtain ⟨ds, hd1, hd2⟩ := he.first 0 (Nat.zero_le _)
        have hnil : ds = [] := List.eq_nil_of_length_eq_zero (by rw [← hd2.1]; simp)
        subst hnil
        have hd1 := hd1 w rfl
        refine .pure (c := goInt 0) hI (run ?_) (.int _ _)
        have hm : Nat.min p.2 0 = 0 := Nat.min_zero _
        rw [hcd]
        cases aa <;> simp [Builtin.copy_, h1, h2, he.len, hm, hd1, storeCells]
      · rename_i id off len m ys k heq hel
        split at hr
        · rename_i l ho
          split at hr <;> cases hr
          rename_i hcond
          obtain ⟨rfl, g2, g3⟩ := hcond
          have he := elems_sound (P := P) hI hvs hel
          rw [heq] at hvd
          generalize hcd : a.eval d = cd at hvd
          cases hvd with
          | own hβ hz hl hz' hnn =>
            obtain ⟨ds, hd1, hd2⟩ := he.first (Nat.min k len) (Nat.min_le_left _ _)
            have hd1 := hd1 w rfl
            have hxl : (ys.take (Nat.min k len * m)).length = Nat.min k len * m := by
              rw [List.length_take, he.size]
              exact Nat.min_eq_left (Nat.mul_le_mul_right m (Nat.min_le_left _ _))
            have hml : Nat.min k len * m ≤ len * m := Nat.mul_le_mul_right m (Nat.min_le_right _ _)
            have hfit : off + (ys.take (Nat.min k len * m)).length ≤ l.length := by
              rw [hxl]
              exact Nat.le_trans (Nat.add_le_add_left hml off) g2
            obtain ⟨w', q1, q2, q3⟩ := write_ok (P := P) hI ho hβ hd2 hfit g3
            refine ⟨goInt (Nat.min k len : Nat), w', K, β, run ?_, .int _ _, q2, q3⟩
            simp [Builtin.copy_, h1, h2, he.len, hcd, hd1, q1]
        · cases hr
      · cases hr
    · cases hc
  · cases hc
theorem ok_clear {xs : Array Operand} {ats : Array TypeId} (hc : cOp P ⟨dst, .call ⟨.builtin .clear, xs, ats⟩, ty, pos, after, guard⟩ = some op) (hr : evOp (evO e) H op = some r) : OpOk P K β H w ((execOp a.eval ⟨dst, .call ⟨.builtin .clear, xs, ats⟩, ty, pos, after, guard⟩).run P w) r := by
  simp only [cOp] at hc
  split at hc
  · rename_i d t hx ht
    have hxs : xs = #[d] := Array.ext' (by simpa using hx)
    have hts : ats = #[t] := Array.ext' (by simpa using ht)
    subst hxs; subst hts
    have run : ∀ {c : Value} {w' : World}, (Builtin.clear_ #[t] ty #[a.eval d]).run P w = .ok c w' → (execOp a.eval ⟨dst, .call ⟨.builtin .clear, #[d], #[t]⟩, ty, pos, after, guard⟩).run P w = .ok (.value c) w' := by
      intro c w' hc
      simp [execOp, resolve, invoke, builtin, hc]
    split at hc
    · rename_i et d' hu hd'
      split at hc
      · rename_i n z hn hz
        split at hc <;> cases hc
        rename_i hcond
        simp only [not_or, ne_eq, Decidable.not_not] at hcond
        have hvd := hE.opd hd'
        have h1 := run_underlying hu w
        have huv : VR K β uv (.tuple #[]) := .tuple rfl fun i v h => by simp at h
        simp only [evOp] at hr
        split at hr
        · rename_i c' heq
          cases hr
          rw [heq] at hvd
          obtain ⟨aa, cap, hcd, _, _⟩ := vr_slice hvd
          refine .pure (c := .tuple #[]) hI (run ?_) huv
          rw [hcd]
          cases aa <;> simp [Builtin.clear_, h1]
        · rename_i id off len m heq
          split at hr
          · rename_i l ho
            split at hr <;> cases hr
            rename_i hc2
            obtain ⟨rfl, g2, g3, g4⟩ := hc2
            rw [heq] at hvd
            generalize hcd : a.eval d = cd at hvd
            cases hvd with
            | own hβ hz' hl hz2 hnn =>
              obtain ⟨zc, hz1, hz2⟩ := zero_run hz K β
              have hzl := zeros_LR hz2 (by rw [g2]; exact hnn) len
              have hst : (zeros z len).all storable = true := by
                have : ∀ k, (zeros z k).all storable = true := by
                  intro k
                  induction k with
                  | zero => rfl
                  | succ k ih => simp only [zeros, List.all_append, g4, ih]; rfl
                exact this len
              obtain ⟨w', q1, q2, q3⟩ := write_ok (P := P) hI ho hβ hzl (by rw [zeros_len, g2]; exact g3) hst
              refine ⟨.tuple #[], w', K, β, run ?_, .tuple rfl fun i v h => by simp at h, q2, q3⟩
              by_cases hl0 : len = 0
              · subst hl0
                have hw : w' = w := by
                  simp only [Nat.zero_mul] at q1
                  have e0 : ((Array.range 0).map fun i => zc.cells[i % zc.cells.size]!).toList = [] := by simp
                  rw [e0] at q1
                  simp only [storeCells, Sem.run_pure] at q1
                  injection q1 with _ h; exact h.symm
                subst hw
                simp [Builtin.clear_, h1, hcd]
              · have e1 : (Builtin.zeroCells zc.cells len).toList = ((Array.range (len * zc.cells.size)).map fun i => zc.cells[i % zc.cells.size]!).toList := rfl
                rw [← e1] at q1
                obtain ⟨len, rfl⟩ : ∃ q, len = q + 1 := ⟨len - 1, by omega⟩
                simp [Builtin.clear_, h1, hcd, hz1, q1]
          · cases hr
        · cases hr
      · cases hc
    · cases hc
  · cases hc
theorem evOp_sound {o : Oper} (hc : cOp P o = some op) (hr : evOp (evO e) H op = some r) : OpOk P K β H w ((execOp a.eval o).run P w) r := by
  obtain ⟨dst, op', ty, pos, after, guard⟩ := o
  cases op' with
  | move x => exact ok_mov hI hE rfl (by simpa only [cOp] using hc) hr
  | assign x => exact ok_mov hI hE rfl (by simpa only [cOp] using hc) hr
  | pick c x y => exact ok_pick hI hE hc hr
  | alloc t => exact ok_alloc hI hc hr
  | box t x => exact ok_box hI hE hc hr
  | build t ps => exact ok_build hI hE hc hr
  | load t x => exact ok_load hI hE hc hr
  | store t x y => exact ok_store hI hE hc hr
  | nilCheck x => exact ok_nilCheck hI hE hc hr
  | binOp b t x y yt => exact ok_bin hI hE hc hr fun hx => ok_binX hI hE hx hr
  | unOp u t x => exact ok_un hI hE hc hr
  | convert s d x => exact ok_conv hI hE hc hr fun y hy hc => ok_convB hI hE hy hc hr
  | makeInterface t x => exact ok_makeIface hI hE hc hr
  | makeFunc f x y => exact ok_makeFunc hI hE hc hr
  | makeSlice t l c => exact ok_makeSlice hI hE hc hr
  | slice t x lo hi mx => exact ok_slice hI hE hc hr
  | fieldAddr t x f => exact ok_fieldAddr hI hE hc hr
  | field t x f => exact ok_field hI hE hc hr
  | indexAddr t x i => exact ok_indexAddr hI hE hc hr
  | index t x i => exact ok_index hI hE hc hr
  | extract x i => exact ok_extract hI hE hc hr
  | panic x => exact ok_panic hI hE hc hr
  | buildSlice t len ps => exact ok_buildSlice hI hE hc hr
  | makeMap t o => exact ok_makeMap hI hE hc hr
  | insert t m k x => exact mapPut_ok hI hE (by simpa only [cOp] using hc) hr
  | mapUpdate t m k x => exact mapPut_ok hI hE (by simpa only [cOp] using hc) hr
  | lookup t m k ok => exact ok_lookup hI hE hc hr
  | range t x => exact ok_range hI hE hc hr
  | next it b => cases b with
    | true => exact ok_next hI hE hc hr
    | false => exact none_some (show (none : Option AOp) = some op from hc)
  | typeAssert x xt t ok => exact ok_typeAssert hI hE hc hr
  | call c =>
    obtain ⟨callee, args, ats⟩ := c
    cases callee with
    | value g =>
      cases g with
      | func f => exact ok_callF hE hc hr
      | tmp t =>
        simp only [cOp] at hc
        split at hc <;> cases hc
        exact ok_callV hE ‹_› ‹_› hr
      | const v =>
        simp only [cOp] at hc
        split at hc <;> cases hc
        exact ok_callV hE ‹_› ‹_› hr
      | global g =>
        simp only [cOp] at hc
        split at hc <;> cases hc
        exact ok_callV hE ‹_› ‹_› hr
    | invoke r m => exact none_some (show (none : Option AOp) = some op from hc)
    | builtin b =>
      cases b with
      | len => exact ok_len hI hE hc hr
      | cap => exact ok_cap hI hE hc hr
      | append => exact ok_append hI hE hc hr
      | copy => exact ok_copy hI hE hc hr
      | clear => exact ok_clear hI hE hc hr
      | max => exact ok_max hI hE hc hr
      | min => exact ok_min hI hE hc hr
      | panic => exact ok_panicB hI hE hc hr
      | _ => exact none_some (show (none : Option AOp) = some op from hc)
  | _ => exact none_some (show (none : Option AOp) = some op from hc)
def OpRel (P : Program) (o : Oper) (op : AOp) : Prop := cOp P o = some op ∨ ∃ t l ps n len z qs, o.op = .buildSlice t l ps ∧ cOp P o = some (.buildSlice n len z qs) ∧ op = .pur (.lst n len z (qs.map fun p => (p.1, p.2.1))) (qs.map fun p => p.2.2)
theorem evOp_soundL {o : Oper} (hc : OpRel P o op) (hr : evOp (evO e) H op = some r) : OpOk P K β H w ((execOp a.eval o).run P w) r := by
  rcases hc with hc | ⟨t, l, ps, n, len, z, qs, ho, hc, rfl⟩
  · exact evOp_sound hI hE hc hr
  · obtain ⟨dst, op', ty, pos, after, guard⟩ := o
    simp only at ho
    subst ho
    exact ok_lst hI hE hc hr
end
end Fz
namespace Fz
open Go
theorem mapS_sound {f : V → List Ob → Option (V × List Ob)} {β : Bi} {w : World}
    (hf : ∀ v H v' H', f v H = some (v', H') → ∀ K c, Inv K β H w → VR K β v c → ∃ K', Inv K' β H' w ∧ Ev K β H w K' β H' w ∧ VR K' β v' c) :
    ∀ (l : List V) (H : List Ob) (l' : List V) (H' : List Ob), mapS f l H = some (l', H') → ∀ K cs, Inv K β H w → LR K β l cs → ∃ K', Inv K' β H' w ∧ Ev K β H w K' β H' w ∧ LR K' β l' cs := by
  intro l
  induction l with
  | nil =>
    intro H l' H' h K cs hI hl
    simp [mapS] at h
    obtain ⟨rfl, rfl⟩ := h
    exact ⟨K, hI, .refl K β H w, hl⟩
  | cons v l ih =>
    intro H l' H' h K cs hI hl
    simp only [mapS] at h
    split at h
    · cases h
    · rename_i v1 H1 hv1
      split at h
      · cases h
      · rename_i l2 H2 hl2
        cases h
        obtain ⟨c, r, rfl, g1, g2⟩ := hl.head
        obtain ⟨K1, i1, e1, r1⟩ := hf v H v1 H1 hv1 K c hI g1
        obtain ⟨K2, i2, e2, r2⟩ := ih _ _ _ hl2 K1 r i1 (g2.mono e1.k fun _ _ h => h)
        exact ⟨K2, i2, e1.trans e2, .cons (r1.mono e2.k fun _ _ h => h) r2⟩
theorem list_of {K : Kn} {β : Bi} {b off len n cap : Nat} {cs : Array Value} {e : TypeId} {fr : Nat × Nat} {x : List V} (hb : K.fixed b = some (.cells cs e fr)) (hle : off + len * n ≤ cs.size) (hn : n ≠ 0) (hc : len ≤ cap)
    (hx : LR K β x ((cs.toList.drop off).take (len * n))) (h : n ≠ 1 ∨ x.all leafy = true) : VR K β (.list (chunk n len x) false) (.slice (some ⟨b, off, none⟩) len cap) := by
  have hxl : x.length = len * n := by rw [hx.1]; simp; omega
  obtain ⟨h1, h2, h3⟩ := chunk_flat hxl h
  have := VR.list (K := K) (β := β) (l := chunk n len x) (c := false) (b := b) (o := off) (n := n) (cap := cap) hb h3 hn (by rw [h2]; exact hle) (by rw [h2]; exact hc) (by simp) ?_
  · rw [h2] at this; exact this
  · intro i v hv
    rw [h1] at hv
    obtain ⟨c, hc', hvc⟩ := hx.get hv
    have hi : i < len * n := by rw [← hxl]; exact (List.getElem?_eq_some_iff.1 hv).1
    simp [List.getElem?_take, hi] at hc'
    simpa [Array.getD_eq_getD_getElem?, hc'] using hvc
theorem freezeV_sound {β : Bi} {w : World} : ∀ (k : Nat) (v : V) (H : List Ob) (v' : V) (H' : List Ob), freezeV k v H = some (v', H') → ∀ K c, Inv K β H w → VR K β v c →
    ∃ K', Inv K' β H' w ∧ Ev K β H w K' β H' w ∧ VR K' β v' c := by
  intro k
  induction k with
  | zero => intro v H v' H' h; simp [freezeV] at h
  | succ k ih =>
    intro v H v' H' h K c hI hv
    have hm := mapS_sound (f := freezeV k) (β := β) (w := w) ih
    unfold freezeV at h
    split at h
    · rename_i id off len n
      cases hv with
      | own hβ hz hl hz' hnn =>
        rename_i b cap z
        split at h
        · rename_i l ho
          split at h
          · rename_i hcond
            split at h
            · rename_i x H1 hx
              split at h <;> cases h
              rename_i hleaf
              obtain ⟨b', cs, e, g1, g2, g3, g4, g5⟩ := hI.obj id _ ho
              rw [hβ] at g1; cases g1
              have hK1 : K.le (fixK K b (.cells cs e (0, 0))) := fixK_le g2
              have hfx : (fixK K b (.cells cs e (0, 0))).fixed b = some (.cells cs e (0, 0)) := fixK_at g2
              obtain ⟨f1, f2, f3⟩ := hI.fix (o' := .fixed l) ho rfl hβ g4 g2 rfl ⟨b, cs, e, (0, 0), hβ, hfx, g3, g5.mono hK1 fun _ _ h => h⟩
              have hlr := seen_of (w := w) (b := b) (o := off) (n := len * n) (k := 0) g4 (by have := g5.1; omega) (by simpa using g5.2) off (by omega) hcond.1
              obtain ⟨K2, q1, q2, q3⟩ := hm _ _ _ _ hx _ _ f2 (hlr.rel.mono hK1 fun _ _ h => h)
              refine ⟨K2, q1, f3.trans q2, list_of (q2.k.1 _ _ hfx) (by have := g5.1; omega) hcond.2 hl q3 hleaf⟩
            · cases h
          · cases h
        · rename_i l ho
          split at h
          · rename_i hcond
            split at h
            · rename_i x H1 hx
              split at h <;> cases h
              rename_i hleaf
              obtain ⟨b', cs, e, fr, g1, g2, g3, g5⟩ := hI.obj id _ ho
              rw [hβ] at g1; cases g1
              have hlr := seen_of (w := w) (b := b) (o := off) (n := len * n) (k := 0) (hI.fixed _ _ g2) (by have := g5.1; omega) (by simpa using g5.2) off (by omega) hcond.1
              obtain ⟨K2, q1, q2, q3⟩ := hm _ _ _ _ hx _ _ hI hlr.rel
              exact ⟨K2, q1, q2, list_of (q2.k.1 _ _ g2) (by have := g5.1; omega) hcond.2 hl q3 hleaf⟩
            · cases h
          · cases h
        · cases h
    · rename_i id
      cases hv with
      | mref hβ =>
        rename_i b
        split at h
        · rename_i ks vs ho
          cases h
          obtain ⟨b', es, clock, g1, g2, g3, g4, g5, g6, g7⟩ := hI.obj id _ ho
          rw [hβ] at g1; cases g1
          obtain ⟨f1, f2, f3⟩ := hI.fix (o' := .dead) ho rfl hβ g3 g2 rfl trivial
          have hfx : (fixK K b (.map es clock)).fixed b = some (.map es clock) := fixK_at g2
          exact ⟨_, f2, f3, .map hfx g4 g5 (fun i v hv => (g6 i v hv).mono f1 fun _ _ h => h) fun i v hv => (g7 i v hv).mono f1 fun _ _ h => h⟩
        · cases h
    · cases hv with
      | agg hl hc =>
        simp only [Option.map_eq_some_iff] at h
        obtain ⟨⟨x, H1⟩, hx, h⟩ := h
        cases h
        obtain ⟨K2, q1, q2, q3⟩ := hm _ _ _ _ hx _ _ hI (LR.of_arr hl hc)
        exact ⟨K2, q1, q2, .agg q3.to_arr.1 q3.to_arr.2⟩
    · cases hv with
      | tuple hl hc =>
        simp only [Option.map_eq_some_iff] at h
        obtain ⟨⟨x, H1⟩, hx, h⟩ := h
        cases h
        obtain ⟨K2, q1, q2, q3⟩ := hm _ _ _ _ hx _ _ hI (LR.of_arr hl hc)
        exact ⟨K2, q1, q2, .tuple q3.to_arr.1 q3.to_arr.2⟩
    · cases h
      exact ⟨K, hI, .refl K β H w, hv⟩
theorem Inv.retell {K : Kn} {β : Bi} {H : List Ob} {w : World} (h : Inv K β H w) {id : Nat} {l l' : List V} (hi : H[id]? = some (.live l))
    (hl : ∀ b cs e fr, β id = some b → w.heap[b]? = some (.cells cs e fr) → CsR K β l' cs) : Inv K β (H.set id (.live l')) w ∧ Ev K β H w K β (H.set id (.live l')) w := by
  obtain ⟨b, cs, e, g1, g2, g3, g4, g5⟩ := h.obj id _ hi
  refine h.put hi g1 g4 rfl (hl b cs e _ g1 g4) (fun x => ?_) rfl rfl rfl rfl
  by_cases ex : x = b
  · subst ex; rw [if_pos rfl]; exact g4
  · rw [if_neg ex]
theorem freezeObs_sound {β : Bi} {w : World} {K0 : Kn} {H0 : List Ob} (h0 : Inv K0 β H0 w) : ∀ (os : List Ob) (i : Nat) (H H' : List Ob), freezeObs i os H = some H' → (∀ j o, os[j]? = some o → H0[i + j]? = some o) →
    ∀ K, K0.le K → Inv K β H w → ∃ K', Inv K' β H' w ∧ Ev K β H w K' β H' w := by
  intro os
  induction os with
  | nil => intro i H H' h _ K _ hI; simp [freezeObs] at h; subst h; exact ⟨K, hI, .refl K β H w⟩
  | cons o os ih =>
    intro i H H' h hos K hK hI
    have hos' : ∀ j o', os[j]? = some o' → H0[i + 1 + j]? = some o' := fun j o' hj => by
      have := hos (j + 1) o' (by simpa using hj)
      rwa [show i + 1 + j = i + (j + 1) from by omega]
    have hi0 := hos 0 o (by simp)
    simp only [Nat.add_zero] at hi0
    have skip : ∀ {H2}, freezeObs (i + 1) os H2 = some H' → ∀ K2, Inv K2 β H2 w → Ev K β H w K2 β H2 w → ∃ K', Inv K' β H' w ∧ Ev K β H w K' β H' w := by
      intro H2 h2 K2 i2 e2
      obtain ⟨K3, i3, e3⟩ := ih (i + 1) H2 H' h2 hos' K2 (Kn.le_trans hK e2.k) i2
      exact ⟨K3, i3, e2.trans e3⟩
    cases o with
    | live l =>
      simp only [freezeObs] at h
      split at h
      · rename_i l' H1 hm
        obtain ⟨b, cs, e, g1, g2, g3, g4, g5⟩ := h0.obj i _ hi0
        have hlr : LR K0 β l (cs.toList.take l.length) := by
          refine ⟨by have := g5.1; simp; omega, fun j v hv => ?_⟩
          have hil : j < l.length := (List.getElem?_eq_some_iff.1 hv).1
          have := g5.2 j v hv
          simpa [List.getD, List.getElem?_take, hil, Array.getD_eq_getD_getElem?] using this
        obtain ⟨K1, i1, e1, r1⟩ := mapS_sound (f := freezeV depthF) (β := β) (w := w) (freezeV_sound depthF) _ _ _ _ hm K _ hI (hlr.mono hK fun _ _ h => h)
        split at h
        · rename_i l2 ho2
          obtain ⟨i2, e2⟩ := i1.retell (l' := l') ho2 (fun b' cs' e' fr' hb hw => by
            rw [g1] at hb; cases hb
            rw [g4] at hw; cases hw
            refine ⟨by rw [r1.1]; simp; omega, fun j v hv => ?_⟩
            obtain ⟨c, hc, hvc⟩ := r1.get hv
            have hj : j < l.length := by
              have := (List.getElem?_eq_some_iff.1 hv).1
              rw [r1.1] at this; simp at this; omega
            simp [List.getElem?_take, hj] at hc
            simpa [Array.getD_eq_getD_getElem?, hc] using hvc)
          exact skip h K1 i2 (e1.trans e2)
        · exact skip h K1 i1 e1
      · cases h
    | fixed l => exact skip (by simpa [freezeObs] using h) K hI (.refl K β H w)
    | dead => exact skip (by simpa [freezeObs] using h) K hI (.refl K β H w)
    | mlive ks vs => exact skip (by simpa [freezeObs] using h) K hI (.refl K β H w)
    | iter s p => exact skip (by simpa [freezeObs] using h) K hI (.refl K β H w)
    | loop k t l st => exact skip (by simpa [freezeObs] using h) K hI (.refl K β H w)
end Fz
namespace Fz
open Go
theorem reach_sound {H : List Ob} : ∀ (k : Nat) (todo seen ids : List Nat), reach H k todo seen = some ids → seen.Nodup → (∀ i ∈ seen, i < H.length) →
    (∀ i ∈ seen, ∀ o, H[i]? = some o → ∀ j ∈ refsOb o, j ∈ seen ∨ j ∈ todo) →
    ids.Nodup ∧ (∀ i ∈ ids, i < H.length) ∧ (∀ i ∈ ids, ∀ o, H[i]? = some o → ∀ j ∈ refsOb o, j ∈ ids) ∧ (∀ i ∈ seen, i ∈ ids) ∧ (∀ i ∈ todo, i ∈ ids) := by
  intro k
  induction k with
  | zero => intro todo seen ids h; simp [reach] at h
  | succ k ih =>
    intro todo seen ids h hnd hlt hcl
    cases todo with
    | nil =>
      simp [reach] at h; subst h
      exact ⟨hnd, hlt, fun i hi o ho j hj => (hcl i hi o ho j hj).resolve_right (by simp), fun _ h => h, by simp⟩
    | cons i todo =>
      simp only [reach] at h
      split at h
      · rename_i hc
        have hi : i ∈ seen := by simpa using hc
        obtain ⟨g1, g2, g3, g4, g5⟩ := ih todo seen ids h hnd hlt fun a ha o ho j hj => by
          rcases hcl a ha o ho j hj with h | h
          · exact .inl h
          · rcases List.mem_cons.1 h with rfl | h
            · exact .inl hi
            · exact .inr h
        refine ⟨g1, g2, g3, g4, fun a ha => ?_⟩
        rcases List.mem_cons.1 ha with rfl | ha
        · exact g4 _ hi
        · exact g5 a ha
      · rename_i hc
        have hi : i ∉ seen := by simpa using hc
        split at h
        · rename_i o ho
          have hil : i < H.length := (List.getElem?_eq_some_iff.1 ho).1
          obtain ⟨g1, g2, g3, g4, g5⟩ := ih (todo ++ refsOb o) (seen ++ [i]) ids h
            (List.nodup_append.2 ⟨hnd, by simp, fun a ha b hb => by simp at hb; subst hb; rintro rfl; exact hi ha⟩)
            (fun a ha => by
              rcases List.mem_append.1 ha with ha | ha
              · exact hlt a ha
              · simp at ha; subst ha; exact hil)
            (fun a ha o' ho' j hj => by
              rcases List.mem_append.1 ha with ha | ha
              · rcases hcl a ha o' ho' j hj with h | h
                · exact .inl (List.mem_append_left _ h)
                · rcases List.mem_cons.1 h with rfl | h
                  · exact .inl (by simp)
                  · exact .inr (List.mem_append_left _ h)
              · simp at ha; subst ha
                rw [ho] at ho'; cases ho'
                exact .inr (List.mem_append_right _ hj))
          refine ⟨g1, g2, g3, fun a ha => g4 a (List.mem_append_left _ ha), fun a ha => ?_⟩
          rcases List.mem_cons.1 ha with rfl | ha
          · exact g4 _ (by simp)
          · exact g5 a (List.mem_append_left _ ha)
        · cases h
theorem renOb_live (g : Nat → Nat) (o : Ob) : (renOb g o).isLive = o.isLive := by cases o <;> rfl
theorem LR.ren {K K' : Kn} {β β' : Bi} {g : Nat → Nat} (hK : K.le K') {l : List V} {cs : List Value} (h : LR K β l cs) (hg : ∀ i ∈ refsL l, ∀ b, β i = some b → β' (g i) = some b) : LR K' β' (renL g l) cs := by
  rw [renL_eq]
  refine ⟨by simp [h.1], fun i v hv => ?_⟩
  rw [List.getElem?_map] at hv
  obtain ⟨u, hu, rfl⟩ := Option.map_eq_some_iff.1 hv
  exact (h.2 i u hu).ren hK fun j hj => hg j (by rw [refsL_eq]; exact List.mem_flatMap.2 ⟨u, List.mem_of_getElem? hu, hj⟩)
theorem ObR.ren {K K' : Kn} {β β' : Bi} {g : Nat → Nat} {w w' : World} (hK : K.le K') {i j : Nat} {o : Ob} (h : ObR K β w i o) (hb : ∀ b, o.isLive = true → β i = some b → β' j = some b) (hb' : ∀ b, o.isLive = false → β i = some b → β' j = some b)
    (hg : ∀ i ∈ refsOb o, ∀ b, β i = some b → β' (g i) = some b) (hf : ∀ b, o.isLive = true → β i = some b → K.fixed b = none → K'.fixed b = none ∧ w'.heap[b]? = w.heap[b]?) : ObR K' β' w' j (renOb g o) := by
  have cs : ∀ {l : List V} {cs : Array Value}, CsR K β l cs → (∀ i ∈ refsL l, ∀ b, β i = some b → β' (g i) = some b) → CsR K' β' (renL g l) cs := by
    intro l cs h hg
    rw [renL_eq]
    refine ⟨by simpa using h.1, fun i v hv => ?_⟩
    rw [List.getElem?_map] at hv
    obtain ⟨u, hu, rfl⟩ := Option.map_eq_some_iff.1 hv
    exact (h.2 i u hu).ren hK fun j hj => hg j (by rw [refsL_eq]; exact List.mem_flatMap.2 ⟨u, List.mem_of_getElem? hu, hj⟩)
  have vs : ∀ {l : List V} {f : Nat → Value}, (∀ i v, l[i]? = some v → VR K β v (f i)) → (∀ i ∈ refsL l, ∀ b, β i = some b → β' (g i) = some b) → ∀ i v, (renL g l)[i]? = some v → VR K' β' v (f i) := by
    intro l f h hg i v hv
    rw [renL_eq, List.getElem?_map] at hv
    obtain ⟨u, hu, rfl⟩ := Option.map_eq_some_iff.1 hv
    exact (h i u hu).ren hK fun j hj => hg j (by rw [refsL_eq]; exact List.mem_flatMap.2 ⟨u, List.mem_of_getElem? hu, hj⟩)
  cases o with
  | live l =>
    obtain ⟨b, c, e, h1, h2, h3, h4, h5⟩ := h
    obtain ⟨g1, g2⟩ := hf b rfl h1 h2
    exact ⟨b, c, e, hb b rfl h1, g1, hK.2.1 _ _ h3, g2.trans h4, cs h5 hg⟩
  | fixed l =>
    obtain ⟨b, c, e, fr, h1, h2, h3, h5⟩ := h
    exact ⟨b, c, e, fr, hb' b rfl h1, hK.1 _ _ h2, hK.2.1 _ _ h3, cs h5 hg⟩
  | dead => trivial
  | mlive ks us =>
    obtain ⟨b, es, clock, h1, h2, h4, h5, h6, h7, h8⟩ := h
    obtain ⟨g1, g2⟩ := hf b rfl h1 h2
    exact ⟨b, es, clock, hb b rfl h1, g1, g2.trans h4, by rw [renL_eq]; simpa using h5, by rw [renL_eq]; simpa using h6, vs h7 fun i hi => hg i (List.mem_append_left _ hi), vs h8 fun i hi => hg i (List.mem_append_right _ hi)⟩
  | iter s pos =>
    obtain ⟨b, h1, h2, h4⟩ := h
    obtain ⟨g1, g2⟩ := hf b rfl h1 h2
    exact ⟨b, hb b rfl h1, g1, g2.trans h4⟩
  | loop k ts l st =>
    obtain ⟨b, r, h1, h2, h4, h5, h6, h7, h8⟩ := h
    obtain ⟨g1, g2⟩ := hf b rfl h1 h2
    refine ⟨b, r, hb b rfl h1, g1, g2.trans h4, by rw [hK.2.2]; exact h5, by rw [renL_eq]; simpa using h6, fun i t v ht hv => ?_, h8⟩
    have := vs (l := l) (f := fun i => r.tmps.getD (ts.getD i 0) Go.undef) (fun i v hv => by
      have hi : i < ts.length := by rw [h6]; exact (List.getElem?_eq_some_iff.1 hv).1
      have e1 : ts.getD i 0 = ts[i] := by simp [List.getD, List.getElem?_eq_getElem hi]
      rw [e1]; exact h7 i _ v (List.getElem?_eq_getElem hi) hv) hg i v hv
    have e1 : ts.getD i 0 = t := by simp [List.getD, ht]
    rwa [e1] at this
def locB (β : Bi) (ids : List Nat) : Bi := fun j => (ids[j]?).bind β
theorem idx_get {ids : List Nat} {i : Nat} (h : i ∈ ids) : ids[ids.idxOf i]? = some i := by
  have hl := List.idxOf_lt_length_of_mem h
  rw [List.getElem?_eq_getElem hl, List.getElem_idxOf hl]
theorem local_inv {K : Kn} {β : Bi} {H : List Ob} {w : World} (hI : Inv K β H w) {ids : List Nat} (hnd : ids.Nodup) (hlt : ∀ i ∈ ids, i < H.length) (hcl : ∀ i ∈ ids, ∀ o, H[i]? = some o → ∀ j ∈ refsOb o, j ∈ ids) :
    Inv K (locB β ids) (ids.map fun i => renOb (fun i => ids.idxOf i) (H[i]?.getD .dead)) w := by
  have get : ∀ (j : Nat) (o : Ob), (ids.map fun i => renOb (fun i => ids.idxOf i) (H[i]?.getD .dead))[j]? = some o → ∃ (i : Nat) (o' : Ob), ids[j]? = some i ∧ H[i]? = some o' ∧ o = renOb (fun i => ids.idxOf i) o' := by
    intro j o ho
    rw [List.getElem?_map] at ho
    obtain ⟨i, hi, rfl⟩ := Option.map_eq_some_iff.1 ho
    have hil := hlt i (List.mem_of_getElem? hi)
    exact ⟨i, H[i], hi, List.getElem?_eq_getElem hil, by rw [List.getElem?_eq_getElem hil]; rfl⟩
  refine ⟨hI.fixed, hI.size, fun j b hj => ?_, fun j o ho => ?_, fun j k b hj hk h1 h2 => ?_⟩
  · unfold locB at hj
    obtain ⟨i, hi, _⟩ := Option.bind_eq_some_iff.1 hj
    simpa using (List.getElem?_eq_some_iff.1 hi).1
  · obtain ⟨i, o', hi, ho', rfl⟩ := get j o ho
    have himem := List.mem_of_getElem? hi
    refine (hI.obj i o' ho').ren K.le_refl ?_ ?_ ?_ ?_
    · intro b _ hb; simp [locB, hi, hb]
    · intro b _ hb; simp [locB, hi, hb]
    · intro q hq b hb
      have := hcl i himem o' ho' q hq
      simp [locB, idx_get this, hb]
    · intro b _ _ hf; exact ⟨hf, rfl⟩
  · obtain ⟨o1, ho1, hl1⟩ := hj
    obtain ⟨o2, ho2, hl2⟩ := hk
    obtain ⟨i1, o1', hi1, ho1', rfl⟩ := get j o1 ho1
    obtain ⟨i2, o2', hi2, ho2', rfl⟩ := get k o2 ho2
    simp only [locB, hi1, Option.bind_some] at h1
    simp only [locB, hi2, Option.bind_some] at h2
    rw [renOb_live] at hl1 hl2
    have := hI.inj i1 i2 b ⟨_, ho1', hl1⟩ ⟨_, ho2', hl2⟩ h1 h2
    subst this
    have e1 := (List.getElem?_eq_some_iff.1 hi1)
    have e2 := (List.getElem?_eq_some_iff.1 hi2)
    obtain ⟨q1, q2⟩ := e1
    obtain ⟨q3, q4⟩ := e2
    have hp := List.pairwise_iff_getElem.1 hnd
    rcases Nat.lt_trichotomy j k with h | h | h
    · exact absurd (q2.trans q4.symm) (hp j k q1 q3 h)
    · exact h
    · exact absurd (q4.trans q2.symm) (hp k j q3 q1 h)
theorem setAll_length : ∀ (is : List Nat) (os : List Ob) (H : List Ob), (setAll H is os).length = H.length
  | [], os, H => by cases os <;> rfl
  | i :: is, [], H => rfl
  | i :: is, o :: os, H => by simp [setAll, setAll_length is os]
theorem setAll_other : ∀ (is : List Nat) (os : List Ob) (H : List Ob) (i : Nat), i ∉ is → (setAll H is os)[i]? = H[i]?
  | [], os, H, i, _ => by cases os <;> rfl
  | j :: is, [], H, i, _ => rfl
  | j :: is, o :: os, H, i, h => by
    simp only [setAll]
    rw [setAll_other is os _ i (fun hi => h (by simp [hi])), set_get (fun hh => h (by simp [hh]))]
theorem setAll_at : ∀ (is : List Nat) (os : List Ob) (H : List Ob), is.Nodup → is.length = os.length → (∀ i ∈ is, i < H.length) → ∀ (j i : Nat), is[j]? = some i → (setAll H is os)[i]? = os[j]?
  | [], os, H, _, _, _, j, i, h => by simp at h
  | k :: is, [], H, _, hl, _, j, i, h => by simp at hl
  | k :: is, o :: os, H, hnd, hl, hlt, j, i, h => by
    simp only [setAll]
    obtain ⟨h1, h2⟩ := List.nodup_cons.1 hnd
    cases j with
    | zero =>
      simp at h; subst h
      rw [setAll_other is os _ k h1, List.getElem?_set]
      simp [hlt k (by simp)]
    | succ j =>
      exact setAll_at is os (H.set k o) h2 (by simpa using hl) (fun i hi => by simpa using hlt i (by simp [hi])) j i (by simpa using h)
def backN (ids : List Nat) (n : Nat) (j : Nat) : Nat := if j < ids.length then ids[j]?.getD 0 else n + (j - ids.length)
def backB (β β2 : Bi) (ids : List Nat) (n : Nat) (keep : Bool) : Bi := fun i => if i < n then β i else if keep then β2 (ids.length + (i - n)) else none
theorem back_inv {K K3 : Kn} {β β2 : Bi} {H Hl3 : List Ob} {w w2 : World} (hI : Inv K β H w) {ids : List Nat} (hnd : ids.Nodup) (hlt : ∀ i ∈ ids, i < H.length) {Hl : List Ob} (hHl : Hl = ids.map fun i => renOb (fun i => ids.idxOf i) (H[i]?.getD .dead))
    (hI3 : Inv K3 β2 Hl3 w2) (hE3 : Ev K (locB β ids) Hl w K3 β2 Hl3 w2) (keep : Bool)
    (hkeep : keep = false → ∀ o ∈ Hl3.take ids.length, ∀ j ∈ refsOb o, j < ids.length) :
    let β' := backB β β2 ids H.length keep
    let H' := setAll H ids ((Hl3.take ids.length).map (renOb (backN ids H.length))) ++ (if keep then (Hl3.drop ids.length).map (renOb (backN ids H.length)) else [])
    Inv K3 β' H' w2 ∧ Ev K β H w K3 β' H' w2 ∧ ∀ j, (keep = false → j < ids.length) → ∀ b, β2 j = some b → β' (backN ids H.length j) = some b := by
  intro β' H'
  have hm : Hl.length = ids.length := by rw [hHl]; simp
  have hm3 : ids.length ≤ Hl3.length := by rw [← hm]; exact hE3.hl
  have hβ' : ∀ i, i < H.length → β' i = β i := fun i hi => if_pos hi
  have hβn : keep = true → ∀ k, β' (H.length + k) = β2 (ids.length + k) := by
    intro hk k
    show (if H.length + k < H.length then _ else if keep = true then _ else _) = _
    rw [if_neg (by omega), if_pos hk, show H.length + k - H.length = k from by omega]
  have hβ2 : ∀ j i, ids[j]? = some i → β2 j = β i := by
    intro j i hj
    have hjl : j < Hl.length := by rw [hm]; exact (List.getElem?_eq_some_iff.1 hj).1
    rw [hE3.bx j hjl]; simp [locB, hj]
  have hmap : ∀ j, (keep = false → j < ids.length) → ∀ b, β2 j = some b → β' (backN ids H.length j) = some b := by
    intro j hj b hb
    unfold backN
    by_cases h : j < ids.length
    · rw [if_pos h, List.getElem?_eq_getElem h, Option.getD_some, hβ' _ (hlt _ (List.getElem_mem h)), ← hβ2 j _ (List.getElem?_eq_getElem h)]
      exact hb
    · rw [if_neg h]
      have hk : keep = true := by cases keep with | true => rfl | false => exact absurd (hj rfl) h
      rw [hβn hk, show ids.length + (j - ids.length) = j from by omega]; exact hb
  have hlen0 : (setAll H ids ((Hl3.take ids.length).map (renOb (backN ids H.length)))).length = H.length := setAll_length _ _ _
  have holen : ids.length = ((Hl3.take ids.length).map (renOb (backN ids H.length))).length := by simp; omega
  -- the objects
  have objs : ∀ i o, H'[i]? = some o → (i ∉ ids ∧ i < H.length ∧ H[i]? = some o) ∨
      (∃ j o3, Hl3[j]? = some o3 ∧ o = renOb (backN ids H.length) o3 ∧ i = backN ids H.length j ∧ (j < ids.length ∨ keep = true)) := by
    intro i o ho
    by_cases hi : i < H.length
    · rw [List.getElem?_append_left (by rw [hlen0]; exact hi)] at ho
      by_cases hmem : i ∈ ids
      · right
        have hj := idx_get hmem
        have hjl := (List.getElem?_eq_some_iff.1 hj).1
        rw [setAll_at ids _ H hnd holen hlt _ i hj, List.getElem?_map, List.getElem?_take, if_pos hjl] at ho
        obtain ⟨o3, ho3, rfl⟩ := Option.map_eq_some_iff.1 ho
        exact ⟨ids.idxOf i, o3, ho3, rfl, by simp [backN, hjl, hj], .inl hjl⟩
      · left
        rw [setAll_other ids _ H i hmem] at ho
        exact ⟨hmem, hi, ho⟩
    · right
      rw [List.getElem?_append_right (by rw [hlen0]; omega), hlen0] at ho
      cases hk : keep with
      | false => simp [hk] at ho
      | true =>
        rw [hk, if_pos rfl, List.getElem?_map, List.getElem?_drop] at ho
        obtain ⟨o3, ho3, rfl⟩ := Option.map_eq_some_iff.1 ho
        exact ⟨ids.length + (i - H.length), o3, ho3, rfl, by unfold backN; rw [if_neg (by omega)]; omega, .inr rfl⟩
  have hliveOld : ∀ i, i ∉ ids → liveAt H i → ∀ b, β i = some b → ¬ liveB Hl (locB β ids) b := by
    rintro i hi hl b hb ⟨j, ⟨o, ho, hol⟩, hj⟩
    rw [hHl, List.getElem?_map] at ho
    obtain ⟨q, hq, rfl⟩ := Option.map_eq_some_iff.1 ho
    have hqm := List.mem_of_getElem? hq
    rw [List.getElem?_eq_getElem (hlt q hqm), Option.getD_some, renOb_live] at hol
    simp only [locB, hq, Option.bind_some] at hj
    have := hI.inj i q b hl ⟨_, List.getElem?_eq_getElem (hlt q hqm), hol⟩ hb hj
    subst this; exact hi hqm
  have hsizeOld : ∀ i, liveAt H i → ∀ b, β i = some b → b < w.heap.size ∧ K.fixed b = none := by
    rintro i ⟨o, ho, hl⟩ b hb
    obtain ⟨b', q1, q2, q3⟩ := (hI.obj i o ho).lt hl
    rw [hb] at q1; cases q1; exact ⟨q2, q3⟩
  have hlocal : ∀ b, liveB Hl (locB β ids) b → liveB H β b := by
    rintro b ⟨j, ⟨o, ho, hol⟩, hj⟩
    rw [hHl, List.getElem?_map] at ho
    obtain ⟨q, hq, rfl⟩ := Option.map_eq_some_iff.1 ho
    have hqm := List.mem_of_getElem? hq
    rw [List.getElem?_eq_getElem (hlt q hqm), Option.getD_some, renOb_live] at hol
    simp only [locB, hq, Option.bind_some] at hj
    exact ⟨q, ⟨_, List.getElem?_eq_getElem (hlt q hqm), hol⟩, hj⟩
  -- a live object behind the call: an old one, or one of the call's
  have lives : ∀ i, liveAt H' i → (i ∉ ids ∧ liveAt H i) ∨ ∃ j, i = backN ids H.length j ∧ liveAt Hl3 j ∧ (j < ids.length ∨ keep = true) := by
    rintro i ⟨o, ho, hl⟩
    rcases objs i o ho with ⟨h1, _, h3⟩ | ⟨j, o3, h1, rfl, h3, h4⟩
    · exact .inl ⟨h1, o, h3, hl⟩
    · rw [renOb_live] at hl; exact .inr ⟨j, h3, ⟨o3, h1, hl⟩, h4⟩
  have hβback : ∀ j, (j < ids.length ∨ keep = true) → j < Hl3.length → β' (backN ids H.length j) = β2 j := by
    intro j hj hjl
    unfold backN
    by_cases h : j < ids.length
    · rw [if_pos h, List.getElem?_eq_getElem h, Option.getD_some, hβ' _ (hlt _ (List.getElem_mem h)), hβ2 j _ (List.getElem?_eq_getElem h)]
    · rw [if_neg h, hβn (hj.resolve_left h), show ids.length + (j - ids.length) = j from by omega]
  have hInvOld : ∀ i, i < H.length → ∀ x, β' i = some x → β i = some x := fun i hi x hx => by rw [hβ' i hi] at hx; exact hx
  refine ⟨⟨hI3.fixed, hI3.size, ?_, ?_, ?_⟩, ⟨hE3.k, ?_, ?_, ?_, hE3.size, hE3.os, hE3.tape, hE3.output, ?_, ?_, hβ'⟩, hmap⟩
  · intro i b hb
    show i < (_ ++ _ : List Ob).length
    rw [List.length_append, hlen0]
    by_cases hi : i < H.length
    · omega
    · have hb' : (if keep = true then β2 (ids.length + (i - H.length)) else none) = some b := by
        have : β' i = if keep = true then β2 (ids.length + (i - H.length)) else none := if_neg hi
        rw [← this]; exact hb
      cases hk : keep with
      | false => rw [hk] at hb'; cases hb'
      | true =>
        rw [hk, if_pos rfl] at hb'
        have := hI3.dom _ _ hb'
        simp; omega
  · intro i o ho
    rcases objs i o ho with ⟨h1, h2, h3⟩ | ⟨j, o3, h1, rfl, rfl, h4⟩
    · refine (hI.obj i o h3).mono hE3.k (fun q x hq => by rw [hβ' q (hI.dom q x hq)]; exact hq) fun b hl hb hf => ?_
      have hn := hliveOld i h1 ⟨o, h3, hl⟩ b hb
      have hs := (hsizeOld i ⟨o, h3, hl⟩ b hb).1
      refine ⟨?_, hE3.frame b hs hn⟩
      cases hf3 : K3.fixed b with
      | none => rfl
      | some x =>
        rcases hE3.fix b x hf3 with h | h | h
        · rw [hf] at h; cases h
        · exact absurd h hn
        · omega
    · have hj3 := (List.getElem?_eq_some_iff.1 h1).1
      refine (hI3.obj j o3 h1).ren (Kn.le_refl _) ?_ ?_ ?_ ?_
      · intro b _ hb; rw [hβback j h4 hj3]; exact hb
      · intro b _ hb; rw [hβback j h4 hj3]; exact hb
      · intro q hq b hb
        refine hmap q (fun hk => ?_) b hb
        rcases h4 with h4 | h4
        · exact hkeep hk o3 (List.mem_of_getElem? (i := j) (by rw [List.getElem?_take, if_pos h4]; exact h1)) q hq
        · rw [hk] at h4; cases h4
      · intro b _ _ hf; exact ⟨hf, rfl⟩
  · intro i1 i2 b h1 h2 hb1 hb2
    rcases lives i1 h1 with ⟨n1, l1⟩ | ⟨j1, rfl, l1, k1⟩
    · have hb1' := hInvOld i1 (liveAt_lt l1) b hb1
      rcases lives i2 h2 with ⟨n2, l2⟩ | ⟨j2, rfl, l2, k2⟩
      · exact hI.inj i1 i2 b l1 l2 hb1' (hInvOld i2 (liveAt_lt l2) b hb2)
      · rw [hβback j2 k2 (liveAt_lt l2)] at hb2
        have hs := (hsizeOld i1 l1 b hb1').1
        rcases hE3.live b ⟨j2, l2, hb2⟩ with h | h
        · exact absurd h (hliveOld i1 n1 l1 b hb1')
        · omega
    · rw [hβback j1 k1 (liveAt_lt l1)] at hb1
      rcases lives i2 h2 with ⟨n2, l2⟩ | ⟨j2, rfl, l2, k2⟩
      · have hb2' := hInvOld i2 (liveAt_lt l2) b hb2
        have hs := (hsizeOld i2 l2 b hb2').1
        rcases hE3.live b ⟨j1, l1, hb1⟩ with h | h
        · exact absurd h (hliveOld i2 n2 l2 b hb2')
        · omega
      · rw [hβback j2 k2 (liveAt_lt l2)] at hb2
        rw [hI3.inj j1 j2 b l1 l2 hb1 hb2]
  · intro i x hx; rw [hβ' i (hI.dom i x hx)]; exact hx
  · show H.length ≤ (_ ++ _ : List Ob).length
    rw [List.length_append, hlen0]; omega
  · intro x hx hn
    exact hE3.frame x hx fun h => hn (hlocal x h)
  · rintro x ⟨i, hl, hb⟩
    rcases lives i hl with ⟨n1, l1⟩ | ⟨j, rfl, l1, k1⟩
    · exact .inl ⟨i, l1, hInvOld i (liveAt_lt l1) x hb⟩
    · rw [hβback j k1 (liveAt_lt l1)] at hb
      exact (hE3.live x ⟨j, l1, hb⟩).imp (hlocal x) id
  · intro x o hx
    rcases hE3.fix x o hx with h | h | h
    · exact .inl h
    · exact .inr (.inl (hlocal x h))
    · exact .inr (.inr h)
end Fz
namespace Fz
open Go
def CRel (K : Kn) (β : Bi) : CR → Ending → Prop
  | .ret v, .returned c => VR K β v c
  | .panic v, .panicked chain => ∃ c, chain = [{ v := c, recovered := false }] ∧ VR K β v c
  | _, _ => False
theorem LR.nrm {K : Kn} {β : Bi} {l : List V} {cs : List Value} (h : LR K β l cs) : LR K β (l.map Fz.nrm) cs := by
  refine ⟨by simp [h.1], fun i v hv => ?_⟩
  rw [List.getElem?_map] at hv
  obtain ⟨u, hu, rfl⟩ := Option.map_eq_some_iff.1 hv
  exact (h.2 i u hu).nrm
def DoesOk (P : Program) (f : FuncId) (cargs : Array Value) (w : World) (R : Ending → World → Prop) : Prop :=
  (∃ c w', (callG f cargs).run P w = .ok (.value c) w' ∧ R (.returned c) w') ∨ (∃ g gs, (callG f cargs).run P w = .ok (.enter g gs) w ∧ Calls P g gs w R) ∨
  ∃ l fn tmps assign body, (callG f cargs).run P w = .ok (.round l fn tmps assign body) w ∧ RoundIn Fence.wide 0 P l fn tmps assign body w R
theorem DoesOk.mono {P : Program} {f : FuncId} {cargs : Array Value} {w : World} {R R' : Ending → World → Prop} (h : DoesOk P f cargs w R) (hr : ∀ e w', R e w' → R' e w') : DoesOk P f cargs w R' := by
  rcases h with ⟨c, w', h1, h2⟩ | ⟨g, gs, h1, h2⟩ | ⟨l, fn, tmps, assign, body, h1, h2⟩
  · exact .inl ⟨c, w', h1, hr _ _ h2⟩
  · exact .inr (.inl ⟨g, gs, h1, h2.mono hr⟩)
  · exact .inr (.inr ⟨l, fn, tmps, assign, body, h1, h2.mono hr⟩)
def CallPost (K : Kn) (β : Bi) (H : List Ob) (w : World) (r : CR) (H' : List Ob) : Ending → World → Prop :=
  fun e w' => ∃ K' β', CRel K' β' r e ∧ Inv K' β' H' w' ∧ Ev K β H w K' β' H' w'
abbrev LpT := Nat → Loop → Prop
abbrev DoesT := FuncId → Array Value → World → (Ending → World → Prop) → Prop
def CallOkG (L : LpT) (D : DoesT) (call : CallT) : Prop :=
  ∀ f args H r H', call f args H = some (r, H') → ∀ K β w (cargs : Array Value), K.lp = L → Inv K β H w → LR K β args cargs.toList → D f cargs w (CallPost K β H w r H')
abbrev CallOk (P : Program) (L : LpT) (call : CallT) : Prop := CallOkG L (DoesOk P) call
theorem CRel.mono {K K' : Kn} {β β' : Bi} {r : CR} {e : Ending} (h : CRel K β r e) (hK : K.le K') (hβ : ∀ i b, β i = some b → β' i = some b) : CRel K' β' r e := by
  cases r <;> cases e <;> first | exact h.elim | exact VR.mono hK hβ h | (obtain ⟨c, h1, h2⟩ := h; exact ⟨c, h1, h2.mono hK hβ⟩)
theorem settleR_sound {K : Kn} {β : Bi} {H : List Ob} {w : World} {m : Nat} {r r' : CR} {H' : List Ob} {e : Ending} (h : settleR m r H = some (r', H')) (hI : Inv K β H w) (hr : CRel K β r e) :
    ∃ K', Inv K' β H' w ∧ Ev K β H w K' β H' w ∧ CRel K' β r' e := by
  unfold settleR at h
  split at h
  · cases h
  · rename_i H1 hf
    obtain ⟨K1, i1, e1⟩ := freezeObs_sound hI (H.take m) 0 H H1 hf (fun j o hj => by
      rw [Nat.zero_add]
      by_cases hjm : j < m
      · rwa [List.getElem?_take, if_pos hjm] at hj
      · rw [List.getElem?_take, if_neg hjm] at hj; cases hj) K (Kn.le_refl _) hI
    cases r with
    | ret v =>
      simp only [Option.map_eq_some_iff] at h
      obtain ⟨⟨v', H2⟩, hv, h⟩ := h
      cases h
      cases e with
      | returned c =>
        obtain ⟨K2, i2, e2, r2⟩ := freezeV_sound depthF v H1 v' _ hv K1 c i1 (VR.mono e1.k (fun _ _ h => h) hr)
        exact ⟨K2, i2, e1.trans e2, VR.nrm r2⟩
      | _ => exact hr.elim
    | panic v =>
      cases h
      exact ⟨K1, i1, e1, hr.mono e1.k fun _ _ h => h⟩
theorem refs_crV {K K' : Kn} {β β' : Bi} {g : Nat → Nat} {r : CR} {e : Ending} (h : CRel K β r e) (hK : K.le K') (hg : ∀ j ∈ refs (crV r), ∀ b, β j = some b → β' (g j) = some b) : CRel K' β' (renR g r) e := by
  cases r <;> cases e <;> first
    | exact h.elim
    | exact VR.ren hK h hg
    | (obtain ⟨c, h1, h2⟩ := h; exact ⟨c, h1, h2.ren hK hg⟩)
theorem doCall_soundG {L : LpT} {D : DoesT} (hD : ∀ f cargs w R R', D f cargs w R → (∀ e w', R e w' → R' e w') → D f cargs w R') {call : CallT} (hcall : CallOkG L D call) {inl : FuncId → Bool} {f : FuncId} {args : List V} {H H' : List Ob} {r : CR} (h : doCall call inl f args H = some (r, H'))
    {K : Kn} {β : Bi} {w : World} {cargs : Array Value} (hL : K.lp = L) (hI : Inv K β H w) (ha : LR K β args cargs.toList) : D f cargs w (CallPost K β H w r H') := by
  unfold doCall at h
  split at h
  · cases h
  · rename_i args1 H1 hfr
    obtain ⟨K1, i1, e1, a1⟩ : ∃ K1, Inv K1 β H1 w ∧ Ev K β H w K1 β H1 w ∧ LR K1 β args1 cargs.toList := by
      split at hfr
      · cases hfr; exact ⟨K, hI, .refl K β H w, ha⟩
      · obtain ⟨q, hq, h⟩ := Option.map_eq_some_iff.1 hfr
        cases h
        obtain ⟨K1, i1, e1, a1⟩ := mapS_sound (f := freezeV depthF) (β := β) (w := w) (freezeV_sound depthF) _ _ _ _ hq K _ hI ha
        exact ⟨K1, i1, e1, a1.nrm⟩
    split at h
    · cases h
    · rename_i ids hre
      obtain ⟨nd, lt, cl, _, ins⟩ := reach_sound 1000 _ _ _ hre List.nodup_nil (by simp) (by simp)
      have iL := local_inv i1 nd lt cl
      have aL : LR K1 (locB β ids) (renL (fun i => ids.idxOf i) args1) cargs.toList := a1.ren (Kn.le_refl _) fun i hi b hb => by
        simp [locB, idx_get (ins i hi), hb]
      simp only [] at h
      split at h
      · cases h
      · rename_i r2 Hl hc
        refine hD _ _ _ _ _ (hcall f _ _ r2 Hl hc K1 _ w cargs (e1.k.2.2.trans hL) iL aL) ?_
        rintro e w2 ⟨K2, β2, c2, i2, e2⟩
        split at h
        · cases h
        · rename_i r3 Hl3 hse
          obtain ⟨K3, i3, e3, c3⟩ : ∃ K3, Inv K3 β2 Hl3 w2 ∧ Ev K2 β2 Hl w2 K3 β2 Hl3 w2 ∧ CRel K3 β2 r3 e := by
            split at hse
            · cases hse; exact ⟨K2, i2, .refl K2 β2 _ w2, c2⟩
            · exact settleR_sound hse i2 c2
          split at h
          · rename_i hlen
            split at h
            · cases h
              obtain ⟨q1, q2, q3⟩ := back_inv i1 nd lt rfl i3 (e2.trans e3) true (fun h => by cases h)
              refine ⟨K3, _, refs_crV c3 (Kn.le_refl _) fun j _ b hb => q3 j (fun h => by cases h) b hb, ?_, ?_⟩
              · exact q1
              · exact e1.trans q2
            · rename_i hany
              cases h
              have hno : ∀ j ∈ refs (crV r3) ++ (Hl3.take ids.length).flatMap refsOb, j < ids.length := by
                intro j hj
                have := List.any_eq_false.1 (Bool.eq_false_iff.2 hany) j hj
                simpa using this
              obtain ⟨q1, q2, q3⟩ := back_inv i1 nd lt rfl i3 (e2.trans e3) false (fun _ o ho j hj => hno j (List.mem_append_right _ (List.mem_flatMap.2 ⟨o, ho, hj⟩)))
              refine ⟨K3, _, refs_crV c3 (Kn.le_refl _) fun j hj b hb => q3 j (fun _ => hno j (List.mem_append_left _ hj)) b hb, ?_, ?_⟩
              · rw [if_neg (by simp), List.append_nil] at q1; exact q1
              · rw [if_neg (by simp), List.append_nil] at q2; exact e1.trans q2
          · cases h
theorem doCall_sound {P : Program} {L : LpT} {call : CallT} (hcall : CallOk P L call) {inl : FuncId → Bool} {f : FuncId} {args : List V} {H H' : List Ob} {r : CR} (h : doCall call inl f args H = some (r, H'))
    {K : Kn} {β : Bi} {w : World} {cargs : Array Value} (hL : K.lp = L) (hI : Inv K β H w) (ha : LR K β args cargs.toList) : DoesOk P f cargs w (CallPost K β H w r H') :=
  doCall_soundG (D := DoesOk P) (fun _ _ _ _ _ h hr => DoesOk.mono h hr) hcall h hL hI ha
end Fz
namespace Fz
open Go
abbrev Fr (ro : Option Nat) : Fence := { Fence.wide with round := ro }
theorem callsIn_fr {ro : Option Nat} {n : Nat} {P : Program} {f : FuncId} {args : Array Value} {w : World} {R : Ending → World → Prop} (h : Calls P f args w R) : CallsIn (Fr ro) n P f args w R :=
  (callsIn_wide (n := n)).2 h
theorem roundIn_fr {ro : Option Nat} {n : Nat} {P : Program} {l : Nat} {f : FuncId} {tmps : Array Value} {assign body : Code} {w : World} {R : Ending → World → Prop} (h : RoundIn Fence.wide 0 P l f tmps assign body w R) : RoundIn (Fr ro) n P l f tmps assign body w R :=
  ⟨h.1, fun c cs _ => h.2 c cs (fun _ h => by cases h)⟩
theorem cOp_nodefer {P : Program} {o : Oper} {op : AOp} (h : cOp P o = some op) : ∀ c, o.op ≠ .defer c := by
  intro c hc
  unfold cOp at h
  rw [hc] at h
  cases h
theorem semAt_op {P : Program} {o : Oper} {op : AOp} (h : cOp P o = some op) (ro : Option Nat) (ρ : Operand → Value) : o.semAt ro ρ = execOp ρ o := Oper.semAt_eq ro ρ o (cOp_nodefer h)
theorem semAt_opL {P : Program} {o : Oper} {op : AOp} (h : OpRel P o op) (ro : Option Nat) (ρ : Operand → Value) : o.semAt ro ρ = execOp ρ o := by
  rcases h with h | ⟨_, _, _, _, _, _, _, _, h, _⟩ <;> exact semAt_op h ro ρ
def XR (K : Kn) (β : Bi) : X → Exit → Prop
  | .normal, .normal => True
  | .exit i, .exit j => i = j
  | .ret, .ret => True
  | .mayRet, .ret => True
  | .mayRet, .normal => True
  | .panic v, .panic chain => ∃ c, chain = [{ v := c, recovered := false }] ∧ VR K β v c
  | _, _ => False
def Post (K : Kn) (β : Bi) (H : List Ob) (w : World) (nt : Nat) (x : X) (e' : Env) (H' : List Ob) (ds : List Deferred) : Exit → Act → World → Prop :=
  fun ex a' w' => ∃ K' β', XR K' β' x ex ∧ ER K' β' nt e' a' ∧ Inv K' β' H' w' ∧ Ev K β H w K' β' H' w' ∧ a'.defers = ds
theorem vr_uv (K : Kn) (β : Bi) : VR K β uv Go.undef := .tuple rfl fun i v h => by simp at h
theorem put_defers (a : Act) (d : Option Tmp) (v : Value) : (a.put d v).defers = a.defers := by cases d <;> rfl
theorem op_wp {ro : Option Nat} {bud : Nat} {P : Program} {L : LpT} {call : CallT} (hcall : CallOk P L call) {inl : FuncId → Bool} {nt : Nat} {o : Oper} {op : AOp} {e : Env} {H : List Ob} {r : OR} (hc : OpRel P o op) (hr : evOp (evO e) H op = some r)
    {K : Kn} {β : Bi} {a : Act} {w : World} (hL : K.lp = L) (hI : Inv K β H w) (hE : ER K β nt e a) {next : Act → World → Prop} {Q : Exit → Act → World → Prop}
    (hv : ∀ v H', (r = .val v H' ∨ (r = .skip H' ∧ v = uv) ∨ ∃ f args, r = .call f args ∧ doCall call inl f args H = some (.ret v, H')) → ∀ c K' β' w', VR K' β' v c → Inv K' β' H' w' → Ev K β H w K' β' H' w' → next (a.put o.dst c) w')
    (hp : ∀ v H', (r = .panic v H' ∨ ∃ f args, r = .call f args ∧ doCall call inl f args H = some (.panic v, H')) → ∀ c K' β' w', VR K' β' v c → Inv K' β' H' w' → Ev K β H w K' β' H' w' → Q (.panic [{ v := c, recovered := false }]) a w')
    (hs : ∀ f args, r = .call f args → ∃ x, doCall call inl f args H = some x) : o.wpIn (Fr ro) bud P a w next Q := by
  have h := evOp_soundL (P := P) hI hE hc hr
  refine ⟨fun _ _ => trivial, ?_⟩
  rw [semAt_opL hc]
  cases r with
  | val v H' =>
    obtain ⟨c, w', K', β', h1, h2, h3, h4⟩ := h
    rw [h1, Oper.uponIn_value]
    exact hv v H' (.inl rfl) c K' β' w' h2 h3 h4
  | skip H' =>
    obtain ⟨w', K', β', h1, h3, h4⟩ := h
    rw [h1, Oper.uponIn_skip]
    exact hv uv H' (.inr (.inl ⟨rfl, rfl⟩)) _ K' β' w' (vr_uv K' β') h3 h4
  | panic v H' =>
    obtain ⟨c, w', K', β', h1, h2, h3, h4⟩ := h
    rw [h1, Oper.uponIn_panic]
    exact hp v H' (.inl rfl) c K' β' w' h2 h3 h4
  | call f args =>
    obtain ⟨cargs, h1, h2⟩ := h
    obtain ⟨⟨r', H'⟩, hd⟩ := hs f args rfl
    rcases doCall_sound hcall hd hL hI h2 with ⟨c, w', g1, K', β', g2, g3, g4⟩ | ⟨g, gs, g1, g2⟩ | ⟨l, fn, tmps, asg, bo, g1, g2⟩
    · rw [h1, g1, Oper.uponIn_value]
      cases r' with
      | ret v => exact hv v H' (.inr (.inr ⟨f, args, rfl, hd⟩)) c K' β' w' g2 g3 g4
      | panic v => exact g2.elim
    · rw [h1, g1, Oper.uponIn_enter]
      refine ⟨fun h => Bool.noConfusion h, callsIn_fr (g2.mono ?_)⟩
      rintro en w' ⟨K', β', q2, q3, q4⟩
      cases en with
      | returned c =>
        cases r' with
        | ret v => exact hv v H' (.inr (.inr ⟨f, args, rfl, hd⟩)) c K' β' w' q2 q3 q4
        | panic v => exact q2.elim
      | panicked chain =>
        cases r' with
        | ret v => exact q2.elim
        | panic v =>
          obtain ⟨c, rfl, q2⟩ := q2
          exact hp v H' (.inr ⟨f, args, rfl, hd⟩) c K' β' w' q2 q3 q4
      | outgrown => cases r' <;> exact q2.elim
    · rw [h1, g1, Oper.uponIn_round]
      refine ⟨fun h => Bool.noConfusion h, roundIn_fr (g2.mono ?_)⟩
      rintro en w' ⟨K', β', q2, q3, q4⟩
      cases en with
      | returned c =>
        cases r' with
        | ret v => exact hv v H' (.inr (.inr ⟨f, args, rfl, hd⟩)) c K' β' w' q2 q3 q4
        | panic v => exact q2.elim
      | panicked chain =>
        cases r' with
        | ret v => exact q2.elim
        | panic v =>
          obtain ⟨c, rfl, q2⟩ := q2
          exact hp v H' (.inr ⟨f, args, rfl, hd⟩) c K' β' w' q2 q3 q4
      | outgrown => cases r' <;> exact q2.elim
theorem guard_sound {P : Program} {ops : Array Oper} {o : Oper} {ao : AO} (hc : ∃ ao', cOper P ops o = some ao' ∧ ao'.guard = ao.guard) {K : Kn} {β : Bi} {nt : Nat} {e : Env} {a : Act} (hE : ER K β nt e a) :
    (ao.guard = none → Region.wanted o (yielded ops a.tmps) = true) ∧
    (∀ t want, ao.guard = some (t, want) → (∀ b, e t = .bool b → Region.wanted o (yielded ops a.tmps) = (b == want)) ∧ (e t = .tuple [] → Region.wanted o (yielded ops a.tmps) = false)) := by
  obtain ⟨ao', hc, he⟩ := hc
  rw [← he]
  clear he
  unfold cOper at hc
  split at hc <;> cases hc
  rename_i op g hop hg
  cases hgo : o.guard with
  | none =>
    rw [hgo] at hg
    simp [cGuard] at hg; subst hg
    refine ⟨fun _ => by simp [Region.wanted, hgo], fun t want h => by cases h⟩
  | some jw =>
    obtain ⟨j, want⟩ := jw
    rw [hgo] at hg
    simp only [cGuard] at hg
    split at hg <;> cases hg
    rename_i d hd
    refine ⟨fun h => (by cases h), fun t want' h => ?_⟩
    cases h
    have hv := hE.val d
    refine ⟨fun b hb => ?_, fun hb => ?_⟩
    · rw [hb] at hv
      have : a.tmps[d]? = some (.bool b) := by
        cases hq : a.tmps[d]? with
        | none => rw [Array.getD_eq_getD_getElem?, hq] at hv; cases hv
        | some c => rw [Array.getD_eq_getD_getElem?, hq] at hv; cases hv; rfl
      have hy : yielded ops a.tmps j = some b := by simp only [yielded, hd, Option.bind_some, this]
      simp [Region.wanted, hgo, hy]
    · rw [hb] at hv
      have : yielded ops a.tmps j = none := by
        simp only [yielded, hd, Option.bind_some]
        cases hq : a.tmps[d]? with
        | none => rfl
        | some c =>
          rw [Array.getD_eq_getD_getElem?, hq] at hv
          cases hv; rfl
      simp [Region.wanted, hgo, this]
theorem cOper_op {P : Program} {ops : Array Oper} {o : Oper} {ao : AO} (hc : cOper P ops o = some ao) : cOp P o = some ao.op ∧ ao.dst = o.dst := by
  unfold cOper at hc
  split at hc <;> cases hc
  exact ⟨‹_›, rfl⟩
theorem cOperL_op {P : Program} {ops : Array Oper} {o : Oper} {ao : AO} (hc : cOperL P ops o = some ao) : OpRel P o ao.op ∧ ao.dst = o.dst ∧ ∃ ao', cOper P ops o = some ao' ∧ ao'.guard = ao.guard ∧ ao'.after = ao.after := by
  obtain ⟨a, ha, rfl⟩ := Option.map_eq_some_iff.1 hc
  obtain ⟨h1, h2⟩ := cOper_op ha
  unfold lstO
  split
  · rename_i h3 h4
    exact ⟨.inr ⟨_, _, _, _, _, _, _, h3, by rw [h1, h4], rfl⟩, h2, a, ha, rfl, rfl⟩
  · exact ⟨.inl h1, h2, a, ha, rfl, rfl⟩
def Made (P : Program) (ops : Array Oper) (o : Oper) (ao : AO) : Prop := cOp P o = some ao.op ∧ ao.dst = o.dst ∧ ∃ ao', cOper P ops o = some ao' ∧ ao'.guard = ao.guard
theorem made_bare {P : Program} {ops : Array Oper} {o : Oper} {ao : AO} (hc : cOper P ops o = some ao) : Made P ops o ao.bare := ⟨(cOper_op hc).1, (cOper_op hc).2, ao, hc, rfl⟩
def TlQ (ro : Option Nat) (bud : Nat) (P : Program) (ops : Array Oper) (Q : Exit → Act → World → Prop) (tl : List Nat) : Exit → Act → World → Prop
  | .normal, a, w => wpOpsIn (Fr ro) bud P ops Q tl a w
  | e, a, w => Q e a w
theorem runOps_sound {ro : Option Nat} {bud : Nat} {P : Program} {L : LpT} {call : CallT} (hcall : CallOk P L call) {inl : FuncId → Bool} {ops : Array Oper} {nt : Nat} {x : X} {e' : Env} {H' : List Ob} {Q : Exit → Act → World → Prop} :
    ∀ (l : List AO) (i : Nat), (∀ (j : Nat) (ao : AO), l[j]? = some ao → ∃ o, ops[i + j]? = some o ∧ Made P ops o ao) → (∀ ao ∈ l, ∀ t, ao.dst = some t → t < nt) →
    ∀ (e : Env) (H : List Ob), runOps call inl l e H = some (x, e', H') → ∀ (K : Kn) (β : Bi) (a : Act) (w : World), K.lp = L → Inv K β H w → ER K β nt e a →
      ∀ (tl : List Nat), (∀ ex a' w', Post K β H w nt x e' H' a.defers ex a' w' → TlQ ro bud P ops Q tl ex a' w') → wpOpsIn (Fr ro) bud P ops Q (List.range' i l.length ++ tl) a w := by
  intro l
  induction l with
  | nil =>
    intro i _ _ e H h K β a w hL hI hE tl hQ
    simp [runOps] at h
    obtain ⟨rfl, rfl, rfl⟩ := h
    exact hQ .normal _ _ ⟨K, β, trivial, hE, hI, .refl K β H w, rfl⟩
  | cons ao l ih =>
    intro i hops hdst e H h K β a w hL hI hE tl hQ
    obtain ⟨o, ho, hco⟩ := hops 0 ao (by simp)
    rw [Nat.add_zero] at ho
    obtain ⟨hop, hd, hgd⟩ := hco
    have hops' : ∀ (j : Nat) (ao' : AO), l[j]? = some ao' → ∃ o, ops[i + 1 + j]? = some o ∧ Made P ops o ao' := fun j ao' hj => by
      have := hops (j + 1) ao' (by simpa using hj)
      rwa [show i + 1 + j = i + (j + 1) from by omega]
    have hdst' : ∀ ao' ∈ l, ∀ t, ao'.dst = some t → t < nt := fun ao' h' => hdst ao' (by simp [h'])
    have hdo : ∀ t, o.dst = some t → t < nt := by rw [← hd]; exact hdst ao (by simp)
    have hrange : List.range' i (ao :: l).length = i :: List.range' (i + 1) l.length := by simp [List.range'_succ]
    rw [hrange, List.cons_append, wpOpsIn_cons]
    unfold wpOpIn
    simp only [ho]
    -- behind a value
    have step : ∀ (v : V) (H1 : List Ob), runOps call inl l (putE e ao.dst v) H1 = some (x, e', H') → ∀ c K1 β1 w1, VR K1 β1 v c → Inv K1 β1 H1 w1 → Ev K β H w K1 β1 H1 w1 →
        wpOpsIn (Fr ro) bud P ops Q (List.range' (i + 1) l.length ++ tl) (a.put o.dst c) w1 := by
      intro v H1 hrun c K1 β1 w1 hv i1 e1
      refine ih (i + 1) hops' hdst' _ _ hrun K1 β1 _ w1 (e1.k.2.2.trans hL) i1 ?_ tl ?_
      · rw [hd]; exact (hE.mono e1.k e1.b).put hdo hv
      · rintro ex a' w' ⟨K2, β2, q1, q2, q3, q4, q5⟩
        exact hQ _ _ _ ⟨K2, β2, q1, q2, q3, e1.trans q4, by rw [q5, put_defers]⟩
    have skip : runOps call inl l (putE e ao.dst uv) H = some (x, e', H') → wpOpsIn (Fr ro) bud P ops Q (List.range' (i + 1) l.length ++ tl) (a.put o.dst Go.undef) w :=
      fun hrun => step uv H hrun _ K β w (vr_uv K β) hI (.refl K β H w)
    -- the operation carried out
    have go : (match evOp (evO e) H ao.op with
      | none => none
      | some (.val v H') => runOps call inl l (putE e ao.dst v) H'
      | some (.skip H') => runOps call inl l (putE e ao.dst uv) H'
      | some (.panic v H') => some (.panic v, e, H')
      | some (.call f args) => match doCall call inl f args H with
        | none => none
        | some (.ret v, H') => runOps call inl l (putE e ao.dst v) H'
        | some (.panic v, H') => some (.panic v, e, H')) = some (x, e', H') →
        o.wpIn (Fr ro) bud P a w (wpOpsIn (Fr ro) bud P ops Q (List.range' (i + 1) l.length ++ tl)) Q := by
      intro hgo
      cases hr : evOp (evO e) H ao.op with
      | none => rw [hr] at hgo; cases hgo
      | some r =>
        rw [hr] at hgo
        refine op_wp hcall (inl := inl) (.inl hop) hr hL hI hE ?_ ?_ ?_
        · rintro v H1 (rfl | ⟨rfl, rfl⟩ | ⟨f, args, rfl, hdc⟩) c K1 β1 w1 hv i1 e1
          · exact step v H1 hgo c K1 β1 w1 hv i1 e1
          · exact step uv H1 hgo c K1 β1 w1 hv i1 e1
          · simp only [hdc] at hgo
            exact step v H1 hgo c K1 β1 w1 hv i1 e1
        · rintro v H1 (rfl | ⟨f, args, rfl, hdc⟩) c K1 β1 w1 hv i1 e1
          · cases hgo
            exact hQ (.panic _) _ _ ⟨K1, β1, ⟨c, rfl, hv⟩, hE.mono e1.k e1.b, i1, e1, rfl⟩
          · simp only [hdc] at hgo
            cases hgo
            exact hQ (.panic _) _ _ ⟨K1, β1, ⟨c, rfl, hv⟩, hE.mono e1.k e1.b, i1, e1, rfl⟩
        · rintro f args rfl
          cases hdc : doCall call inl f args H with
          | none => simp only [hdc] at hgo; cases hgo
          | some y => exact ⟨y, rfl⟩
    obtain ⟨g1, g2⟩ := guard_sound hgd hE
    simp only [runOps] at h
    cases hg : ao.guard with
    | none =>
      rw [hg] at h
      rw [if_pos (g1 hg)]
      exact go h
    | some tw =>
      obtain ⟨t, want⟩ := tw
      rw [hg] at h
      obtain ⟨g3, g4⟩ := g2 t want hg
      simp only [] at h
      split at h
      · rename_i b hb
        split at h
        · rename_i hbw
          rw [g3 b hb, if_pos (by simpa using hbw)]
          exact go h
        · rename_i hbw
          rw [g3 b hb, if_neg (by simpa using hbw)]
          exact ⟨fun _ _ => trivial, skip h⟩
      · rename_i hb
        rw [g4 hb, if_neg (by simp)]
        exact ⟨fun _ _ => trivial, skip h⟩
      · cases h
end Fz
namespace Fz
open Go
theorem veq_refl_aux : (∀ v : V, veq v v = true) ∧ ∀ l : List V, veqL l l = true := by
  constructor
  · intro v
    induction v using V.rec (motive_2 := fun l => veqL l l = true) with
    | nil => rfl
    | cons a l h1 h2 => simp [veqL, h1, h2]
    | _ => simp_all [veq]
  · intro l
    induction l using V.rec_1 (motive_1 := fun v => veq v v = true) with
    | nil => rfl
    | cons a l h1 h2 => simp [veqL, h1, h2]
    | _ => simp_all [veq]
theorem veq_refl (v : V) : veq v v = true := veq_refl_aux.1 v
mutual
theorem veq_eq : ∀ (a b : V), veq a b = true → a = b
  | .bool a, b, h => by cases b <;> simp [veq] at h <;> simp_all
  | .int j a, b, h => by cases b <;> simp [veq] at h <;> simp_all
  | .float j a, b, h => by cases b <;> simp [veq] at h <;> simp_all
  | .fnan j, b, h => by cases b <;> simp [veq] at h <;> simp_all
  | .str a, b, h => by
    cases b <;> simp [veq] at h
    exact congrArg V.str (by cases a; simp_all)
  | .nilp, b, h => by cases b <;> simp [veq] at h <;> simp_all
  | .ptr i a, b, h => by cases b <;> simp [veq] at h <;> simp_all
  | .ref a, b, h => by
    cases b <;> simp [veq] at h
    rw [veqL_eq a _ h]
  | .list a c, b, h => by
    cases b <;> simp [veq] at h
    rw [veqL_eq a _ h.2, h.1]
  | .own a b c d, e, h => by cases e <;> simp [veq] at h <;> simp_all
  | .agg a, b, h => by
    cases b <;> simp [veq] at h
    rw [veqL_eq a _ h]
  | .tuple a, b, h => by
    cases b <;> simp [veq] at h
    rw [veqL_eq a _ h]
  | .fn f a b, c, h => by
    cases c <;> simp [veq] at h
    rw [veqL_eq a _ h.1.2, veqL_eq b _ h.2, h.1.1]
  | .nilfn, b, h => by cases b <;> simp [veq] at h <;> simp_all
  | .iface t v, b, h => by
    cases b <;> simp [veq] at h
    rw [veq_eq v _ h.2, h.1]
  | .niliface, b, h => by cases b <;> simp [veq] at h <;> simp_all
  | .nilmap, b, h => by cases b <;> simp [veq] at h <;> simp_all
  | .mref i, b, h => by cases b <;> simp [veq] at h <;> simp_all
  | .map a b, c, h => by
    cases c <;> simp [veq] at h
    rw [veqL_eq a _ h.1, veqL_eq b _ h.2]
  | .any, b, h => by cases b <;> simp [veq] at h <;> simp_all
  | .yld i, b, h => by cases b <;> simp [veq] at h <;> simp_all
  | .anyb, b, h => by cases b <;> simp [veq] at h <;> simp_all
theorem veqL_eq : ∀ (a b : List V), veqL a b = true → a = b
  | [], b, h => by cases b <;> simp [veqL] at h <;> simp_all
  | x :: a, b, h => by
    cases b <;> simp [veqL] at h
    rw [veq_eq x _ h.1, veqL_eq a _ h.2]
end
mutual
theorem ground_refs : ∀ (v : V), ground v = true → refs v = []
  | .bool _, _ | .int _ _, _ | .float _ _, _ | .fnan _, _ | .str _, _ | .nilp, _ | .nilfn, _ | .niliface, _ | .nilmap, _ | .anyb, _ => rfl
  | .ptr _ _, h | .own _ _ _ _, h | .mref _, h | .any, h | .yld _, h => by simp [ground] at h
  | .ref l, h => by simp only [refs]; exact groundL_refs l (by simpa [ground] using h)
  | .list l _, h => by simp only [refs]; exact groundL_refs l (by simpa [ground] using h)
  | .agg l, h => by simp only [refs]; exact groundL_refs l (by simpa [ground] using h)
  | .tuple l, h => by simp only [refs]; exact groundL_refs l (by simpa [ground] using h)
  | .fn _ a b, h => by
    simp [ground] at h
    simp only [refs, groundL_refs a h.1, groundL_refs b h.2, List.append_nil]
  | .iface _ v, h => by simp only [refs]; exact ground_refs v (by simpa [ground] using h)
  | .map a b, h => by
    simp [ground] at h
    simp only [refs, groundL_refs a h.1, groundL_refs b h.2, List.append_nil]
theorem groundL_refs : ∀ (l : List V), groundL l = true → refsL l = []
  | [], _ => rfl
  | v :: l, h => by
    simp [groundL] at h
    simp only [refsL, ground_refs v h.1, groundL_refs l h.2, List.append_nil]
end
def noB : Bi := fun _ => none
theorem ground_VR {K K' : Kn} {β β' : Bi} (hK : K.le K') {v : V} {c : Value} (h : VR K β v c) (hg : ground v = true) : VR K' β' v c := by
  have := h.ren (g := fun i => i) (β' := β') hK (by rw [ground_refs v hg]; simp)
  rwa [ren_id] at this
theorem ground_LR {K K' : Kn} {β β' : Bi} (hK : K.le K') {l : List V} {cs : List Value} (h : LR K β l cs) (hg : groundL l = true) : LR K' β' l cs := by
  rw [groundL_eq] at hg
  exact ⟨h.1, fun i v hv => ground_VR hK (h.2 i v hv) (List.all_eq_true.1 hg v (List.mem_of_getElem? hv))⟩
mutual
theorem listFree_VR {K K' : Kn} {β β' : Bi} : ∀ (v : V) (c : Value), listFree v = true → VR K β v c → VR K' β' v c
  | .bool _, c, _, h => by cases h; exact .bool _
  | .int _ _, c, _, h => by cases h; exact .int _ _
  | .float _ _, c, _, h => by cases h; exact .float _ _
  | .fnan _, c, _, h => by cases h; exact .fnan _ _ ‹_›
  | .str _, c, _, h => by cases h; exact .str _
  | .nilp, c, _, h => by cases h; exact .nilp
  | .nilfn, c, _, h => by cases h; exact .nilfn
  | .niliface, c, _, h => by cases h; exact .niliface
  | .nilmap, c, _, h => by cases h; exact .nilmap
  | .list [] b, c, _, h => by
    cases h with
    | lnil hc => exact .lnil hc
    | list hb hu hn hl hc hcl h => exact .lnil hcl
  | .list (_ :: _) b, c, hf, h => by simp [listFree] at hf
  | .agg l, c, hf, h => by
    cases h with
    | agg hl h => exact .agg hl fun i v hv => listFreeL_VR l (by simpa [listFree] using hf) i v hv _ (h i v hv)
  | .tuple l, c, hf, h => by
    cases h with
    | tuple hl h => exact .tuple hl fun i v hv => listFreeL_VR l (by simpa [listFree] using hf) i v hv _ (h i v hv)
  | .ptr _ _, c, hf, _ | .own _ _ _ _, c, hf, _ | .mref _, c, hf, _ | .any, c, hf, _ | .ref _, c, hf, _ | .fn _ _ _, c, hf, _ | .iface _ _, c, hf, _ | .map _ _, c, hf, _ | .yld _, c, hf, _ | .anyb, c, hf, _ => by simp [listFree] at hf
theorem listFreeL_VR {K K' : Kn} {β β' : Bi} : ∀ (l : List V), listFreeL l = true → ∀ (i : Nat) (v : V), l[i]? = some v → ∀ (c : Value), VR K β v c → VR K' β' v c
  | [], _, i, v, hv, _, _ => by simp at hv
  | u :: l, hf, 0, v, hv, c, h => by
    simp [listFreeL] at hf
    simp at hv; subst hv
    exact listFree_VR u c hf.1 h
  | u :: l, hf, i + 1, v, hv, c, h => by
    simp [listFreeL] at hf
    exact listFreeL_VR l hf.2 i v (by simpa using hv) c h
end
def allK (K : Kn) (w : World) : Kn := ⟨fun b => match K.fixed b with | some o => some o | none => w.heap[b]?, fun b => match w.heap[b]? with | some (.cells cs _ _) => some cs.size | _ => none, K.lp, fun g l h => by
  obtain ⟨cs, e, fr, h1, h2⟩ := K.gl g l h
  exact ⟨cs, e, fr, by dsimp only; rw [h1], h2⟩⟩
theorem allK_eq {K : Kn} {β : Bi} {H : List Ob} {w : World} (hI : Inv K β H w) (b : Nat) : (allK K w).fixed b = w.heap[b]? := by
  show (match K.fixed b with | some o => some o | none => w.heap[b]?) = _
  cases h : K.fixed b with
  | none => rfl
  | some o => exact (hI.fixed b o h).symm
theorem allK_le {K : Kn} {β : Bi} {H : List Ob} {w : World} (hI : Inv K β H w) : K.le (allK K w) := by
  refine ⟨fun b o h => by rw [allK_eq hI]; exact hI.fixed b o h, fun b n h => ?_, rfl⟩
  obtain ⟨cs, e, fr, h1, h2⟩ := hI.size b n h
  show (match w.heap[b]? with | some (.cells cs _ _) => some cs.size | _ => none) = some n
  rw [h1]; simp [h2]
theorem allK_inv {K : Kn} {β : Bi} {H : List Ob} {w : World} (hI : Inv K β H w) : Inv (allK K w) noB [] w := by
  refine ⟨fun b o h => by rw [allK_eq hI] at h; exact h, fun b z h => ?_, fun id b h => (by cases h), fun id o h => (by simp at h), fun i j b h => ?_⟩
  · have h : (match w.heap[b]? with | some (.cells cs _ _) => some cs.size | _ => none) = some z := h
    split at h
    · rename_i cs e fr hh; cases h; exact ⟨cs, e, fr, hh, rfl⟩
    · cases h
  · obtain ⟨o, ho, _⟩ := h; simp at ho
theorem emp_inv {K : Kn} {β : Bi} {H : List Ob} {w : World} (hI : Inv K β H w) : Inv K noB [] w :=
  ⟨hI.fixed, hI.size, fun id b h => (by cases h), fun id o h => (by simp at h), fun i j b h => (by obtain ⟨o, ho, _⟩ := h; simp at ho)⟩
theorem no_live (β : Bi) (b : Nat) : ¬ liveB [] β b := by rintro ⟨i, ⟨o, ho, _⟩, _⟩; simp at ho
theorem quiet_inv {K K' : Kn} {β β' : Bi} {H : List Ob} {w w' : World} (hI : Inv K β H w) (hI' : Inv K' β' [] w') (hE : Ev K noB [] w K' β' [] w') : Inv K' β H w' ∧ Ev K β H w K' β H w' := by
  have hfr : ∀ b, b < w.heap.size → w'.heap[b]? = w.heap[b]? := fun b hb => hE.frame b hb (no_live _ _)
  have hfix : ∀ b o, K'.fixed b = some o → K.fixed b = some o ∨ w.heap.size ≤ b := fun b o h => by
    rcases hE.fix b o h with h | h | h
    · exact .inl h
    · exact absurd h (no_live _ _)
    · exact .inr h
  refine ⟨⟨hI'.fixed, hI'.size, hI.dom, fun id o ho => ?_, hI.inj⟩, ⟨hE.k, fun _ _ h => h, Nat.le_refl _, fun x hx _ => hfr x hx, hE.size, hE.os, hE.tape, hE.output, fun _ h => .inl h, fun x o h => ?_, fun _ _ => rfl⟩⟩
  · refine (hI.obj id o ho).mono hE.k (fun _ _ h => h) fun b hl hb hf => ?_
    obtain ⟨b', q1, q2, _⟩ := (hI.obj id o ho).lt hl
    rw [hb] at q1; cases q1
    refine ⟨?_, hfr b q2⟩
    cases h3 : K'.fixed b with
    | none => rfl
    | some x =>
      rcases hfix b x h3 with h | h
      · rw [hf] at h; cases h
      · omega
  · rcases hfix x o h with h | h
    · exact .inl h
    · exact .inr (.inr h)
theorem lent_inv {K K' : Kn} {β β' : Bi} {H : List Ob} {w w' : World} (hI : Inv K β H w) (hE : Ev (allK K w) noB [] w K' β' [] w') : Inv K β H w' ∧ Ev K β H w K β H w' := by
  have hfr : ∀ b, b < w.heap.size → w'.heap[b]? = w.heap[b]? := fun b hb => hE.frame b hb (no_live _ _)
  refine ⟨⟨fun b o h => ?_, fun b z h => ?_, hI.dom, fun id o ho => ?_, hI.inj⟩, ⟨K.le_refl, fun _ _ h => h, Nat.le_refl _, fun x hx _ => hfr x hx, hE.size, hE.os, hE.tape, hE.output, fun _ h => .inl h, fun _ _ h => .inl h, fun _ _ => rfl⟩⟩
  · have := hI.fixed b o h; rw [hfr b (heap_lt this)]; exact this
  · obtain ⟨cs, e, fr, h1, h2⟩ := hI.size b z h
    exact ⟨cs, e, fr, by rw [hfr b (heap_lt h1)]; exact h1, h2⟩
  · refine (hI.obj id o ho).mono K.le_refl (fun _ _ h => h) fun b hl hb hf => ⟨hf, ?_⟩
    obtain ⟨b', q1, q2, _⟩ := (hI.obj id o ho).lt hl
    rw [hb] at q1; cases q1
    exact hfr b q2
theorem mapOpt_LR {K K' : Kn} {β β' : Bi} {f : V → Option V} (hf : ∀ v c v', VR K β v c → f v = some v' → VR K' β' v' c) : ∀ {l : List V} {x : List V} {cs : List Value}, mapOpt f l = some x → LR K β l cs → LR K' β' x cs
  | [], x, cs, h, hl => by
    simp [mapOpt] at h; subst h
    rw [List.eq_nil_of_length_eq_zero hl.1.symm]; exact .nil _ _
  | v :: l, x, cs, h, hl => by
    obtain ⟨c, r, rfl, h1, h2⟩ := hl.head
    simp only [mapOpt] at h
    split at h <;> cases h
    exact .cons (hf _ _ _ h1 ‹_›) (mapOpt_LR hf ‹_› h2)
theorem lendV_sound {K : Kn} {β : Bi} {H : List Ob} {w : World} (hI : Inv K β H w) : ∀ (k : Nat) (v : V) (c : Value) (v' : V), VR K β v c → lendV H k v = some v' → VR (allK K w) β v' c := by
  intro k
  induction k with
  | zero => intro v c v' _ h; simp [lendV] at h
  | succ k ih =>
    intro v c v' hv h
    unfold lendV at h
    split at h
    · rename_i id off len n
      split at h
      · cases h
      · rename_i hn0
        split at h
        · rename_i l hp
          split at h
          · rename_i x hx
            split at h <;> cases h
            rename_i hleaf
            cases hv with
            | own hβ hz hl hz' hnn =>
              rename_i b cap z
              have fin : ∀ {cs : Array Value} {e : TypeId} {fr : Nat × Nat} {m : List V}, w.heap[b]? = some (.cells cs e fr) → CsR K β m cs → off + len * n ≤ m.length → l = (m.drop off).take (len * n) →
                  VR (allK K w) β (.list (chunk n len x) false) (.slice (some ⟨b, off, none⟩) len cap) := by
                intro cs e fr m hw hcr hle hlm
                have hs := seen_of (w := w) (b := b) (o := off) (n := len * n) (k := 0) hw (by have := hcr.1; omega) (by simpa using hcr.2) off (by omega) hle
                rw [← hlm] at hs
                exact list_of (show (allK K w).fixed b = some (.cells cs e fr) from by rw [allK_eq hI]; exact hw) (by have := hcr.1; omega) hn0 hl (mapOpt_LR ih hx hs.rel) hleaf
              simp only [peek] at hp
              cases ho : H[id]? with
              | none => rw [ho] at hp; cases hp
              | some ob =>
                have hob := hI.obj id ob ho
                cases ob <;> simp only [ho] at hp <;> try (cases hp; done)
                · obtain ⟨b', cs, e, g1, g2, g3, g4, g5⟩ := hob
                  rw [hβ] at g1; cases g1
                  split at hp <;> cases hp
                  exact fin g4 g5 ‹_› rfl
                · obtain ⟨b', cs, e, fr, g1, g2, g3, g5⟩ := hob
                  rw [hβ] at g1; cases g1
                  split at hp <;> cases hp
                  exact fin (hI.fixed _ _ g2) g5 ‹_› rfl
          · cases h
        · cases h
    · cases hv with
      | agg hl hc =>
        obtain ⟨x, hx, rfl⟩ := Option.map_eq_some_iff.1 h
        have := mapOpt_LR ih hx (LR.of_arr hl hc)
        exact .agg this.to_arr.1 this.to_arr.2
    · cases hv with
      | tuple hl hc =>
        obtain ⟨x, hx, rfl⟩ := Option.map_eq_some_iff.1 h
        have := mapOpt_LR ih hx (LR.of_arr hl hc)
        exact .tuple this.to_arr.1 this.to_arr.2
    · cases h
      exact hv.mono (allK_le hI) fun _ _ h => h
theorem lend_ground (H : List Ob) : ∀ (k : Nat) (v v' : V), ground v = true → lendV H k v = some v' → v' = v := by
  intro k
  induction k with
  | zero => intro v v' _ h; simp [lendV] at h
  | succ k ih =>
    have hm : ∀ (l x : List V), l.all ground = true → mapOpt (lendV H k) l = some x → x = l := by
      intro l
      induction l with
      | nil => intro x _ h; simp [mapOpt] at h; exact h
      | cons v l ihl =>
        intro x hg h
        simp only [List.all_cons, Bool.and_eq_true] at hg
        simp only [mapOpt] at h
        split at h <;> cases h
        rename_i a b ha hb
        rw [ih _ _ hg.1 ha, ihl _ hg.2 hb]
    intro v v' hg h
    unfold lendV at h
    split at h
    · simp [ground] at hg
    · obtain ⟨x, hx, rfl⟩ := Option.map_eq_some_iff.1 h
      rw [hm _ _ (by rw [← groundL_eq]; simpa [ground] using hg) hx]
    · obtain ⟨x, hx, rfl⟩ := Option.map_eq_some_iff.1 h
      rw [hm _ _ (by rw [← groundL_eq]; simpa [ground] using hg) hx]
    · cases h; rfl
end Fz
namespace Fz
open Go
def wInt (v : V) (K : IntKind → Int → Prop) : Prop := match v with
  | .int k n => K k n
  | _ => False
def wBool (v : V) (P N : Prop) : Prop := match v with
  | .bool b => if b = true then P else N
  | _ => False
def wNat (o : Option V) (d : Nat) (K : Nat → Prop) : Prop := match o with
  | none => K d
  | some v => wInt v fun _ i => 0 ≤ i ∧ K i.toNat
def wPeek (H : List Ob) (n : Nat) (v : V) (K : List V → Prop) : Prop := match v with
  | .ref l => n ≤ l.length ∧ K (l.take n)
  | .ptr id off => ∃ l, (H[id]? = some (.live l) ∨ H[id]? = some (.fixed l)) ∧ off + n ≤ l.length ∧ K ((l.drop off).take n)
  | _ => False
theorem wPeek_ok {H : List Ob} {n : Nat} {v : V} {K : List V → Prop} (h : wPeek H n v K) : ∃ l, peek H n v = some l ∧ K l := by
  unfold wPeek at h
  split at h
  · exact ⟨_, by simp only [peek, if_pos h.1], h.2⟩
  · obtain ⟨l, h1, h2, h3⟩ := h
    rcases h1 with h1 | h1
    · exact ⟨_, by simp only [peek, h1, if_pos h2], h3⟩
    · exact ⟨_, by simp only [peek, h1, if_pos h2], h3⟩
  · cases h
def wElems (H : List Ob) (n : Nat) (v : V) (K : List V → Nat → Prop) : Prop := match v with
  | .list l _ => uni n l = true ∧ K (flat l) l.length
  | .own id off len m => m = n ∧ wPeek H (len * n) (.ptr id off) fun x => K x len
  | .str s => n = 1 ∧ K (s.data.toList.map fun b => V.int .u8 b.toNat) s.size
  | _ => False
theorem wElems_ok {H : List Ob} {n : Nat} {v : V} {K : List V → Nat → Prop} (h : wElems H n v K) : ∃ x k, elems H n v = some (x, k) ∧ K x k := by
  unfold wElems at h
  split at h
  · exact ⟨_, _, by simp only [elems, if_pos h.1], h.2⟩
  · obtain ⟨rfl, h⟩ := h
    obtain ⟨l, h1, h2⟩ := wPeek_ok h
    exact ⟨_, _, by simp only [elems, if_true, h1, Option.map_some], h2⟩
  · obtain ⟨rfl, h⟩ := h
    exact ⟨_, _, by simp only [elems, if_true], h⟩
  · cases h
def wFill (cells : List V) (K : List V → Prop) : List (Nat × Nat × V) → Prop
  | [] => K cells
  | (off, n, v) :: r => ((cellsOf v).length = n ∧ off + n ≤ cells.length ∧ isAny v = false) ∧ wFill (splice cells off (cellsOf v)) K r
theorem wFill_ok {K : List V → Prop} : ∀ {ps : List (Nat × Nat × V)} {cells : List V}, wFill cells K ps → ∃ l, fillV cells ps = some l ∧ K l
  | [], cells, h => ⟨cells, rfl, h⟩
  | (off, n, v) :: r, cells, h => by
    obtain ⟨l, h1, h2⟩ := wFill_ok h.2
    exact ⟨l, by rw [fillV, if_pos h.1]; exact h1, h2⟩
theorem wNat_ok {o : Option V} {d : Nat} {K : Nat → Prop} (h : wNat o d K) : ∃ n, natV o d = some n ∧ K n := by
  cases o with
  | none => exact ⟨d, rfl, h⟩
  | some v =>
    cases v with
    | int k i => exact ⟨i.toNat, by simp only [natV, if_pos h.1], h.2⟩
    | _ => cases h
def wSlice (H : List Ob) (k : SlK) (x : V) (lo hi mx : Option V) (K : V → Prop) : Prop :=
  (mx.isSome && hi.isNone) = false ∧
  match k, x with
  | .str, .str s => mx.isSome = false ∧ wNat hi s.size fun h => wNat lo 0 fun l => (l ≤ h ∧ h ≤ s.size) ∧ K (.str (s.extract l h))
  | .sl n, .list e c => uni n e = true ∧ wNat mx e.length fun m => wNat hi e.length fun h => wNat lo 0 fun l =>
      (l ≤ h ∧ h ≤ m ∧ m ≤ e.length) ∧ K (.list ((e.drop l).take (h - l)) (if mx.isSome then m == h else c && h == e.length))
  | .sl n, .own id off len n' => wNat mx len fun m => wNat hi len fun h => wNat lo 0 fun l => (n = n' ∧ l ≤ h ∧ h ≤ m ∧ m ≤ len) ∧
      K (if h = l ∧ (l ≠ 0 ∨ mx.isSome = true) then .list [] (mx.isSome && m == h) else .own id (off + l * n) (h - l) n)
  | .arr alen n, .ptr id off => wNat mx alen fun m => wNat hi alen fun h => wNat lo 0 fun l => wPeek H (alen * n) (.ptr id off) fun _ => (l ≤ h ∧ h ≤ m ∧ m ≤ alen) ∧
      K (if h = l then .list [] (m == h) else .own id (off + l * n) (h - l) n)
  | _, _ => False
theorem wSlice_ok {H : List Ob} {k : SlK} {x : V} {lo hi mx : Option V} {K : V → Prop} (h : wSlice H k x lo hi mx K) : ∃ v, sliceV H k x lo hi mx = some v ∧ K v := by
  unfold wSlice at h
  obtain ⟨h0, h⟩ := h
  unfold sliceV
  rw [if_neg (by rw [h0]; exact Bool.false_ne_true)]
  split at h
  · obtain ⟨h1, h⟩ := h
    obtain ⟨a, ha, h⟩ := wNat_ok h
    obtain ⟨b, hb, h⟩ := wNat_ok h
    exact ⟨_, by simp only [h1, ha, hb, if_pos h.1]; rfl, h.2⟩
  · obtain ⟨h1, h⟩ := h
    obtain ⟨m, hm, h⟩ := wNat_ok h
    obtain ⟨a, ha, h⟩ := wNat_ok h
    obtain ⟨b, hb, h⟩ := wNat_ok h
    exact ⟨_, by simp only [h1, hm, ha, hb, if_pos h.1]; rfl, h.2⟩
  · obtain ⟨m, hm, h⟩ := wNat_ok h
    obtain ⟨a, ha, h⟩ := wNat_ok h
    obtain ⟨b, hb, h⟩ := wNat_ok h
    exact ⟨_, by simp only [hm, ha, hb, if_pos h.1], h.2⟩
  · obtain ⟨m, hm, h⟩ := wNat_ok h
    obtain ⟨a, ha, h⟩ := wNat_ok h
    obtain ⟨b, hb, h⟩ := wNat_ok h
    obtain ⟨l, hl, h⟩ := wPeek_ok h
    exact ⟨_, by simp only [hm, ha, hb, hl, if_pos h.1], h.2⟩
  · cases h
def wAppend (H : List Ob) (n bytes : Nat) (s : V) (xs : List V) (k : Nat) (Q : V → List Ob → Prop) : Prop := match s with
  | .list l c => if k = 0 then Q s H else (c = true ∧ uni n l = true ∧ xs.length = k * n ∧ capOk (l.length + k) bytes = true) ∧
      Q (.own H.length 0 (l.length + k) n) (H ++ [.live (flat l ++ xs)])
  | .own id off len m => off = 0 ∧ if k = 0 then Q s H else ∃ l, H[id]? = some (.live l) ∧ (m = n ∧ len * n ≤ l.length ∧ xs.all storable = true ∧ capOk (len + k) bytes = true) ∧
      Q (.own H.length 0 (len + k) n) (H.set id .dead ++ [.live (l.take (len * n) ++ xs)])
  | _ => False
theorem wAppend_ok {H : List Ob} {n bytes : Nat} {s : V} {xs : List V} {k : Nat} {Q : V → List Ob → Prop} (h : wAppend H n bytes s xs k Q) :
    ∃ v H', appendV H n bytes s xs k = some (v, H') ∧ Q v H' := by
  unfold wAppend at h
  unfold appendV
  split at h
  · split at h
    · rename_i hk; exact ⟨_, _, by simp only [if_pos hk], h⟩
    · rename_i hk
      obtain ⟨⟨h1, h2, h3, h4⟩, h5⟩ := h
      exact ⟨_, _, by simp only [if_neg hk, h1, h2, h4, h3, beq_self_eq_true, Bool.and_self, if_true], h5⟩
  · obtain ⟨rfl, h⟩ := h
    split at h
    · rename_i hk; exact ⟨_, _, by simp only [if_pos hk], h⟩
    · rename_i hk
      obtain ⟨l, h1, h2, h3⟩ := h
      exact ⟨_, _, by simp only [if_neg hk, h1, if_pos h2], h3⟩
  · cases h
def bytesV (l : List V) : ByteArray := ⟨(l.map fun v => match v with | .int _ n => n.toNat.toUInt8 | _ => 0).toArray⟩
def allU8 (l : List V) : Bool := l.all (fun v => match v with | .int .u8 n => decide (0 ≤ n) && decide (n < 256) | _ => false)
def wBin (op : BinOp) (ek : EqK) (x y : V) (K : V → Prop) : Prop := ∃ v, binV op ek x y = some v ∧ K v
def wUn (op : UnOp) (x : V) (K : V → Prop) : Prop := ∃ v, unV op x = some v ∧ K v
def wPur (k : PK) (l : List V) (K : V → Prop) : Prop := ∃ v, purV k l = some v ∧ K v
def wRd (H : List Ob) (k : RK) (l : List V) (K : V → Prop) : Prop := ∃ v, rdV H k l = some v ∧ K v
def wMem (H : List Ob) (k : MK) (l : List V) (Q : V → List Ob → Prop) : Prop := ∃ v H', (memV H k l = some (.val v H') ∨ memV H k l = some (.skip H') ∧ v = uv) ∧ Q v H'
def wOp (ρ : Opd → V) (H : List Ob) (Q : V → List Ob → Prop) : AOp → Prop
  | .mov x => Q (ρ x) H
  | .pick c a b => wBool (ρ c) (Q (ρ a) H) (Q (ρ b) H)
  | .alloc zero => Q (.ptr H.length 0) (H ++ [.live zero])
  | .box x => isAny (ρ x) = false ∧ Q (.ptr H.length 0) (H ++ [.live (cellsOf (ρ x))])
  | .build zero parts => wFill zero (fun l => Q (.agg l) H) (parts.map fun p => (p.1, p.2.1, ρ p.2.2))
  | .buildSlice n len zero parts => wFill (zeros zero len) (fun cells => if len = 0 then Q (.list [] true) H else Q (.own H.length 0 len n) (H ++ [.live cells]))
      (parts.map fun p => (p.1, p.2.1, ρ p.2.2))
  | .load agg n x => wPeek H n (ρ x) fun l => if agg = true then Q (.agg l) H else ∃ v, l = [v] ∧ Q v H
  | .store n a x => match ρ a with
    | .ptr id off => ∃ l, H[id]? = some (.live l) ∧ ((cellsOf (ρ x)).length = n ∧ off + n ≤ l.length ∧ (cellsOf (ρ x)).all storable = true) ∧
        Q uv (H.set id (.live (splice l off (cellsOf (ρ x)))))
    | _ => False
  | .nilCheck x => match ρ x with
    | .ptr i o => Q (.ptr i o) H
    | .ref l => Q (.ref l) H
    | .fn (.func f) a b => Q (.fn (.func f) a b) H
    | _ => False
  | .bin op k x y => wBin op k (ρ x) (ρ y) fun v => Q v H
  | .un op x => wUn op (ρ x) fun v => Q v H
  | .conv (.int k) x => wInt (ρ x) fun _ n => Q (.int k (k.wrap n)) H
  | .conv .s2s x => match ρ x with
    | .str s => Q (.str s) H
    | _ => False
  | .conv .b2s x => match ρ x with
    | .list l c => wElems H 1 (.list l c) fun p _ => allU8 p = true ∧ Q (.str (bytesV p)) H
    | .own a b c d => wElems H 1 (.own a b c d) fun p _ => allU8 p = true ∧ Q (.str (bytesV p)) H
    | _ => False
  | .conv _ _ => False
  | .makeIface t x => isAny (ρ x) = false ∧ Q (.iface t (ρ x)) H
  | .makeFunc f first captured => Q (.fn f (first.map ρ) (captured.map ρ)) H
  | .makeSlice n bytes zero len cap => wInt (ρ len) fun _ l => wInt (ρ cap) fun _ c =>
      (0 ≤ l ∧ l ≤ c ∧ c * bytes ≤ 2 ^ 47 ∧ c ≤ 2 ^ 47 ∧ (zero.length = n ∧ n ≠ 0)) ∧
      if c = 0 then Q (.list [] true) H else Q (.own H.length 0 l.toNat n) (H ++ [.live (zeros zero c.toNat)])
  | .slice k x lo hi mx => wSlice H k (ρ x) (lo.map ρ) (hi.map ρ) (mx.map ρ) fun v => Q v H
  | .fieldAddr off x => match ρ x with
    | .ptr id o => Q (.ptr id (o + off)) H
    | .ref l => off ≤ l.length ∧ Q (.ref (l.drop off)) H
    | _ => False
  | .field agg off n x => match ρ x with
    | .agg l => off + n ≤ l.length ∧ if agg = true then Q (.agg ((l.drop off).take n)) H else ∃ v, l[off]? = some v ∧ Q v H
    | _ => False
  | .indexSl n x i => wInt (ρ i) fun _ j => 0 ≤ j ∧ match ρ x with
      | .list l _ => ∃ v, l[j.toNat]? = some v ∧ (cellsOf v).length = n ∧ Q (.ref (cellsOf v)) H
      | .own id off len m => (j < len ∧ m = n) ∧ Q (.ptr id (off + j.toNat * n)) H
      | _ => False
  | .indexPA alen n x i => wInt (ρ i) fun _ j => 0 ≤ j ∧ match ρ x with
      | .ptr id off => j < alen ∧ Q (.ptr id (off + j.toNat * n)) H
      | .ref l => (j < alen ∧ j.toNat * n ≤ l.length) ∧ Q (.ref (l.drop (j.toNat * n))) H
      | _ => False
  | .indexArr alen n agg x i => wInt (ρ i) fun _ j => match ρ x with
      | .agg l => (0 ≤ j ∧ j < alen ∧ j.toNat * n + n ≤ l.length) ∧
          if agg = true then Q (.agg ((l.drop (j.toNat * n)).take n)) H else ∃ v, l[j.toNat * n]? = some v ∧ Q v H
      | _ => False
  | .indexStr x i => wInt (ρ i) fun _ j => 0 ≤ j ∧ match ρ x with
      | .str s => ∃ b, s.data.toList[j.toNat]? = some b ∧ Q (.int .u8 b.toNat) H
      | _ => False
  | .extract i x => match ρ x with
    | .tuple l => ∃ v, l[i]? = some v ∧ Q v H
    | _ => False
  | .lenC n => Q (.int .i64 n) H
  | .lenS x => match ρ x with
    | .str s => Q (.int .i64 s.size) H
    | _ => False
  | .len x => match ρ x with
    | .list l _ => Q (.int .i64 l.length) H
    | .own _ _ len _ => Q (.int .i64 len) H
    | _ => False
  | .cap x => match ρ x with
    | .list l c => c = true ∧ Q (.int .i64 l.length) H
    | _ => False
  | .append n bytes zs s x => match zs with
    | none => wElems H n (ρ x) fun xs k => wAppend H n bytes (ρ s) xs k Q
    | some zero => wInt (ρ x) fun _ l => (0 ≤ l ∧ l ≤ 2 ^ 47 ∧ l * bytes ≤ 2 ^ 47 ∧ zero.length = n) ∧ wAppend H n bytes (ρ s) (zeros zero l.toNat) l.toNat Q
  | .copy n d s => wElems H n (ρ s) fun xs k => match ρ d with
    | .list l _ => l = [] ∧ Q (.int .i64 0) H
    | .own id off len m => ∃ l, H[id]? = some (.live l) ∧ (m = n ∧ off + len * n ≤ l.length ∧ (xs.take (Nat.min k len * n)).all storable = true) ∧
        Q (.int .i64 (Nat.min k len : Nat)) (H.set id (.live (splice l off (xs.take (Nat.min k len * n)))))
    | _ => False
  | .clear zero n x => match ρ x with
    | .list l _ => l = [] ∧ Q uv H
    | .own id off len m => ∃ l, H[id]? = some (.live l) ∧ (m = n ∧ zero.length = n ∧ off + len * n ≤ l.length ∧ zero.all storable = true) ∧
        Q uv (H.set id (.live (splice l off (zeros zero len))))
    | _ => False
  | .pur k l => wPur k (l.map ρ) fun v => Q v H
  | .rd k l => wRd H k (l.map ρ) fun v => Q v H
  | .mem k l => wMem H k (l.map ρ) Q
  | .max l => ∃ v, maxV (l.map ρ) = some v ∧ Q v H
  | .min l => ∃ v, minV (l.map ρ) = some v ∧ Q v H
  | .panic _ => False
  | .call _ _ => False
  | .callv _ _ => False
theorem wInt_ok {v : V} {K : IntKind → Int → Prop} (h : wInt v K) : ∃ k n, v = .int k n ∧ K k n := by
  cases v with
  | int k n => exact ⟨k, n, rfl, h⟩
  | _ => cases h
theorem wOp_ok {ρ : Opd → V} {H : List Ob} {Q : V → List Ob → Prop} {op : AOp} (h : wOp ρ H Q op) :
    ∃ v H', (evOp ρ H op = some (.val v H') ∨ evOp ρ H op = some (.skip H') ∧ v = uv) ∧ Q v H' := by
  cases op with
  | mov x => exact ⟨_, _, .inl rfl, h⟩
  | pur k l =>
    obtain ⟨v, h1, h2⟩ := h
    exact ⟨_, _, .inl (by simp only [evOp, h1]; rfl), h2⟩
  | rd k l =>
    obtain ⟨v, h1, h2⟩ := h
    exact ⟨_, _, .inl (by simp only [evOp, h1]; rfl), h2⟩
  | mem k l => exact h
  | pick c a b =>
    simp only [wOp] at h
    cases hc : ρ c with
    | bool t =>
      rw [hc] at h
      cases t with
      | true => exact ⟨_, _, .inl (by simp only [evOp, hc]; rfl), h⟩
      | false => exact ⟨_, _, .inl (by simp only [evOp, hc]; rfl), h⟩
    | _ => rw [hc] at h; cases h
  | alloc zero => exact ⟨_, _, .inl rfl, h⟩
  | box x => exact ⟨_, _, .inl (by simp only [evOp, h.1]; rfl), h.2⟩
  | build zero parts =>
    obtain ⟨l, h1, h2⟩ := wFill_ok h
    exact ⟨_, _, .inl (by simp only [evOp, h1]; rfl), h2⟩
  | buildSlice n len zero parts =>
    obtain ⟨l, h1, h2⟩ := wFill_ok h
    by_cases hl : len = 0
    · rw [if_pos hl] at h2; exact ⟨_, _, .inl (by simp only [evOp, h1, if_pos hl]), h2⟩
    · rw [if_neg hl] at h2; exact ⟨_, _, .inl (by simp only [evOp, h1, if_neg hl]), h2⟩
  | load agg n x =>
    simp only [wOp] at h
    obtain ⟨l, h1, h2⟩ := wPeek_ok h
    cases agg with
    | true => exact ⟨_, _, .inl (by simp only [evOp, h1, if_true]), h2⟩
    | false =>
      rw [if_neg Bool.false_ne_true] at h2
      obtain ⟨v, rfl, h2⟩ := h2
      exact ⟨_, _, .inl (by simp only [evOp, h1]; rfl), h2⟩
  | store n a x =>
    simp only [wOp] at h
    split at h
    · rename_i id off ha
      obtain ⟨l, h1, h2, h3⟩ := h
      exact ⟨_, _, .inr ⟨by simp only [evOp, ha, h1, if_pos h2], rfl⟩, h3⟩
    · cases h
  | nilCheck x =>
    simp only [wOp] at h
    split at h
    · rename_i hx; exact ⟨_, _, .inl (by simp only [evOp, hx]), h⟩
    · rename_i hx; exact ⟨_, _, .inl (by simp only [evOp, hx]), h⟩
    · rename_i hx; exact ⟨_, _, .inl (by simp only [evOp, hx]), h⟩
    · cases h
  | bin op k x y =>
    obtain ⟨v, h1, h2⟩ := h
    exact ⟨_, _, .inl (by simp only [evOp, h1]; rfl), h2⟩
  | un op x =>
    obtain ⟨v, h1, h2⟩ := h
    exact ⟨_, _, .inl (by simp only [evOp, h1]; rfl), h2⟩
  | conv k x =>
    cases k with
    | int k =>
      obtain ⟨j, n, h1, h2⟩ := wInt_ok h
      exact ⟨_, _, .inl (by simp only [evOp, h1]), h2⟩
    | s2s =>
      simp only [wOp] at h
      split at h
      · rename_i hx; exact ⟨_, _, .inl (by simp only [evOp, hx]), h⟩
      · cases h
    | b2s =>
      simp only [wOp] at h
      split at h
      · rename_i hx
        obtain ⟨p, k, h1, h2, h3⟩ := wElems_ok h
        exact ⟨_, _, .inl (by simp only [evOp, hx, h1, Option.bind_some]; exact if_pos h2), h3⟩
      · rename_i hx
        obtain ⟨p, k, h1, h2, h3⟩ := wElems_ok h
        exact ⟨_, _, .inl (by simp only [evOp, hx, h1, Option.bind_some]; exact if_pos h2), h3⟩
      · cases h
    | _ => cases h
  | makeIface t x => exact ⟨_, _, .inl (by simp only [evOp, h.1]; rfl), h.2⟩
  | makeFunc f a b => exact ⟨_, _, .inl rfl, h⟩
  | makeSlice n bytes zero len cap =>
    obtain ⟨_, l, h1, h⟩ := wInt_ok h
    obtain ⟨_, c, h2, h3, h⟩ := wInt_ok h
    by_cases hc : c = 0
    · rw [if_pos hc] at h; exact ⟨_, _, .inl (by simp only [evOp, h1, h2, if_pos h3]; exact if_pos hc), h⟩
    · rw [if_neg hc] at h; exact ⟨_, _, .inl (by simp only [evOp, h1, h2, if_pos h3]; exact if_neg hc), h⟩
  | slice k x lo hi mx =>
    simp only [wOp] at h
    obtain ⟨v, h1, h2⟩ := wSlice_ok h
    exact ⟨_, _, .inl (by simp only [evOp, h1]; rfl), h2⟩
  | fieldAddr off x =>
    simp only [wOp] at h
    split at h
    · rename_i hx; exact ⟨_, _, .inl (by simp only [evOp, hx]), h⟩
    · rename_i hx; exact ⟨_, _, .inl (by simp only [evOp, hx, if_pos h.1]), h.2⟩
    · cases h
  | field agg off n x =>
    simp only [wOp] at h
    split at h
    · rename_i l hx
      obtain ⟨h1, h2⟩ := h
      cases agg with
      | true => exact ⟨_, _, .inl (by simp only [evOp, hx, if_pos h1, if_true]), h2⟩
      | false =>
        rw [if_neg Bool.false_ne_true] at h2
        obtain ⟨v, h3, h2⟩ := h2
        exact ⟨_, _, .inl (by simp only [evOp, hx, if_pos h1, h3]; rfl), h2⟩
    · cases h
  | indexSl n x i =>
    obtain ⟨_, j, h1, h2, h⟩ := wInt_ok h
    split at h
    · rename_i hx
      obtain ⟨v, h3, h4, h⟩ := h
      exact ⟨_, _, .inl (by simp only [evOp, h1, if_neg (show ¬ j < 0 from by omega), hx, h3, if_pos h4]), h⟩
    · rename_i hx
      exact ⟨_, _, .inl (by simp only [evOp, h1, if_neg (show ¬ j < 0 from by omega), hx, if_pos h.1]), h.2⟩
    · cases h
  | indexPA alen n x i =>
    obtain ⟨_, j, h1, h2, h⟩ := wInt_ok h
    split at h
    · rename_i hx
      exact ⟨_, _, .inl (by simp only [evOp, h1, if_neg (show ¬ j < 0 from by omega), hx, if_pos h.1]), h.2⟩
    · rename_i hx
      exact ⟨_, _, .inl (by simp only [evOp, h1, if_neg (show ¬ j < 0 from by omega), hx, if_pos h.1]), h.2⟩
    · cases h
  | indexArr alen n agg x i =>
    obtain ⟨_, j, h1, h⟩ := wInt_ok h
    split at h
    · rename_i l hx
      obtain ⟨h2, h3⟩ := h
      cases agg with
      | true => exact ⟨_, _, .inl (by simp only [evOp, h1, hx, if_pos h2, if_true]), h3⟩
      | false =>
        rw [if_neg Bool.false_ne_true] at h3
        obtain ⟨v, h4, h3⟩ := h3
        exact ⟨_, _, .inl (by simp only [evOp, h1, hx, if_pos h2, h4]; rfl), h3⟩
    · cases h
  | indexStr x i =>
    obtain ⟨_, j, h1, h2, h⟩ := wInt_ok h
    split at h
    · rename_i hx
      obtain ⟨v, h3, h⟩ := h
      exact ⟨_, _, .inl (by simp only [evOp, h1, if_neg (show ¬ j < 0 from by omega), hx, h3]), h⟩
    · cases h
  | extract i x =>
    simp only [wOp] at h
    split at h
    · rename_i hx
      obtain ⟨v, h3, h⟩ := h
      exact ⟨_, _, .inl (by simp only [evOp, hx, h3]), h⟩
    · cases h
  | lenC n => exact ⟨_, _, .inl rfl, h⟩
  | lenS x =>
    simp only [wOp] at h
    split at h
    · rename_i hx; exact ⟨_, _, .inl (by simp only [evOp, hx]), h⟩
    · cases h
  | len x =>
    simp only [wOp] at h
    split at h
    · rename_i hx; exact ⟨_, _, .inl (by simp only [evOp, hx]), h⟩
    · rename_i hx; exact ⟨_, _, .inl (by simp only [evOp, hx]), h⟩
    · cases h
  | cap x =>
    simp only [wOp] at h
    split at h
    · rename_i hx; obtain ⟨rfl, h⟩ := h; exact ⟨_, _, .inl (by simp only [evOp, hx]), h⟩
    · cases h
  | append n bytes zs s x =>
    cases zs with
    | none =>
      simp only [wOp] at h
      obtain ⟨xs, k, h1, h⟩ := wElems_ok h
      obtain ⟨v, H', h2, h⟩ := wAppend_ok h
      exact ⟨_, _, .inl (by simp only [evOp, h1, h2]), h⟩
    | some zero =>
      simp only [wOp] at h
      obtain ⟨_, l, h1, h3, h⟩ := wInt_ok h
      obtain ⟨v, H', h2, h⟩ := wAppend_ok h
      exact ⟨_, _, .inl (by simp only [evOp, h1, if_pos h3, h2]), h⟩
  | copy n d s =>
    simp only [wOp] at h
    obtain ⟨xs, k, h1, h⟩ := wElems_ok h
    split at h
    · rename_i hx
      obtain ⟨rfl, h⟩ := h
      exact ⟨_, _, .inl (by simp only [evOp, h1, hx]), h⟩
    · rename_i hx
      obtain ⟨l, h2, h3, h⟩ := h
      exact ⟨_, _, .inl (by simp only [evOp, h1, hx, h2, if_pos h3]), h⟩
    · cases h
  | clear zero n x =>
    simp only [wOp] at h
    split at h
    · rename_i hx
      obtain ⟨rfl, h⟩ := h
      exact ⟨_, _, .inl (by simp only [evOp, hx]), h⟩
    · rename_i hx
      obtain ⟨l, h2, h3, h⟩ := h
      exact ⟨_, _, .inl (by simp only [evOp, hx, h2, if_pos h3]), h⟩
    · cases h
  | max l =>
    obtain ⟨v, h1, h2⟩ := h
    exact ⟨_, _, .inl (by simp only [evOp, h1]; rfl), h2⟩
  | min l =>
    obtain ⟨v, h1, h2⟩ := h
    exact ⟨_, _, .inl (by simp only [evOp, h1]; rfl), h2⟩
  | panic x => cases h
  | call f l => cases h
  | callv f l => cases h
end Fz
namespace Fz
open Go
def WCall (p : AP) (f : FuncId) (args : List V) (H : List Ob) (Q : CR → List Ob → Prop) : Prop :=
  ∃ n r H', doCall (acall p n) p.inlY f args H = some (r, H') ∧ Q r H'
def WQuiet (p : AP) (f : FuncId) (args : List V) (H : List Ob) (K : V → Prop) : Prop :=
  ∃ n l v, mapOpt (lendV H depthF) args = some l ∧ groundL l = true ∧ doCall (acall p n) p.inlY f l [] = some (.ret v, []) ∧
    (ground v && (listFree v || groundL args)) = true ∧ K v
def wRet (Q R : V → List Ob → Prop) (r : CR) (H : List Ob) : Prop := match r with
  | .ret v => Q v H
  | .panic v => R v H
def wAct (p : AP) (e : Env) (H : List Ob) (K R : V → List Ob → Prop) (op : AOp) : Prop := match op with
  | .call f args => WCall p f (args.map (evO e)) H (wRet K R)
  | .callv f args => match evO e f with
    | .fn (.func g) a b => g ≠ YF ∧ WCall p g (a ++ args.map (evO e) ++ b) H (wRet K R)
    | .yld id => WCall p YF (.yld id :: args.map (evO e)) H (wRet K R)
    | _ => False
  | .panic x => match evO e x with
    | .iface t v => R (.iface t v) H
    | _ => False
  | op => wOp (evO e) H K op
def wQ (p : AP) (e : Env) (H : List Ob) (K : V → Prop) (op : AOp) : Prop := match op with
  | .call f args => WQuiet p f (args.map (evO e)) H K
  | .callv f args => match evO e f with
    | .fn (.func g) a b => g ≠ YF ∧ WQuiet p g (a ++ args.map (evO e) ++ b) H K
    | .yld _ => False
    | _ => False
  | op => pureOp op = true ∧ wOp (evO e) H (fun v _ => K v) op
def wGuard (e : Env) (g : Option (Nat × Bool)) (P N : Prop) : Prop := match g with
  | none => P
  | some (t, w) => match e t with
    | .bool b => if b = w then P else N
    | .tuple l => l = [] ∧ N
    | _ => False
def wOps (p : AP) (Q : X → Env → List Ob → Prop) : List AO → Env → List Ob → Prop
  | [], e, H => Q .normal e H
  | o :: r, e, H => wGuard e o.guard (wAct p e H (fun v H' => wOps p Q r (putE e o.dst v) H') (fun v H' => Q (.panic v) e H') o.op) (wOps p Q r (putE e o.dst uv) H)
theorem wAct_ok {p : AP} {e : Env} {H : List Ob} {K R : V → List Ob → Prop} {op : AOp} (h : wAct p e H K R op) :
    (∃ v H', (evOp (evO e) H op = some (.val v H') ∨ evOp (evO e) H op = some (.skip H') ∧ v = uv) ∧ K v H') ∨
    (∃ v H', evOp (evO e) H op = some (.panic v H') ∧ R v H') ∨
    (∃ f args, evOp (evO e) H op = some (.call f args) ∧ WCall p f args H (wRet K R)) := by
  unfold wAct at h
  split at h
  · exact .inr (.inr ⟨_, _, rfl, h⟩)
  · rename_i f args
    split at h
    · rename_i hf; exact .inr (.inr ⟨_, _, by simp only [evOp, hf, if_neg h.1], h.2⟩)
    · rename_i hf; exact .inr (.inr ⟨_, _, by simp only [evOp, hf], h⟩)
    · cases h
  · split at h
    · rename_i hf; exact .inr (.inl ⟨_, _, by simp only [evOp, hf], h⟩)
    · cases h
  · exact .inl (wOp_ok h)
theorem wOps_ok {p : AP} {Q : X → Env → List Ob → Prop} (ops : List AO) : ∀ (e : Env) (H : List Ob), wOps p Q ops e H →
    ∃ n x e' H', runOps (acall p n) p.inlY ops e H = some (x, e', H') ∧ Q x e' H' := by
  induction ops with
  | nil => intro e H h; exact ⟨0, _, _, _, rfl, h⟩
  | cons o r ih =>
    intro e H h
    have go : ∀ (hh : wAct p e H (fun v H' => wOps p Q r (putE e o.dst v) H') (fun v H' => Q (.panic v) e H') o.op),
        ∃ n x e' H', (match evOp (evO e) H o.op with
          | none => none
          | some (.val v H') => runOps (acall p n) p.inlY r (putE e o.dst v) H'
          | some (.skip H') => runOps (acall p n) p.inlY r (putE e o.dst uv) H'
          | some (.panic v H') => some (.panic v, e, H')
          | some (.call f args) => match doCall (acall p n) p.inlY f args H with
            | none => none
            | some (.ret v, H') => runOps (acall p n) p.inlY r (putE e o.dst v) H'
            | some (.panic v, H') => some (.panic v, e, H')) = some (x, e', H') ∧ Q x e' H' := by
      intro hh
      rcases wAct_ok hh with ⟨v, H', h1, h2⟩ | ⟨v, H', h1, h2⟩ | ⟨f, args, h1, n, c, H', h2, h3⟩
      · obtain ⟨n, x, e', H'', h3, h4⟩ := ih _ _ h2
        rcases h1 with h1 | ⟨h1, rfl⟩
        · exact ⟨n, x, e', H'', by rw [h1]; exact h3, h4⟩
        · exact ⟨n, x, e', H'', by rw [h1]; exact h3, h4⟩
      · exact ⟨0, _, _, _, by rw [h1], h2⟩
      · cases c with
        | ret v =>
          obtain ⟨m, x, e', H'', h4, h5⟩ := ih _ _ h3
          refine ⟨max n m, x, e', H'', ?_, h5⟩
          rw [h1]
          dsimp only
          rw [doCall_mono (acall_le p (Nat.le_max_left n m)) _ _ _ _ _ h2]
          exact runOps_mono (acall_le p (Nat.le_max_right n m)) _ _ _ _ _ h4
        | panic v => exact ⟨n, _, _, _, by rw [h1]; dsimp only; rw [h2], h3⟩
    unfold wOps wGuard at h
    unfold runOps
    dsimp only
    cases hg : o.guard with
    | none => rw [hg] at h; exact go h
    | some tw =>
      obtain ⟨t, w⟩ := tw
      rw [hg] at h
      dsimp only at h ⊢
      cases he : e t with
      | bool b =>
        simp only [he] at h ⊢
        by_cases hb : b = w
        · rw [if_pos hb] at h; simp only [if_pos hb]; exact go h
        · rw [if_neg hb] at h; simp only [if_neg hb]; exact ih _ _ h
      | tuple l =>
        simp only [he] at h ⊢
        obtain ⟨rfl, h⟩ := h
        exact ih _ _ h
      | _ => simp only [he] at h
theorem memV_nocall {H : List Ob} {k : MK} {l : List V} {f : FuncId} {args : List V} (h : memV H k l = some (.call f args)) : False := by
  unfold memV at h
  repeat' split at h
  all_goals cases h
def heapFree : AOp → Bool
  | .load _ _ _ | .conv .b2s _ | .slice (.arr _ _) _ _ _ _ | .call _ _ | .callv _ _ | .rd _ _ => false
  | op => pureOp op
def isExt : AOp → Bool
  | .alloc _ | .box _ | .buildSlice _ _ _ _ | .makeSlice _ _ _ _ _ => true
  | _ => false
def calmGo (ops : List AO) (an : List (List Nat)) (effs : List AO) : List (AO × Nat) → Nat → Bool
  | [], _ => true
  | (o, j) :: r, k => (o.eff || heapFree o.op || (loOf ops an j == k && ((effs.drop k).take (hiOf ops an j - k)).all fun q => isExt q.op)) && calmGo ops an effs r (if o.eff then k + 1 else k)
def calm (ops : List AO) : Bool := okDraw ops && calmGo ops (ancs ops) (ops.filter fun o => o.eff) ops.zipIdx 0
theorem slice_free {k : SlK} {x : V} {o : Opd} {l h m : Option Opd} (hk : heapFree (.slice k o l h m) = true) (H H' : List Ob) (lo hi mx : Option V) : sliceV H k x lo hi mx = sliceV H' k x lo hi mx := by
  cases k with
  | str => cases x <;> rfl
  | sl n => cases x <;> rfl
  | arr _ _ => cases hk
theorem evOp_free {ρ : Opd → V} {op : AOp} (hf : heapFree op = true) (H H' : List Ob) {v : V} {H1 : List Ob} (h : evOp ρ H op = some (.val v H1)) :
    evOp ρ H' op = some (.val v H') := by
  cases op with
  | conv k x =>
    cases k with
    | b2s => cases hf
    | _ =>
      simp only [evOp] at h ⊢
      first
      | (cases h; done)
      | (split at h <;> first | (cases h; done) | (cases h; rfl))
  | slice k x lo hi mx =>
    simp only [evOp, ans] at h ⊢
    rw [slice_free hf H' H]
    obtain ⟨u, hu, h⟩ := Option.map_eq_some_iff.1 h
    rw [hu]; cases h; rfl
  | build zero parts =>
    simp only [evOp, ans] at h ⊢
    obtain ⟨u, hu, h⟩ := Option.map_eq_some_iff.1 h
    rw [hu]; cases h; rfl
  | bin op k x y =>
    simp only [evOp, ans] at h ⊢
    obtain ⟨u, hu, h⟩ := Option.map_eq_some_iff.1 h
    rw [hu]; cases h; rfl
  | un op x =>
    simp only [evOp, ans] at h ⊢
    obtain ⟨u, hu, h⟩ := Option.map_eq_some_iff.1 h
    rw [hu]; cases h; rfl
  | max l =>
    simp only [evOp, ans] at h ⊢
    obtain ⟨u, hu, h⟩ := Option.map_eq_some_iff.1 h
    rw [hu]; cases h; rfl
  | pur k l =>
    simp only [evOp, ans] at h ⊢
    obtain ⟨u, hu, h⟩ := Option.map_eq_some_iff.1 h
    rw [hu]; cases h; rfl
  | min l =>
    simp only [evOp, ans] at h ⊢
    obtain ⟨u, hu, h⟩ := Option.map_eq_some_iff.1 h
    rw [hu]; cases h; rfl
  | mov _ | makeFunc _ _ _ | lenC _ => simp only [evOp] at h ⊢; cases h; rfl
  | alloc _ | box _ | buildSlice _ _ _ _ | load _ _ _ | store _ _ _ | makeSlice _ _ _ _ _ | append _ _ _ _ _ | copy _ _ _ | clear _ _ _ | panic _ | call _ _ | callv _ _ | rd _ _ | mem _ _ => cases hf
  | pick _ _ _ | nilCheck _ | makeIface _ _ | fieldAddr _ _ | field _ _ _ _ | indexSl _ _ _ | indexPA _ _ _ _ | indexArr _ _ _ _ _ | indexStr _ _ | extract _ _ | lenS _ | len _ | cap _ =>
    simp only [evOp] at h ⊢
    repeat' split at h
    all_goals first | (cases h; done) | (cases h; simp_all)
theorem quiet_free {call : CallT} {inl : FuncId → Bool} {e : Env} {o : AO} (hf : heapFree o.op = true) (H H' : List Ob) {v : V} (h : quietOp call inl e H o = some v) :
    quietOp call inl e H' o = some v := by
  have hnc : ∀ (ρ : Opd → V) (H : List Ob) f args, evOp ρ H o.op ≠ some (.call f args) := by
    intro ρ H f args hc
    generalize o.op = op at hf hc
    cases op with
    | conv k x =>
      cases k with
      | b2s => cases hf
      | _ =>
        simp only [evOp] at hc
        first
        | (cases hc; done)
        | (split at hc <;> cases hc)
    | call _ _ => cases hf
    | callv _ _ => cases hf
    | append _ _ _ _ _ => cases hf
    | mem _ _ => cases hf
    | _ =>
      simp only [evOp, ans] at hc
      repeat' split at hc
      all_goals first | (cases hc; done) | (obtain ⟨_, _, hc⟩ := Option.map_eq_some_iff.1 hc; cases hc)
  have go : ∀ (hh : (match evOp (evO e) H o.op with
    | some (.val v _) => if pureOp o.op then some v else none
    | some (.call k args) => match mapOpt (lendV H depthF) args with
      | some l => if groundL l then (match doCall call inl k l [] with
        | some (.ret v, []) => if ground v && (listFree v || groundL args) then some v else none
        | _ => none) else none
      | none => none
    | _ => none) = some v), (match evOp (evO e) H' o.op with
    | some (.val v _) => if pureOp o.op then some v else none
    | some (.call k args) => match mapOpt (lendV H' depthF) args with
      | some l => if groundL l then (match doCall call inl k l [] with
        | some (.ret v, []) => if ground v && (listFree v || groundL args) then some v else none
        | _ => none) else none
      | none => none
    | _ => none) = some v := by
    intro hh
    cases hv : evOp (evO e) H o.op with
    | none => rw [hv] at hh; cases hh
    | some q =>
      cases q with
      | val u H1 => rw [hv] at hh; rw [evOp_free hf H H' hv]; exact hh
      | skip _ => rw [hv] at hh; cases hh
      | panic _ _ => rw [hv] at hh; cases hh
      | call k args => exact absurd hv (hnc _ _ _ _)
  unfold quietOp at h ⊢
  dsimp only at h ⊢
  cases hg : o.guard with
  | none => rw [hg] at h; exact go h
  | some tw =>
    rw [hg] at h
    obtain ⟨t', w⟩ := tw
    dsimp only at h ⊢
    cases he : e t' with
    | bool b =>
      simp only [he] at h ⊢
      by_cases hb : b = w
      · simp only [hb, if_true] at h ⊢; exact go h
      · simp only [hb, if_false] at h ⊢; exact h
    | tuple l =>
      simp only [he] at h ⊢
      cases l with
      | nil => exact h
      | cons _ _ => cases h
    | _ => simp only [he] at h; cases h
theorem peek_ext {H : List Ob} {n : Nat} {v : V} {l : List V} (G : List Ob) (h : peek H n v = some l) : peek (H ++ G) n v = some l := by
  cases v with
  | ref x => exact h
  | ptr id off =>
    simp only [peek] at h ⊢
    cases ho : H[id]? with
    | none => rw [ho] at h; cases h
    | some o =>
      have hi : id < H.length := (List.getElem?_eq_some_iff.1 ho).1
      rw [List.getElem?_append_left hi, ho]
      rw [ho] at h
      exact h
  | _ => cases h
theorem elems_ext {H : List Ob} {n : Nat} {v : V} {l : List V × Nat} (G : List Ob) (h : elems H n v = some l) : elems (H ++ G) n v = some l := by
  cases v with
  | own id off len m =>
    simp only [elems] at h ⊢
    split at h
    · rename_i hm
      rw [if_pos hm]
      obtain ⟨x, hx, hh⟩ := Option.map_eq_some_iff.1 h
      rw [peek_ext G hx, Option.map_some, hh]
    · cases h
  | _ => exact h
theorem lend_ext {H : List Ob} (G : List Ob) : ∀ (k : Nat) (v v' : V), lendV H k v = some v' → lendV (H ++ G) k v = some v' := by
  intro k
  induction k with
  | zero => intro v v' h; cases h
  | succ k ih =>
    have hm : ∀ (l x : List V), mapOpt (lendV H k) l = some x → mapOpt (lendV (H ++ G) k) l = some x := by
      intro l
      induction l with
      | nil => intro x h; exact h
      | cons v l ihl =>
        intro x h
        simp only [mapOpt] at h ⊢
        split at h <;> cases h
        rename_i a b ha hb
        rw [ih _ _ ha, ihl _ hb]
    intro v v' h
    cases v with
    | own id off len n =>
      simp only [lendV] at h ⊢
      split at h
      · cases h
      · rename_i hn
        rw [if_neg hn]
        split at h
        · rename_i l hl
          rw [peek_ext G hl]
          dsimp only
          split at h
          · rename_i x hx; rw [hm _ _ hx]; exact h
          · cases h
        · cases h
    | agg l =>
      simp only [lendV] at h ⊢
      obtain ⟨x, hx, hh⟩ := Option.map_eq_some_iff.1 h
      rw [hm _ _ hx, Option.map_some, hh]
    | tuple l =>
      simp only [lendV] at h ⊢
      obtain ⟨x, hx, hh⟩ := Option.map_eq_some_iff.1 h
      rw [hm _ _ hx, Option.map_some, hh]
    | _ => exact h
theorem lends_ext {H : List Ob} (G : List Ob) (k : Nat) : ∀ (l x : List V), mapOpt (lendV H k) l = some x → mapOpt (lendV (H ++ G) k) l = some x := by
  intro l
  induction l with
  | nil => intro x h; exact h
  | cons v l ihl =>
    intro x h
    simp only [mapOpt] at h ⊢
    split at h <;> cases h
    rename_i a b ha hb
    rw [lend_ext G _ _ _ ha, ihl _ hb]
theorem mapOf_ext {H : List Ob} (G : List Ob) {m : V} {x : List V × List V} (h : mapOf H m = some x) : mapOf (H ++ G) m = some x := by
  unfold mapOf at h ⊢
  split at h <;> try (cases h; done)
  · exact h
  · exact h
  · rename_i id
    split at h <;> cases h
    rename_i ho
    have := (List.getElem?_eq_some_iff.1 ho).1
    simp only [List.getElem?_append_left this, ho]
theorem rd_ext {H : List Ob} (G : List Ob) {k : RK} {l : List V} {v : V} (h : rdV H k l = some v) : rdV (H ++ G) k l = some v := by
  unfold rdV at h ⊢
  split at h
  · rename_i kk z ok m k
    cases hm : mapOf H m with
    | none => rw [hm] at h; cases h
    | some x => rw [hm] at h; rw [mapOf_ext G hm]; exact h
  · cases h
theorem evOp_ext {ρ : Opd → V} {op : AOp} (hp : pureOp op = true) {H : List Ob} (G : List Ob) {v : V} {H1 : List Ob} (h : evOp ρ H op = some (.val v H1)) :
    ∃ H2, evOp ρ (H ++ G) op = some (.val v H2) := by
  by_cases hf : heapFree op = true
  · exact ⟨_, evOp_free hf H (H ++ G) h⟩
  · cases op with
    | rd k l =>
      simp only [evOp, ans] at h ⊢
      obtain ⟨u, hu, h⟩ := Option.map_eq_some_iff.1 h
      rw [rd_ext G hu]; cases h; exact ⟨_, rfl⟩
    | load agg n x =>
      simp only [evOp] at h ⊢
      cases hl : peek H n (ρ x) with
      | none => rw [hl] at h; cases h
      | some l =>
        rw [hl] at h
        rw [peek_ext G hl]
        dsimp only at h ⊢
        split at h
        · rename_i ha; cases h; exact ⟨_, if_pos ha⟩
        · rename_i ha
          rw [if_neg ha]
          split at h
          · cases h; exact ⟨_, rfl⟩
          · cases h
    | conv k x =>
      cases k with
      | b2s =>
        simp only [evOp] at h ⊢
        cases hx : ρ x with
        | list l c =>
          rw [hx] at h
          dsimp only at h ⊢
          obtain ⟨q, hq, h⟩ := Option.bind_eq_some_iff.1 h
          rw [elems_ext G hq, Option.bind_some]
          split at h <;> cases h
          rename_i hc
          exact ⟨_, if_pos hc⟩
        | own a b c d =>
          rw [hx] at h
          dsimp only at h ⊢
          obtain ⟨q, hq, h⟩ := Option.bind_eq_some_iff.1 h
          rw [elems_ext G hq, Option.bind_some]
          split at h <;> cases h
          rename_i hc
          exact ⟨_, if_pos hc⟩
        | _ => rw [hx] at h; cases h
      | _ => exact absurd rfl hf
    | slice k x lo hi mx =>
      cases k with
      | arr alen n =>
        simp only [evOp, ans] at h ⊢
        obtain ⟨u, hu, hh⟩ := Option.map_eq_some_iff.1 h
        refine ⟨H ++ G, ?_⟩
        have : sliceV (H ++ G) (.arr alen n) (ρ x) (lo.map ρ) (hi.map ρ) (mx.map ρ) = some u := by
          unfold sliceV at hu ⊢
          split at hu
          · cases hu
          · rename_i hc
            rw [if_neg hc]
            cases hx : ρ x with
            | ptr id off =>
              rw [hx] at hu
              dsimp only at hu ⊢
              split at hu
              · rename_i h1 h2 h3 h4
                rw [h1, h2, h3, peek_ext G h4]
                exact hu
              · cases hu
            | _ => rw [hx] at hu; cases hu
        rw [this]
        cases hh
        rfl
      | _ => exact absurd rfl hf
    | _ => first | (exact absurd rfl hf) | (cases hp)
theorem quiet_ext {call : CallT} {inl : FuncId → Bool} {e : Env} {o : AO} {H : List Ob} (G : List Ob) {v : V} (h : quietOp call inl e H o = some v) :
    quietOp call inl e (H ++ G) o = some v := by
  have go : ∀ (hh : (match evOp (evO e) H o.op with
    | some (.val v _) => if pureOp o.op then some v else none
    | some (.call k args) => match mapOpt (lendV H depthF) args with
      | some l => if groundL l then (match doCall call inl k l [] with
        | some (.ret v, []) => if ground v && (listFree v || groundL args) then some v else none
        | _ => none) else none
      | none => none
    | _ => none) = some v), (match evOp (evO e) (H ++ G) o.op with
    | some (.val v _) => if pureOp o.op then some v else none
    | some (.call k args) => match mapOpt (lendV (H ++ G) depthF) args with
      | some l => if groundL l then (match doCall call inl k l [] with
        | some (.ret v, []) => if ground v && (listFree v || groundL args) then some v else none
        | _ => none) else none
      | none => none
    | _ => none) = some v := by
    intro hh
    cases hv : evOp (evO e) H o.op with
    | none => rw [hv] at hh; cases hh
    | some q =>
      cases q with
      | val u H1 =>
        rw [hv] at hh
        dsimp only at hh
        have hp : pureOp o.op = true := by
          split at hh
          · assumption
          · cases hh
        obtain ⟨H2, h2⟩ := evOp_ext hp G hv
        rw [h2]
        exact hh
      | skip _ => rw [hv] at hh; cases hh
      | panic _ _ => rw [hv] at hh; cases hh
      | call k args =>
        have hc : evOp (evO e) (H ++ G) o.op = some (.call k args) := by
          generalize o.op = op at hv
          cases op with
          | call f l => exact hv
          | callv f l => exact hv
          | conv kk x =>
            exfalso
            cases kk with
            | b2s =>
              simp only [evOp] at hv
              split at hv
              · obtain ⟨a, _, hv⟩ := Option.bind_eq_some_iff.1 hv
                split at hv <;> cases hv
              · obtain ⟨a, _, hv⟩ := Option.bind_eq_some_iff.1 hv
                split at hv <;> cases hv
              · cases hv
            | _ =>
              simp only [evOp] at hv
              first
              | (cases hv; done)
              | (split at hv <;> cases hv)
          | append n b z s x =>
            exfalso
            simp only [evOp] at hv
            repeat' split at hv
            all_goals cases hv
          | mem k l =>
            exfalso
            simp only [evOp] at hv
            exact memV_nocall hv
          | _ =>
            exfalso
            simp only [evOp, ans] at hv
            repeat' split at hv
            all_goals first | (cases hv; done) | (obtain ⟨_, _, hv⟩ := Option.map_eq_some_iff.1 hv; cases hv)
        rw [hc]
        rw [hv] at hh
        dsimp only at hh ⊢
        split at hh
        · rename_i l hl
          rw [lends_ext G _ _ _ hl]
          exact hh
        · cases hh
  unfold quietOp at h ⊢
  dsimp only at h ⊢
  cases hg : o.guard with
  | none => rw [hg] at h; exact go h
  | some tw =>
    rw [hg] at h
    obtain ⟨t', w⟩ := tw
    dsimp only at h ⊢
    cases he : e t' with
    | bool b =>
      simp only [he] at h ⊢
      by_cases hb : b = w
      · simp only [hb, if_true] at h ⊢; exact go h
      · simp only [hb, if_false] at h ⊢; exact h
    | tuple l =>
      simp only [he] at h ⊢
      cases l with
      | nil => exact h
      | cons _ _ => cases h
    | _ => simp only [he] at h; cases h
theorem eff_ext {call : CallT} {inl : FuncId → Bool} {e : Env} {o : AO} (hx : isExt o.op = true) {H H' : List Ob} {v : V} (h : effOp call inl e H o = some (v, H')) :
    ∃ G, H' = H ++ G := by
  have go : ∀ (hh : (match evOp (evO e) H o.op with
    | some (.val v H') => some (v, H')
    | some (.skip H') => some (uv, H')
    | some (.call k args) => match doCall call inl k args H with
      | some (.ret v, H') => some (v, H')
      | _ => none
    | _ => none) = some (v, H')), ∃ G, H' = H ++ G := by
    intro hh
    generalize o.op = op at hx hh
    cases op with
    | alloc z => cases hh; exact ⟨_, rfl⟩
    | box x =>
      simp only [evOp] at hh
      split at hh
      · rename_i h1; split at h1 <;> cases h1; cases hh; exact ⟨_, rfl⟩
      · rename_i h1; split at h1 <;> cases h1
      · rename_i h1; split at h1 <;> cases h1
      · cases hh
    | buildSlice n l z ps =>
      simp only [evOp] at hh
      split at hh
      · rename_i h1
        split at h1
        · split at h1 <;> cases h1 <;> cases hh
          · exact ⟨[], (List.append_nil _).symm⟩
          · exact ⟨_, rfl⟩
        · cases h1
      · rename_i h1; repeat' split at h1
        all_goals cases h1
      · rename_i h1; repeat' split at h1
        all_goals cases h1
      · cases hh
    | makeSlice n b z l c =>
      simp only [evOp] at hh
      split at hh
      · rename_i h1
        repeat' split at h1
        all_goals first | (cases h1; done) | (cases h1; cases hh; first | exact ⟨[], (List.append_nil _).symm⟩ | exact ⟨_, rfl⟩)
      · rename_i h1
        repeat' split at h1
        all_goals cases h1
      · rename_i h1
        repeat' split at h1
        all_goals cases h1
      · cases hh
    | _ => cases hx
  unfold effOp at h
  dsimp only at h
  split at h
  · exact go h
  · split at h
    · split at h
      · exact go h
      · cases h; exact ⟨[], (List.append_nil _).symm⟩
    · cases h; exact ⟨[], (List.append_nil _).symm⟩
    · cases h
end Fz
namespace Fz
open Go
theorem evO_congr {e1 e2 : Env} {x : Opd} (h : ∀ t ∈ usesOpd x, e1 t = e2 t) : evO e1 x = evO e2 x := by
  cases x with
  | t n => exact h n (by simp [usesOpd])
  | c v => rfl
theorem evOo_congr {e1 e2 : Env} {x : Option Opd} (h : ∀ t ∈ usesO x, e1 t = e2 t) : x.map (evO e1) = x.map (evO e2) := by
  cases x with
  | none => rfl
  | some x => simp only [Option.map_some]; rw [evO_congr (x := x) h]
theorem evOl_congr {e1 e2 : Env} {l : List Opd} (h : ∀ t ∈ l.flatMap usesOpd, e1 t = e2 t) : l.map (evO e1) = l.map (evO e2) :=
  List.map_congr_left fun x hx => evO_congr fun t ht => h t (List.mem_flatMap.2 ⟨x, hx, ht⟩)
theorem evOp_congr {e1 e2 : Env} {H : List Ob} {op : AOp} (h : ∀ t ∈ usesOp op, e1 t = e2 t) : evOp (evO e1) H op = evOp (evO e2) H op := by
  have one : ∀ x : Opd, (∀ t ∈ usesOpd x, t ∈ usesOp op) → evO e1 x = evO e2 x := fun x hx => evO_congr fun t ht => h t (hx t ht)
  have opt : ∀ x : Option Opd, (∀ t ∈ usesO x, t ∈ usesOp op) → x.map (evO e1) = x.map (evO e2) := fun x hx => evOo_congr fun t ht => h t (hx t ht)
  have lst : ∀ l : List Opd, (∀ t ∈ l.flatMap usesOpd, t ∈ usesOp op) → l.map (evO e1) = l.map (evO e2) := fun l hx => evOl_congr fun t ht => h t (hx t ht)
  have pts : ∀ l : List (Nat × Nat × Opd), (∀ t ∈ l.flatMap fun p => usesOpd p.2.2, t ∈ usesOp op) → (l.map fun p => (p.1, p.2.1, evO e1 p.2.2)) = l.map fun p => (p.1, p.2.1, evO e2 p.2.2) := fun l hx =>
    List.map_congr_left fun p hp => by rw [evO_congr fun t ht => h t (hx t (List.mem_flatMap.2 ⟨p, hp, ht⟩))]
  cases op with
  | mov x => simp only [evOp, one x (by simp [usesOp])]
  | pick c a b => simp only [evOp, one c (by simp +contextual [usesOp]), one a (by simp +contextual [usesOp]), one b (by simp +contextual [usesOp])]
  | alloc z => rfl
  | box x => simp only [evOp, one x (by simp [usesOp])]
  | build z ps => simp only [evOp, pts ps (by simp [usesOp])]
  | buildSlice n l z ps => simp only [evOp, pts ps (by simp [usesOp])]
  | load g n x => simp only [evOp, one x (by simp [usesOp])]
  | store n a x => simp only [evOp, one a (by simp +contextual [usesOp]), one x (by simp +contextual [usesOp])]
  | nilCheck x => simp only [evOp, one x (by simp [usesOp])]
  | bin o k x y => simp only [evOp, one x (by simp +contextual [usesOp]), one y (by simp +contextual [usesOp])]
  | un o x => simp only [evOp, one x (by simp [usesOp])]
  | conv k x => cases k <;> simp only [evOp, one x (by simp [usesOp])]
  | makeIface t x => simp only [evOp, one x (by simp [usesOp])]
  | makeFunc f a b => simp only [evOp, lst a (by simp +contextual [usesOp]), lst b (by simp +contextual [usesOp])]
  | makeSlice n bt z l c => simp only [evOp, one l (by simp +contextual [usesOp]), one c (by simp +contextual [usesOp])]
  | slice k x lo hi mx => simp only [evOp, one x (by simp +contextual [usesOp]), opt lo (by simp +contextual [usesOp]), opt hi (by simp +contextual [usesOp]), opt mx (by simp +contextual [usesOp])]
  | fieldAddr o x => simp only [evOp, one x (by simp [usesOp])]
  | field g o n x => simp only [evOp, one x (by simp [usesOp])]
  | indexSl n x i => simp only [evOp, one x (by simp +contextual [usesOp]), one i (by simp +contextual [usesOp])]
  | indexPA l n x i => simp only [evOp, one x (by simp +contextual [usesOp]), one i (by simp +contextual [usesOp])]
  | indexArr l n g x i => simp only [evOp, one x (by simp +contextual [usesOp]), one i (by simp +contextual [usesOp])]
  | indexStr x i => simp only [evOp, one x (by simp +contextual [usesOp]), one i (by simp +contextual [usesOp])]
  | extract i x => simp only [evOp, one x (by simp [usesOp])]
  | lenC n => rfl
  | lenS x => simp only [evOp, one x (by simp [usesOp])]
  | len x => simp only [evOp, one x (by simp [usesOp])]
  | cap x => simp only [evOp, one x (by simp [usesOp])]
  | append n bt z s x => simp only [evOp, one s (by simp +contextual [usesOp]), one x (by simp +contextual [usesOp])]
  | copy n d s => simp only [evOp, one d (by simp +contextual [usesOp]), one s (by simp +contextual [usesOp])]
  | clear z n x => simp only [evOp, one x (by simp [usesOp])]
  | max l => simp only [evOp, lst l (by simp [usesOp])]
  | pur k l => simp only [evOp, lst l (by simp [usesOp])]
  | rd k l => simp only [evOp, lst l (by simp [usesOp])]
  | mem k l => simp only [evOp, lst l (by simp [usesOp])]
  | min l => simp only [evOp, lst l (by simp [usesOp])]
  | panic x => simp only [evOp, one x (by simp [usesOp])]
  | call f l => simp only [evOp, lst l (by simp [usesOp])]
  | callv f l => simp only [evOp, one f (by simp +contextual [usesOp]), lst l (by simp +contextual [usesOp])]
theorem quietOp_congr {call : CallT} {inl : FuncId → Bool} {e1 e2 : Env} {H : List Ob} {o : AO} (h : ∀ t ∈ uses o, e1 t = e2 t) : quietOp call inl e1 H o = quietOp call inl e2 H o := by
  have h1 : evOp (evO e1) H o.op = evOp (evO e2) H o.op := evOp_congr fun t ht => h t (List.mem_append_left _ ht)
  unfold quietOp
  rw [h1]
  cases hg : o.guard with
  | none => rfl
  | some tw => obtain ⟨t, w⟩ := tw; simp only [h t (by simp [uses, hg])]
theorem effOp_congr {call : CallT} {inl : FuncId → Bool} {e1 e2 : Env} {H : List Ob} {o : AO} (h : ∀ t ∈ uses o, e1 t = e2 t) : effOp call inl e1 H o = effOp call inl e2 H o := by
  have h1 : evOp (evO e1) H o.op = evOp (evO e2) H o.op := evOp_congr fun t ht => h t (List.mem_append_left _ ht)
  unfold effOp
  rw [h1]
  cases hg : o.guard with
  | none => rfl
  | some tw => obtain ⟨t, w⟩ := tw; simp only [h t (by simp [uses, hg])]
theorem pure_heap {ρ : Opd → V} {H H' : List Ob} {op : AOp} {v : V} (hp : pureOp op = true) (h : evOp ρ H op = some (.val v H')) : H' = H := by
  have ans' : ∀ {o : Option V}, ans H o = some (.val v H') → H' = H := by
    intro o h; unfold ans at h
    obtain ⟨u, _, h⟩ := Option.map_eq_some_iff.1 h
    cases h; rfl
  cases op <;> first
    | (simp [pureOp] at hp; done)
    | (simp only [evOp] at h; exact ans' h)
    | (rename_i k x; cases k <;> simp only [evOp] at h <;> first | (cases h; done) | (split at h <;> (try cases h) <;> (try rfl) <;> (simp only [Option.bind_eq_some_iff] at h; obtain ⟨p, _, h⟩ := h; split at h <;> cases h <;> rfl)))
    | (simp only [evOp] at h
       repeat' (first | (cases h; done) | (cases h; rfl) | (split at h)))
end Fz
namespace Fz
open Go
def envK (l : List AO) (vals : List V) (e : Env) (S : Nat → Bool) : Nat → Env
  | 0 => e
  | k + 1 => if S k then putE (envK l vals e S k) (l.getD k default).dst (vals.getD k uv) else envK l vals e S k
theorem envK_agree {l : List AO} {vals : List V} {e : Env} {S S' : Nat → Bool} {τ : Nat} : ∀ (n : Nat), (∀ i, i < n → (l.getD i default).dst = some τ → S i = S' i) → envK l vals e S n τ = envK l vals e S' n τ
  | 0, _ => rfl
  | k + 1, h => by
    have ih := envK_agree (vals := vals) (e := e) k fun i hi => h i (by omega)
    have hput : ∀ (e1 e2 : Env) (d : Option Nat) (v : V), e1 τ = e2 τ → putE e1 d v τ = putE e2 d v τ := by
      intro e1 e2 d v he
      cases d with
      | none => exact he
      | some t =>
        simp only [putE, upd]
        split
        · rfl
        · exact he
    have hno : ∀ (e1 : Env) (d : Option Nat) (v : V), d ≠ some τ → putE e1 d v τ = e1 τ := by
      intro e1 d v hd
      cases d with
      | none => rfl
      | some t => simp only [putE, upd]; rw [if_neg (fun h => hd (by rw [h]))]
    by_cases hd : (l.getD k default).dst = some τ
    · simp only [envK, h k (by omega) hd]
      split
      · exact hput _ _ _ _ ih
      · exact ih
    · simp only [envK]
      split <;> split <;> (try simp only [hno _ _ _ hd]) <;> exact ih
theorem envK_insert {l : List AO} {vals : List V} {e : Env} {S : Nat → Bool} {n j : Nat} (hj : j < n) (hS : S j = false) (hlast : ∀ i, j < i → i < n → S i = true → ∀ τ, (l.getD j default).dst = some τ → (l.getD i default).dst ≠ some τ) (τ : Nat) :
    envK l vals e (fun i => S i || i == j) n τ = putE (envK l vals e S n) (l.getD j default).dst (vals.getD j uv) τ := by
  by_cases hd : (l.getD j default).dst = some τ
  · rw [hd]
    have e1 : putE (envK l vals e S n) (some τ) (vals.getD j uv) τ = vals.getD j uv := by simp [putE, upd]
    rw [e1]
    have key : ∀ k, j < k → k ≤ n → envK l vals e (fun i => S i || i == j) k τ = vals.getD j uv := by
      intro k
      induction k with
      | zero => intro h; omega
      | succ k ih =>
        intro h1 h2
        by_cases hk : k = j
        · subst hk
          simp only [envK]
          rw [if_pos (by simp), hd]
          simp [putE, upd]
        · simp only [envK]
          have ih' := ih (by omega) (by omega)
          split
          · rename_i hs
            have hs' : S k = true := by simpa [hk] using hs
            have hne := hlast k (by omega) (by omega) hs' τ hd
            cases hdk : (l.getD k default).dst with
            | none => simpa [putE] using ih'
            | some t =>
              simp only [putE, upd]
              rw [if_neg (fun h => hne (by rw [hdk, h]))]
              exact ih'
          · exact ih'
    exact key n hj (Nat.le_refl _)
  · have e1 : putE (envK l vals e S n) (l.getD j default).dst (vals.getD j uv) τ = envK l vals e S n τ := by
      cases hdk : (l.getD j default).dst with
      | none => rfl
      | some t => simp only [putE, upd]; rw [if_neg (fun h => hd (by rw [hdk, h]))]
    rw [e1]
    refine envK_agree n fun i hi hdi => ?_
    have : i ≠ j := by rintro rfl; exact hd hdi
    simp [this]
theorem envK_before {l : List AO} {vals : List V} {e : Env} {j : Nat} : ∀ (n : Nat), j ≤ n → envK l vals e (fun i => decide (i < j)) n = envK l vals e (fun _ => true) j := by
  have h1 : ∀ k, k ≤ j → envK l vals e (fun i => decide (i < j)) k = envK l vals e (fun _ => true) k := by
    intro k
    induction k with
    | zero => intro _; rfl
    | succ k ih => intro h; simp only [envK]; rw [ih (by omega), if_pos (by simp; omega), if_pos trivial]
  intro n
  induction n with
  | zero => intro h; have : j = 0 := by omega
            subst this; rfl
  | succ n ih =>
    intro h
    by_cases hn : j = n + 1
    · subst hn; exact h1 _ (Nat.le_refl _)
    · simp only [envK]; rw [if_neg (by simp; omega)]; exact ih (by omega)
theorem envK_cons {o : AO} {l : List AO} {v : V} {vals : List V} {e : Env} : ∀ k, envK (o :: l) (v :: vals) e (fun _ => true) (k + 1) = envK l vals (putE e o.dst v) (fun _ => true) k
  | 0 => by simp [envK]
  | k + 1 => by
    have := envK_cons (o := o) (l := l) (v := v) (vals := vals) (e := e) k
    simp only [envK] at this ⊢
    simp only [if_true] at this ⊢
    rw [this]; simp
def cnt (l : List AO) : Nat := (l.filter (·.eff)).length
theorem trace_spec {call : CallT} {inl : FuncId → Bool} : ∀ (l : List AO) (e : Env) (hs : List (List Ob)) (t : List (Env × Nat × V)) (hs' : List (List Ob)) (e' : Env), trace call inl l e hs = some (t, hs', e') → hs ≠ [] →
    t.length = l.length ∧ hs'.length = hs.length + cnt l ∧ (∀ i : Nat, i < hs.length → hs'[i]? = hs[i]?) ∧ e' = envK l (t.map (·.2.2)) e (fun _ => true) l.length ∧
    ∀ (j : Nat) (o : AO), l[j]? = some o → ∃ (ej : Env) (k : Nat) (vj : V) (Hj : List Ob), t[j]? = some (ej, k, vj) ∧ ej = envK l (t.map (·.2.2)) e (fun _ => true) j ∧ hs'[hs.length - 1 + cnt (l.take j)]? = some Hj ∧
      (o.eff = true → ∃ H1, hs'[hs.length + cnt (l.take j)]? = some H1 ∧ effOp call inl ej Hj o = some (vj, H1)) ∧ (o.eff = false → quietOp call inl ej Hj o = some vj)
  | [], e, hs, t, hs', e', h, _ => by
    simp [trace] at h
    obtain ⟨rfl, rfl, rfl⟩ := h
    exact ⟨rfl, by simp [cnt], fun _ _ => rfl, rfl, fun j o hj => by simp at hj⟩
  | o :: l, e, hs, t, hs', e', h, hne => by
    have hpos : 0 < hs.length := List.length_pos_iff.2 hne
    simp only [trace] at h
    split at h
    · cases h
    · rename_i H hH
      have hlast : hs[hs.length - 1]? = some H := by rw [← hH, List.getLast?_eq_getElem?]
      split at h
      · rename_i heff
        split at h
        · cases h
        · rename_i v H1 hv
          obtain ⟨⟨t2, hs2, e2⟩, ht, h⟩ := Option.map_eq_some_iff.1 h
          cases h
          obtain ⟨g1, g2, g3, g4, g5⟩ := trace_spec l _ _ t2 _ _ ht (by simp)
          have hc : cnt (o :: l) = cnt l + 1 := by simp [cnt, heff]
          refine ⟨by simp [g1], by rw [g2, hc]; simp; omega, fun i hi => ?_, ?_, fun j o' hj => ?_⟩
          · rw [g3 i (by simp; omega), List.getElem?_append_left hi]
          · simp only [List.map_cons, List.length_cons]; rw [envK_cons]; exact g4
          · cases j with
            | zero =>
              simp at hj; subst hj
              refine ⟨e, hs.length - 1, v, H, by simp, rfl, ?_, fun _ => ⟨H1, ?_, hv⟩, fun hf => (by rw [heff] at hf; cases hf)⟩
              · simp [cnt]; rw [g3 _ (by simp; omega), List.getElem?_append_left (by omega)]; exact hlast
              · simp [cnt]; rw [g3 _ (by simp), List.getElem?_append_right (Nat.le_refl _)]; simp
            | succ j =>
              obtain ⟨ej, k, vj, Hj, q1, q2, q3, q4, q5⟩ := g5 j o' (by simpa using hj)
              have hct : cnt ((o :: l).take (j + 1)) = cnt (l.take j) + 1 := by simp [cnt, heff]
              refine ⟨ej, k, vj, Hj, by simpa using q1, ?_, ?_, fun hf => ?_, q5⟩
              · simp only [List.map_cons]; rw [envK_cons]; exact q2
              · rw [hct]; rw [← q3]; congr 1; simp; omega
              · obtain ⟨H2, r1, r2⟩ := q4 hf
                refine ⟨H2, ?_, r2⟩
                rw [hct, ← r1]; congr 1; simp; omega
      · rename_i heff
        have heff : o.eff = false := by simpa using heff
        split at h
        · cases h
        · rename_i v hv
          obtain ⟨⟨t2, hs2, e2⟩, ht, h⟩ := Option.map_eq_some_iff.1 h
          cases h
          obtain ⟨g1, g2, g3, g4, g5⟩ := trace_spec l _ _ t2 _ _ ht hne
          have hc : cnt (o :: l) = cnt l := by simp [cnt, heff]
          refine ⟨by simp [g1], by rw [g2, hc], g3, ?_, fun j o' hj => ?_⟩
          · simp only [List.map_cons, List.length_cons]; rw [envK_cons]; exact g4
          · cases j with
            | zero =>
              simp at hj; subst hj
              refine ⟨e, hs.length - 1, v, H, by simp, rfl, ?_, fun hf => (by rw [heff] at hf; cases hf), fun _ => hv⟩
              simp [cnt]; rw [g3 _ (by omega)]; exact hlast
            | succ j =>
              obtain ⟨ej, k, vj, Hj, q1, q2, q3, q4, q5⟩ := g5 j o' (by simpa using hj)
              have hct : cnt ((o :: l).take (j + 1)) = cnt (l.take j) := by simp [cnt, heff]
              refine ⟨ej, k, vj, Hj, by simpa using q1, ?_, by rw [hct]; exact q3, fun hf => by rw [hct]; exact q4 hf, q5⟩
              simp only [List.map_cons]; rw [envK_cons]; exact q2
theorem steady_spec {call : CallT} {inl : FuncId → Bool} {e : Env} {v : V} {o : AO} : ∀ {hs : List (List Ob)}, steady call inl e v o hs = true → ∀ H ∈ hs, quietOp call inl e H o = some v
  | [], _, H, hH => by simp at hH
  | H0 :: r, h, H, hH => by
    simp only [steady, Bool.and_eq_true] at h
    rcases List.mem_cons.1 hH with rfl | hH
    · have := h.1
      split at this
      · rename_i u hu; rw [hu, veq_eq u v this]
      · cases this
    · exact steady_spec h.2 H hH
theorem steadyAll_spec {call : CallT} {inl : FuncId → Bool} {ops : List AO} {an : List (List Nat)} {hs : List (List Ob)} : ∀ (l : List AO) (s : Nat) (t : List (Env × Nat × V)), steadyAll call inl ops an hs (l.zipIdx s) t = true →
    ∀ (j : Nat) (o : AO) (ej : Env) (k : Nat) (vj : V), l[j]? = some o → t[j]? = some (ej, k, vj) → o.eff = false → ∀ (q : Nat) (H : List Ob), loOf ops an (s + j) ≤ q → q ≤ hiOf ops an (s + j) → hs[q]? = some H → quietOp call inl ej H o = some vj
  | [], s, t, _, j, o, ej, k, vj, hj, _, _, _, _, _, _, _ => by simp at hj
  | o0 :: l, s, [], h, _, _, _, _, _, _, _, _, _, _, _, _, _ => by simp [List.zipIdx_cons, steadyAll] at h
  | o0 :: l, s, (e0, k0, v0) :: t, h, j, o, ej, k, vj, hj, ht, hf, q, H, h1, h2, h3 => by
    simp only [List.zipIdx_cons, steadyAll, Bool.and_eq_true] at h
    cases j with
    | zero =>
      simp at hj ht
      subst hj
      obtain ⟨rfl, rfl, rfl⟩ := ht
      have hst := h.1
      rw [hf, Bool.false_or] at hst
      refine steady_spec hst H ?_
      rw [List.mem_iff_getElem?]
      refine ⟨q - loOf ops an s, ?_⟩
      rw [Nat.add_zero] at h1 h2
      rw [List.getElem?_take, if_pos (by omega), List.getElem?_drop, show loOf ops an s + (q - loOf ops an s) = q from by omega]
      exact h3
    | succ j =>
      exact steadyAll_spec l (s + 1) t h.2 j o ej k vj (by simpa using hj) (by simpa using ht) hf q H (by rwa [show s + 1 + j = s + (j + 1) from by omega]) (by rwa [show s + 1 + j = s + (j + 1) from by omega]) h3
theorem ancsGo_spec : ∀ (l : List AO) (acc : List (List Nat)), (∀ (j : Nat) (o : AO), l[j]? = some o → ∀ i ∈ o.after, i < acc.length + j) →
    (∀ i : Nat, i < acc.length → (ancsGo acc l)[i]? = acc[i]?) ∧ ∀ (j : Nat) (o : AO), l[j]? = some o → (ancsGo acc l)[acc.length + j]? = some (uniqN (o.after.flatMap fun i => i :: (ancsGo acc l).getD i []))
  | [], acc, _ => ⟨fun _ _ => rfl, fun j o hj => by simp at hj⟩
  | o :: l, acc, h => by
    simp only [ancsGo]
    obtain ⟨g1, g2⟩ := ancsGo_spec l (acc ++ [uniqN (o.after.flatMap fun i => i :: acc.getD i [])]) fun j o' hj i hi => by
      have := h (j + 1) o' (by simpa using hj) i hi
      simp; omega
    refine ⟨fun i hi => ?_, fun j o' hj => ?_⟩
    · rw [g1 i (by simp; omega), List.getElem?_append_left hi]
    · cases j with
      | zero =>
        simp at hj; subst hj
        rw [Nat.add_zero, g1 _ (by simp), List.getElem?_append_right (Nat.le_refl _)]
        simp only [Nat.sub_self, List.getElem?_cons_zero, Option.some.injEq]
        have key : ∀ (m : List Nat), (∀ i ∈ m, i < acc.length) → (m.flatMap fun i => i :: acc.getD i []) = m.flatMap fun i => i :: (ancsGo (acc ++ [uniqN (o.after.flatMap fun i => i :: acc.getD i [])]) l).getD i [] := by
          intro m
          induction m with
          | nil => intro _; rfl
          | cons q m ih =>
            intro hm
            simp only [List.flatMap_cons]
            rw [ih fun i hi => hm i (by simp [hi])]
            have hq := hm q (by simp)
            have : (ancsGo (acc ++ [uniqN (o.after.flatMap fun i => i :: acc.getD i [])]) l).getD q [] = acc.getD q [] := by
              rw [List.getD_eq_getElem?_getD, List.getD_eq_getElem?_getD, g1 q (by simp; omega), List.getElem?_append_left hq]
            rw [this]
        exact congrArg uniqN (key o.after fun i hi => by have := h 0 o (by simp) i hi; omega)
      | succ j =>
        have := g2 j o' (by simpa using hj)
        rw [← this]; congr 1; simp; omega
end Fz
namespace Fz
open Go
theorem ceK_mono {ops : List AO} {p q : Nat → Bool} : ∀ n, (∀ i, i < n → p i = true → (ops.getD i default).eff = true → q i = true) → ceK ops p n ≤ ceK ops q n
  | 0, _ => Nat.le_refl _
  | n + 1, h => by
    have ih := ceK_mono (ops := ops) (p := p) (q := q) n fun i hi => h i (by omega)
    simp only [ceK]
    have := h n (by omega)
    by_cases hp : p n = true
    · by_cases he : (ops.getD n default).eff = true
      · simp only [hp, he, this hp he, Bool.and_self, if_true]; omega
      · have : (ops.getD n default).eff = false := Bool.eq_false_iff.2 he
        simp only [this, Bool.and_false]; simp; omega
    · have : p n = false := Bool.eq_false_iff.2 hp
      rw [if_neg (show ¬ (p n && (ops.getD n default).eff) = true by simp [this])]
      exact Nat.add_le_add ih (Nat.zero_le _)
theorem ceK_congr {ops : List AO} {p q : Nat → Bool} (n : Nat) (h : ∀ i, i < n → (ops.getD i default).eff = true → p i = q i) : ceK ops p n = ceK ops q n :=
  Nat.le_antisymm (ceK_mono n fun i hi hp he => by rw [← h i hi he]; exact hp) (ceK_mono n fun i hi hp he => by rw [h i hi he]; exact hp)
theorem ceK_insert {ops : List AO} {p : Nat → Bool} {j : Nat} (hp : p j = false) : ∀ n, j < n → ceK ops (fun i => p i || i == j) n = ceK ops p n + (if (ops.getD j default).eff then 1 else 0)
  | 0, h => by omega
  | n + 1, h => by
    simp only [ceK]
    by_cases e : j = n
    · subst e
      have : ceK ops (fun i => p i || i == j) j = ceK ops p j := ceK_congr j fun i hi _ => by
        have : i ≠ j := by omega
        simp [this]
      simp only [this, hp, Bool.false_or, BEq.rfl, Bool.true_and, Bool.false_and]; simp
    · rw [ceK_insert hp n (by omega)]
      have : (n == j) = false := by simp; omega
      simp only [this, Bool.or_false]; omega
theorem ceK_before {ops : List AO} {j : Nat} : ∀ n, j ≤ n → ceK ops (fun i => decide (i < j)) n = ceK ops (fun _ => true) j
  | 0, h => by have : j = 0 := by omega
               subst this; rfl
  | n + 1, h => by
    by_cases e : j = n + 1
    · subst e; exact ceK_congr _ fun i hi _ => by simp [hi]
    · simp only [ceK]; rw [ceK_before n (by omega)]
      have : decide (n < j) = false := by simp; omega
      simp [this]
theorem ceK_cnt {ops : List AO} : ∀ j, j ≤ ops.length → ceK ops (fun _ => true) j = cnt (ops.take j)
  | 0, _ => by simp [ceK, cnt]
  | j + 1, h => by
    simp only [ceK]
    rw [ceK_cnt j (by omega), List.take_succ_eq_append_getElem (by omega)]
    have : ops.getD j default = ops[j] := by simp [List.getD, List.getElem?_eq_getElem (show j < ops.length by omega)]
    rw [this]
    simp only [cnt, List.filter_append, List.length_append, Bool.true_and]
    congr 1
    by_cases he : ops[j].eff = true <;> simp [he]
theorem filter_le {g h : Nat → Bool} (hgh : ∀ i, g i = true → h i = true) : ∀ m : List Nat, (m.filter g).length ≤ (m.filter h).length
  | [] => Nat.le_refl _
  | q :: m => by
    have ih := filter_le hgh m
    simp only [List.filter_cons]
    split
    · rename_i hg; rw [if_pos (hgh q hg)]; simpa using ih
    · split
      · simp; omega
      · exact ih
theorem filter_lt {g h : Nat → Bool} {j : Nat} (hgh : ∀ i, g i = true → h i = true) (hg : g j = false) (hh : h j = true) : ∀ m : List Nat, j ∈ m → (m.filter g).length < (m.filter h).length
  | [], hm => by cases hm
  | q :: m, hm => by
    simp only [List.filter_cons]
    by_cases hq : q = j
    · subst hq
      rw [if_neg (by simp [hg]), if_pos hh]
      have := filter_le hgh m
      simp; omega
    · have hm' : j ∈ m := (List.mem_cons.1 hm).resolve_left fun h => hq h.symm
      have ih := filter_lt hgh hg hh m hm'
      split
      · rename_i hg; rw [if_pos (hgh q hg)]; simpa using ih
      · split
        · simp; omega
        · exact ih
section
variable {ro : Option Nat} {bud : Nat} {P : Program} {L : LpT} {call : CallT} (hcall : CallOk P L call) {inl : FuncId → Bool} {ops : Array Oper} {nt : Nat}
variable {e : Env} {H : List Ob} {K : Kn} {β : Bi} {a : Act} {w : World} {Q : Exit → Act → World → Prop} {next : Act → World → Prop}
include hcall
theorem quiet_wp {i : Nat} {o : Oper} {ao : AO} {v : V} (hq : quietOp call inl e H ao = some v) (hL : K.lp = L) (hI : Inv K β H w) (hE : ER K β nt e a) (ho : ops[i]? = some o) (hc : cOperL P ops o = some ao)
    (hn : ∀ c K' β' w', VR K' β' v c → Inv K' β' H w' → Ev K β H w K' β' H w' → next (a.put o.dst c) w') : wpOpIn (Fr ro) bud P ops Q i next a w := by
  obtain ⟨hop, hd, ao', hc', hg', _⟩ := cOperL_op hc
  obtain ⟨g1, g2⟩ := guard_sound ⟨_, hc', hg'⟩ hE
  unfold wpOpIn
  simp only [ho]
  have go : (match evOp (evO e) H ao.op with
    | some (.val v _) => if pureOp ao.op then some v else none
    | some (.call f args) => match mapOpt (lendV H depthF) args with
      | some l => if groundL l then (match doCall call inl f l [] with
        | some (.ret v, []) => if ground v && (listFree v || groundL args) then some v else none
        | _ => none) else none
      | none => none
    | _ => none) = some v → o.wpIn (Fr ro) bud P a w next Q := by
    intro hgo
    split at hgo
    · rename_i u H' hr
      split at hgo <;> cases hgo
      rename_i hp
      have hH := pure_heap hp hr
      subst hH
      obtain ⟨c, w', K', β', h1, h2, h3, h4⟩ := evOp_soundL (P := P) hI hE hop hr
      refine ⟨fun _ _ => trivial, ?_⟩
      rw [semAt_opL hop, h1, Oper.uponIn_value]
      exact hn c K' β' w' h2 h3 h4
    · rename_i f args hr
      obtain ⟨cargs, h1, h2⟩ := evOp_soundL (P := P) hI hE hop hr
      split at hgo
      · rename_i l hl
        split at hgo
        · rename_i hgl
          split at hgo
          · rename_i u hdc
            split at hgo <;> cases hgo
            rename_i hcond
            simp only [Bool.and_eq_true, Bool.or_eq_true] at hcond
            obtain ⟨hgv, hor⟩ := hcond
            have fin : ∀ (w' : World) (c : Value), (∃ K' β', VR K' β' v c ∧ Inv K' β' H w' ∧ Ev K β H w K' β' H w') → next (a.put o.dst c) w' := by
              rintro w' c ⟨K', β', q1, q2, q3⟩
              exact hn c K' β' w' q1 q2 q3
            have post : ∃ (Kx : Kn), Kx.lp = L ∧ Inv Kx noB [] w ∧ LR Kx noB l cargs.toList ∧ ∀ (w' : World) (c : Value), CallPost Kx noB [] w (.ret v) [] (.returned c) w' → next (a.put o.dst c) w' := by
              rcases Bool.eq_false_or_eq_true (groundL args) with hga | hga
              · have hll : l = args := by
                  have : ∀ (m x : List V), m.all ground = true → mapOpt (lendV H depthF) m = some x → x = m := by
                    intro m
                    induction m with
                    | nil => intro x _ h; simp [mapOpt] at h; exact h
                    | cons q m ih =>
                      intro x hg h
                      simp only [List.all_cons, Bool.and_eq_true] at hg
                      simp only [mapOpt] at h
                      split at h <;> cases h
                      rename_i y z hy hz
                      rw [lend_ground H _ _ _ hg.1 hy, ih _ hg.2 hz]
                  exact this _ _ (by rw [← groundL_eq]; exact hga) hl
                subst hll
                refine ⟨K, hL, emp_inv hI, ground_LR K.le_refl h2 hga, fun w' c hp => ?_⟩
                obtain ⟨K', β', q1, q2, q3⟩ := hp
                obtain ⟨r1, r2⟩ := quiet_inv hI q2 q3
                exact fin w' c ⟨K', β, ground_VR (Kn.le_refl _) q1 hgv, r1, r2⟩
              · have hlf : listFree v = true := hor.resolve_right (by simp [hga])
                refine ⟨allK K w, hL, allK_inv hI, ground_LR (Kn.le_refl _) (mapOpt_LR (lendV_sound hI depthF) hl h2) hgl, fun w' c hp => ?_⟩
                obtain ⟨K', β', q1, q2, q3⟩ := hp
                obtain ⟨r1, r2⟩ := lent_inv hI q3
                exact fin w' c ⟨K, β, listFree_VR v c hlf q1, r1, r2⟩
            obtain ⟨Kx, i0, i1, i2, i3⟩ := post
            refine ⟨fun _ _ => trivial, ?_⟩
            rw [semAt_opL hop]
            rcases doCall_sound hcall hdc i0 i1 i2 with ⟨c, w', g1, g2⟩ | ⟨g, gs, g1, g2⟩ | ⟨l, fn, tmps, asg, bo, g1, g2⟩
            · rw [h1, g1, Oper.uponIn_value]; exact i3 w' c g2
            · rw [h1, g1, Oper.uponIn_enter]
              refine ⟨fun h => Bool.noConfusion h, callsIn_fr (g2.mono ?_)⟩
              rintro en w' hp
              cases en with
              | returned c => exact i3 w' c hp
              | panicked chain => obtain ⟨K', β', q1, _⟩ := hp; exact q1.elim
              | outgrown => obtain ⟨K', β', q1, _⟩ := hp; exact q1.elim
            · rw [h1, g1, Oper.uponIn_round]
              refine ⟨fun h => Bool.noConfusion h, roundIn_fr (g2.mono ?_)⟩
              rintro en w' hp
              cases en with
              | returned c => exact i3 w' c hp
              | panicked chain => obtain ⟨K', β', q1, _⟩ := hp; exact q1.elim
              | outgrown => obtain ⟨K', β', q1, _⟩ := hp; exact q1.elim
          · cases hgo
        · cases hgo
      · cases hgo
    · cases hgo
  have skip : v = uv → next (a.put o.dst Go.undef) w := fun hv => hn _ K β w (by rw [hv]; exact vr_uv K β) hI (.refl K β H w)
  unfold quietOp at hq
  cases hg : ao.guard with
  | none =>
    rw [hg] at hq
    rw [if_pos (g1 hg)]
    exact go hq
  | some tw =>
    obtain ⟨t, want⟩ := tw
    rw [hg] at hq
    obtain ⟨g3, g4⟩ := g2 t want hg
    simp only [] at hq
    split at hq
    · rename_i b hb
      split at hq
      · rename_i hbw
        rw [g3 b hb, if_pos (by simpa using hbw)]
        exact go hq
      · rename_i hbw
        rw [g3 b hb, if_neg (by simpa using hbw)]
        exact ⟨fun _ _ => trivial, skip (Option.some.inj hq).symm⟩
    · rename_i hb
      rw [g4 hb, if_neg (by simp)]
      exact ⟨fun _ _ => trivial, skip (Option.some.inj hq).symm⟩
    · cases hq
theorem eff_wp {i : Nat} {o : Oper} {ao : AO} {v : V} {H1 : List Ob} (hq : effOp call inl e H ao = some (v, H1)) (hL : K.lp = L) (hI : Inv K β H w) (hE : ER K β nt e a) (ho : ops[i]? = some o) (hc : cOperL P ops o = some ao)
    (hn : ∀ c K' β' w', VR K' β' v c → Inv K' β' H1 w' → Ev K β H w K' β' H1 w' → next (a.put o.dst c) w') : wpOpIn (Fr ro) bud P ops Q i next a w := by
  obtain ⟨hop, hd, ao', hc', hg', _⟩ := cOperL_op hc
  obtain ⟨g1, g2⟩ := guard_sound ⟨_, hc', hg'⟩ hE
  unfold wpOpIn
  simp only [ho]
  have go : (match evOp (evO e) H ao.op with
    | some (.val v H') => some (v, H')
    | some (.skip H') => some (uv, H')
    | some (.call f args) => match doCall call inl f args H with
      | some (.ret v, H') => some (v, H')
      | _ => none
    | _ => none) = some (v, H1) → o.wpIn (Fr ro) bud P a w next Q := by
    intro hgo
    cases hr : evOp (evO e) H ao.op with
    | none => rw [hr] at hgo; cases hgo
    | some r =>
      rw [hr] at hgo
      refine op_wp hcall (inl := inl) hop hr hL hI hE ?_ ?_ ?_
      · rintro u H2 (rfl | ⟨rfl, rfl⟩ | ⟨f, args, rfl, hdc⟩) c K1 β1 w1 hv i1 e1
        · cases hgo; exact hn c K1 β1 w1 hv i1 e1
        · cases hgo; exact hn c K1 β1 w1 hv i1 e1
        · simp only [hdc] at hgo; cases hgo; exact hn c K1 β1 w1 hv i1 e1
      · rintro u H2 (rfl | ⟨f, args, rfl, hdc⟩) c K1 β1 w1 hv i1 e1
        · cases hgo
        · simp only [hdc] at hgo; cases hgo
      · rintro f args rfl
        cases hdc : doCall call inl f args H with
        | none => simp only [hdc] at hgo; cases hgo
        | some y => exact ⟨y, rfl⟩
  have skip : v = uv → H1 = H → next (a.put o.dst Go.undef) w := fun hv hH => by
    subst hH; exact hn _ K β w (by rw [hv]; exact vr_uv K β) hI (.refl K β _ w)
  unfold effOp at hq
  cases hg : ao.guard with
  | none =>
    rw [hg] at hq
    rw [if_pos (g1 hg)]
    exact go hq
  | some tw =>
    obtain ⟨t, want⟩ := tw
    rw [hg] at hq
    obtain ⟨g3, g4⟩ := g2 t want hg
    simp only [] at hq
    split at hq
    · rename_i b hb
      split at hq
      · rename_i hbw
        rw [g3 b hb, if_pos (by simpa using hbw)]
        exact go hq
      · rename_i hbw
        rw [g3 b hb, if_neg (by simpa using hbw)]
        cases hq; exact ⟨fun _ _ => trivial, skip rfl rfl⟩
    · rename_i hb
      rw [g4 hb, if_neg (by simp)]
      cases hq; exact ⟨fun _ _ => trivial, skip rfl rfl⟩
    · cases hq
theorem drawN_sound (hm : P.follows .mixedOrders = true) {l : List AO} (hlen : l.length = ops.size) (hops : ∀ (j : Nat) (ao : AO), l[j]? = some ao → ∃ o, ops[j]? = some o ∧ cOperL P ops o = some ao) (hdst : ∀ ao ∈ l, ∀ t, ao.dst = some t → t < nt)
    {x : X} {e' : Env} {H' : List Ob} (h : runDrawN call inl l e H = some (x, e', H')) (hL : K.lp = L) (hI : Inv K β H w) (hE : ER K β nt e a) (id : Nat)
    (hQ : ∀ ex a' w', Post K β H w nt x e' H' a.defers ex a' w' → Q ex a' w') : (Code.region id ops true).wpIn (Fr ro) bud P Q a w := by
  unfold runDrawN at h
  split at h
  · cases h
  · rename_i t hs e1 htr
    split at h
    · rename_i hok
      simp only [Bool.and_eq_true] at hok
      obtain ⟨hok, hst⟩ := hok
      split at h
      · rename_i Hl hlast
        cases h
        obtain ⟨t1, t2, t3, t4, t5⟩ := trace_spec l e [H] t hs e' htr (by simp)
        generalize hvals : t.map (·.2.2) = vals at t4 t5
        unfold okDraw at hok
        simp only [Bool.and_eq_true] at hok
        obtain ⟨hafter, htouch⟩ := hok
        -- what stands ahead stands ahead
        have haft : ∀ (j : Nat) (o : AO), l[j]? = some o → ∀ i ∈ o.after, i < j := by
          intro j o hj i hi
          have := List.all_eq_true.1 hafter (o, j) (by rw [List.mem_zipIdx_iff_getElem?]; simpa using hj)
          have := List.all_eq_true.1 this i hi
          simpa using this
        have hanc : ∀ (j : Nat) (o : AO), l[j]? = some o → (ancs l)[j]? = some (uniqN (o.after.flatMap fun i => i :: (ancs l).getD i [])) := by
          intro j o hj
          have := (ancsGo_spec l [] fun j o hj i hi => by simpa using haft j o hj i hi).2 j o hj
          simpa [ancs] using this
        have htc : ∀ (i j : Nat) (p q : AO), l[i]? = some p → l[j]? = some q → i < j → (touches p q = true ∨ (p.eff = true ∧ q.eff = true)) → i ∈ (ancs l).getD j [] := by
          intro i j p q hi hj hij hor
          have := List.all_eq_true.1 htouch (p, i) (by rw [List.mem_zipIdx_iff_getElem?]; simpa using hi)
          have := List.all_eq_true.1 this (q, j) (by rw [List.mem_zipIdx_iff_getElem?]; simpa using hj)
          simp only [Bool.or_eq_true, Bool.not_eq_true', Bool.and_eq_false_iff, decide_eq_false_iff_not] at this
          rcases this with h | h
          · rcases h with h | h
            · exact absurd hij h
            · rcases hor with h2 | h2
              · rw [h2] at h; simp at h
              · rw [h2.1, h2.2] at h; simp at h
          · simpa using h
        have getl : ∀ i, i < l.length → ∃ o, l[i]? = some o ∧ l.getD i default = o := fun i hi => ⟨l[i], List.getElem?_eq_getElem hi, by simp [List.getD, hi]⟩
        have val : ∀ (j : Nat) (ej : Env) (k : Nat) (vj : V), t[j]? = some (ej, k, vj) → vals.getD j uv = vj := by
          intro j ej k vj hj
          rw [← hvals]; simp [List.getD, hj]
        -- the claim, for whatever has been done
        have main : ∀ (fuel : Nat) (listed : Array Bool) (K1 : Kn) (β1 : Bi) (a1 : Act) (w1 : World) (Hk : List Ob), listed.size = ops.size →
            (∀ (i : Nat) (o : AO), listed.getD i false = true → l[i]? = some o → ∀ p ∈ o.after, listed.getD p false = true) →
            ((List.range ops.size).filter fun i => !listed.getD i false).length ≤ fuel →
            ER K1 β1 nt (envK l vals e (fun i => listed.getD i false) l.length) a1 → hs[ceK l (fun i => listed.getD i false) l.length]? = some Hk → Inv K1 β1 Hk w1 → Ev K β H w K1 β1 Hk w1 → a1.defers = a.defers →
            wpAnyIn (Fr ro) bud P .any ops Q fuel listed a1 w1 := by
          intro fuel
          have last : ∀ (listed : Array Bool) (K1 : Kn) (β1 : Bi) (a1 : Act) (w1 : World) (Hk : List Ob), listed.size = ops.size →
              Region.ready .any ops listed = [] →
              ER K1 β1 nt (envK l vals e (fun i => listed.getD i false) l.length) a1 → hs[ceK l (fun i => listed.getD i false) l.length]? = some Hk → Inv K1 β1 Hk w1 → Ev K β H w K1 β1 Hk w1 → a1.defers = a.defers → Q .normal a1 w1 := by
            intro listed K1 β1 a1 w1 Hk hsz hr hE1 hHk hI1 hEv hdf
            have all : ∀ j, j < ops.size → listed.getD j false = true := by
              intro j
              induction j using Nat.strongRecOn with
              | _ j ih =>
                intro hj
                apply Decidable.byContradiction
                intro hn
                obtain ⟨o, ho, _⟩ := getl j (by omega)
                obtain ⟨oo, hoo, hco⟩ := hops j o ho
                have : j ∈ Region.ready .any ops listed := by
                  unfold Region.ready
                  rw [List.mem_filter]
                  refine ⟨List.mem_range.2 hj, ?_⟩
                  have h1 : listed.getD j true = false := by
                    have hjl : j < listed.size := by omega
                    simp [Array.getD_eq_getD_getElem?, hjl] at hn ⊢
                    exact hn
                  simp only [h1, Bool.not_false, Bool.true_and, hoo, Option.map_some, Option.getD_some]
                  rw [Array.all_eq_true']
                  intro ed hed
                  cases hb : Region.binds .any ed with
                  | false => simp
                  | true =>
                    have hin : ed.on ∈ o.after := by
                      obtain ⟨_, _, ao', hco', _, hca⟩ := cOperL_op hco
                      rw [← hca]
                      unfold cOper at hco'
                      split at hco' <;> cases hco'
                      simp only [List.mem_map, List.mem_filter]
                      exact ⟨ed, ⟨by simpa using hed, hb⟩, rfl⟩
                    have hlt := haft j o ho ed.on hin
                    simp [ih ed.on hlt (by omega)]
                rw [hr] at this; cases this
            have eAll : envK l vals e (fun i => listed.getD i false) l.length = envK l vals e (fun _ => true) l.length := by
              funext τ; exact envK_agree _ fun i hi _ => all i (by omega)
            have cAll : ceK l (fun i => listed.getD i false) l.length = cnt l := by
              rw [ceK_congr (q := fun _ => true) _ fun i hi _ => all i (by omega), ceK_cnt _ (Nat.le_refl _), List.take_length]
            rw [eAll, ← t4] at hE1
            have hH : Hk = H' := by
              rw [cAll] at hHk
              rw [List.getLast?_eq_getElem?, t2] at hlast
              simp only [List.length_singleton] at hlast
              rw [show 1 + cnt l - 1 = cnt l from by omega] at hlast
              rw [hlast] at hHk; exact (Option.some.inj hHk).symm
            subst hH
            exact hQ _ _ _ ⟨K1, β1, trivial, hE1, hI1, hEv, hdf⟩
          induction fuel with
          | zero =>
            intro listed K1 β1 a1 w1 Hk hsz hcl hfuel hE1 hHk hI1 hEv hdf
            have hr : Region.ready .any ops listed = [] := by
              unfold Region.ready
              rw [List.filter_eq_nil_iff]
              intro i hi hc
              simp only [Bool.and_eq_true, Bool.not_eq_true'] at hc
              have hn : ((List.range ops.size).filter fun i => !listed.getD i false) = [] := List.eq_nil_of_length_eq_zero (by omega)
              have := List.filter_eq_nil_iff.1 hn i hi
              have hil : i < listed.size := by rw [hsz]; exact List.mem_range.1 hi
              have h1 := hc.1
              simp [Array.getD_eq_getD_getElem?, hil] at this h1
              rw [this] at h1; cases h1
            exact ⟨hr, last listed K1 β1 a1 w1 Hk hsz hr hE1 hHk hI1 hEv hdf⟩
          | succ fuel ih =>
            intro listed K1 β1 a1 w1 Hk hsz hcl hfuel hE1 hHk hI1 hEv hdf
            refine ⟨fun hr => last listed K1 β1 a1 w1 Hk hsz hr hE1 hHk hI1 hEv hdf, fun j hj => ?_⟩
            unfold Region.ready at hj
            rw [List.mem_filter] at hj
            obtain ⟨hjr, hj⟩ := hj
            have hjn : j < ops.size := List.mem_range.1 hjr
            have hjl : j < listed.size := by omega
            simp only [Bool.and_eq_true, Bool.not_eq_true'] at hj
            obtain ⟨hj1, hj2⟩ := hj
            have hSj : listed.getD j false = false := by
              simp [Array.getD_eq_getD_getElem?, hjl] at hj1 ⊢; exact hj1
            obtain ⟨o, ho, hod⟩ := getl j (by omega)
            obtain ⟨oo, hoo, hco⟩ := hops j o ho
            have haftS : ∀ p ∈ o.after, listed.getD p false = true := by
              intro p hp
              obtain ⟨_, _, ao', hco', _, hca⟩ := cOperL_op hco
              rw [← hca] at hp
              unfold cOper at hco'
              split at hco' <;> cases hco'
              simp only [List.mem_map, List.mem_filter] at hp
              obtain ⟨ed, ⟨hed, hb⟩, rfl⟩ := hp
              rw [hoo] at hj2
              simp only [Option.map_some, Option.getD_some] at hj2
              rw [Array.all_eq_true'] at hj2
              have := hj2 ed (by simpa using hed)
              simpa [hb] using this
            -- what stands ahead, the farther ones too, is done
            have ancS : ∀ (j : Nat) (o : AO), l[j]? = some o → (∀ p ∈ o.after, listed.getD p false = true) → ∀ q ∈ (ancs l).getD j [], listed.getD q false = true := by
              intro j
              induction j using Nat.strongRecOn with
              | _ j ihj =>
                intro o ho hp q hq
                rw [List.getD_eq_getElem?_getD, hanc j o ho, Option.getD_some, mem_uniqN, List.mem_flatMap] at hq
                obtain ⟨p, hpm, hq⟩ := hq
                rcases List.mem_cons.1 hq with rfl | hq
                · exact hp _ hpm
                · have hpl := haft j o ho p hpm
                  have hjl := (List.getElem?_eq_some_iff.1 ho).1
                  obtain ⟨po, hpo, _⟩ := getl p (by omega)
                  exact ihj p hpl po hpo (hcl p po (hp p hpm) hpo) q hq
            have anc1 := ancS j o ho haftS
            have anc2 : ∀ (i : Nat) (oi : AO), l[i]? = some oi → listed.getD i false = true → j ∉ (ancs l).getD i [] := by
              intro i oi hi hSi hmem
              have := ancS i oi hi (hcl i oi hSi hi) j hmem
              rw [hSj] at this; cases this
            -- the temporaries that it looks at
            obtain ⟨ej, k, vj, Hj, q1, q2, q3, q4, q5⟩ := t5 j o ho
            have hvj := val j ej k vj q1
            have henv : ∀ τ ∈ uses o, envK l vals e (fun i => listed.getD i false) l.length τ = ej τ := by
              intro τ hτ
              rw [q2, ← envK_before l.length (by omega)]
              refine envK_agree _ fun i hi hdi => ?_
              obtain ⟨oi, hoi, hoid⟩ := getl i hi
              rw [hoid] at hdi
              by_cases hij : i < j
              · have : i ∈ (ancs l).getD j [] := htc i j oi o hoi ho hij (.inl (by simp [touches, hdi, hτ]))
                simp [anc1 i this, hij]
              · have hSi : listed.getD i false = false := by
                  apply Bool.eq_false_iff.2
                  intro hSi
                  have hne : i ≠ j := by rintro rfl; rw [hSj] at hSi; cases hSi
                  exact anc2 i oi hoi hSi (htc j i o oi ho hoi (by omega) (.inl (by simp [touches, hdi, hτ])))
                rw [hSi]; simp [hij]
            -- behind it
            have hset : ∀ i, (listed.setIfInBounds j true).getD i false = (listed.getD i false || i == j) := by
              intro i
              simp only [Array.getD_eq_getD_getElem?, Array.getElem?_setIfInBounds]
              by_cases hij : j = i
              · subst hij; simp [hjl]
              · have : (i == j) = false := by simp; omega
                simp [hij, this]
            have after : ∀ (c : Value) (K2 : Kn) (β2 : Bi) (w2 : World) (H2 : List Ob), VR K2 β2 vj c → Inv K2 β2 H2 w2 → Ev K1 β1 Hk w1 K2 β2 H2 w2 →
                hs[ceK l (fun i => listed.getD i false || i == j) l.length]? = some H2 → wpAnyIn (Fr ro) bud P .any ops Q fuel (listed.setIfInBounds j true) (a1.put oo.dst c) w2 := by
              intro c K2 β2 w2 H2 hv i2 e2 hH2
              have hfun : (fun i => (listed.setIfInBounds j true).getD i false) = fun i => listed.getD i false || i == j := funext hset
              refine ih (listed.setIfInBounds j true) K2 β2 _ w2 H2 (by simpa using hsz) ?_ ?_ ?_ (by rw [hfun]; exact hH2) i2 (hEv.trans e2) (by rw [put_defers]; exact hdf)
              · intro i oi hSi hoi p hp
                rw [hset] at hSi ⊢
                rw [Bool.or_eq_true] at hSi
                rcases hSi with hSi | hSi
                · simp [hcl i oi hSi hoi p hp]
                · have : i = j := by simpa using hSi
                  subst this
                  rw [ho] at hoi; cases hoi
                  simp [haftS p hp]
              · have hfl : (fun i => !(listed.setIfInBounds j true).getD i false) = fun i => !(listed.getD i false) && !(i == j) := by
                  funext i; rw [hset]; cases listed.getD i false <;> simp
                rw [hfl]
                have hlt := filter_lt (g := fun i => !(listed.getD i false) && !(i == j)) (h := fun i => !(listed.getD i false)) (j := j) (fun i hi => (Bool.and_eq_true _ _ ▸ hi : _ ∧ _).1) (by simp) (by simp [hSj])
                have := hlt (List.range ops.size) hjr
                omega
              · have hdd := (cOperL_op hco).2.1
                have hput := (hE1.mono e2.k e2.b).put (d := o.dst) (hdst o (List.mem_of_getElem? ho)) hv
                refine ⟨by rw [← hdd]; exact hput.size, fun τ => ?_⟩
                rw [hfun, envK_insert (by omega) hSj ?_ τ, hod, hvj, ← hdd]
                · exact hput.val τ
                · intro i hji hil hSi τ hd1 hd2
                  obtain ⟨oi, hoi, hoid⟩ := getl i hil
                  rw [hod] at hd1; rw [hoid] at hd2
                  exact anc2 i oi hoi hSi (htc j i o oi ho hoi hji (.inl (by simp [touches, hd1, hd2])))
            cases heff : o.eff with
            | true =>
              obtain ⟨H2, r1, r2⟩ := q4 heff
              have hcj : ceK l (fun i => listed.getD i false) l.length = cnt (l.take j) := by
                rw [← ceK_cnt j (by omega), ← ceK_before l.length (by omega)]
                refine ceK_congr _ fun i hi hei => ?_
                obtain ⟨oi, hoi, hoid⟩ := getl i hi
                rw [hoid] at hei
                by_cases hij : i < j
                · have := htc i j oi o hoi ho hij (.inr ⟨hei, heff⟩)
                  simp [anc1 i this, hij]
                · have hSi : listed.getD i false = false := by
                    apply Bool.eq_false_iff.2
                    intro hSi
                    have hne : i ≠ j := by rintro rfl; rw [hSj] at hSi; cases hSi
                    exact anc2 i oi hoi hSi (htc j i o oi ho hoi (by omega) (.inr ⟨heff, hei⟩))
                  rw [hSi]; simp [hij]
              have hHj : Hj = Hk := by
                rw [hcj] at hHk
                simp only [List.length_singleton, Nat.sub_self, Nat.zero_add] at q3
                rw [q3] at hHk; exact Option.some.inj hHk
              subst hHj
              rw [← effOp_congr henv] at r2
              refine eff_wp hcall r2 (hEv.k.2.2.trans hL) hI1 hE1 hoo hco fun c K2 β2 w2 hv i2 e2 => after c K2 β2 w2 H2 hv i2 e2 ?_
              rw [ceK_insert hSj _ (by omega), hod, heff, hcj]
              simp only [List.length_singleton] at r1
              rw [← r1]; congr 1; simp; omega
            | false =>
              have hq := steadyAll_spec l 0 t hst j o ej k vj ho q1 heff (ceK l (fun i => listed.getD i false) l.length) Hk ?_ ?_ hHk
              · rw [← quietOp_congr henv] at hq
                refine quiet_wp hcall hq (hEv.k.2.2.trans hL) hI1 hE1 hoo hco fun c K2 β2 w2 hv i2 e2 => after c K2 β2 w2 Hk hv i2 e2 ?_
                rw [ceK_insert hSj _ (by omega), hod, heff]; simpa using hHk
              · rw [Nat.zero_add]
                exact ceK_mono _ fun i hi hp _ => anc1 i (by simpa using hp)
              · rw [Nat.zero_add]
                refine ceK_mono _ fun i hi hp _ => ?_
                obtain ⟨oi, hoi, _⟩ := getl i hi
                simpa using anc2 i oi hoi hp
        refine wpIn_region_any hm ?_
        refine main ops.size (Array.replicate ops.size false) K β a _ H (by simp) ?_ ?_ ?_ ?_ (hI.drawn rfl) (.drawn rfl rfl rfl rfl) rfl
        · intro i o hi
          simp [Array.getD_eq_getD_getElem?, Array.getElem?_replicate] at hi
          split at hi <;> simp at hi
        · exact Nat.le_trans (List.length_filter_le _ _) (by simp)
        · have hz : ∀ i, (Array.replicate ops.size false).getD i false = false := fun i => by
            simp only [Array.getD_eq_getD_getElem?, Array.getElem?_replicate]; split <;> rfl
          have : ∀ n, envK l vals e (fun i => (Array.replicate ops.size false).getD i false) n = e := by
            intro n
            induction n with
            | zero => rfl
            | succ n ih =>
              simp only [envK]
              rw [if_neg (by rw [hz]; simp)]; exact ih
          rw [this]; exact hE
        · have hz : ∀ i, (Array.replicate ops.size false).getD i false = false := fun i => by
            simp only [Array.getD_eq_getD_getElem?, Array.getElem?_replicate]; split <;> rfl
          have : ∀ n, ceK l (fun i => (Array.replicate ops.size false).getD i false) n = 0 := by
            intro n
            induction n with
            | zero => rfl
            | succ n ih =>
              simp only [ceK]
              rw [ih, if_neg (by rw [hz]; simp)]
          rw [this, t3 0 (by simp)]; rfl
      · cases h
    · cases h
end
end Fz
namespace Fz
open Go
theorem okDraw_spec {l : List AO} (hok : okDraw l = true) : (∀ (j : Nat) (o : AO), l[j]? = some o → ∀ i ∈ o.after, i < j) ∧
    (∀ (j : Nat) (o : AO), l[j]? = some o → (ancs l)[j]? = some (uniqN (o.after.flatMap fun i => i :: (ancs l).getD i []))) ∧
    (∀ (i j : Nat) (p q : AO), l[i]? = some p → l[j]? = some q → i < j → (touches p q = true ∨ (p.eff = true ∧ q.eff = true)) → i ∈ (ancs l).getD j []) := by
  unfold okDraw at hok
  simp only [Bool.and_eq_true] at hok
  obtain ⟨hafter, htouch⟩ := hok
  have haft : ∀ (j : Nat) (o : AO), l[j]? = some o → ∀ i ∈ o.after, i < j := by
    intro j o hj i hi
    have := List.all_eq_true.1 hafter (o, j) (by rw [List.mem_zipIdx_iff_getElem?]; simpa using hj)
    have := List.all_eq_true.1 this i hi
    simpa using this
  refine ⟨haft, ?_, ?_⟩
  · intro j o hj
    have := (ancsGo_spec l [] fun j o hj i hi => by simpa using haft j o hj i hi).2 j o hj
    simpa [ancs] using this
  · intro i j p q hi hj hij hor
    have := List.all_eq_true.1 htouch (p, i) (by rw [List.mem_zipIdx_iff_getElem?]; simpa using hi)
    have := List.all_eq_true.1 this (q, j) (by rw [List.mem_zipIdx_iff_getElem?]; simpa using hj)
    simp only [Bool.or_eq_true, Bool.not_eq_true', Bool.and_eq_false_iff, decide_eq_false_iff_not] at this
    rcases this with h | h
    · rcases h with h | h
      · exact absurd hij h
      · rcases hor with h2 | h2
        · rw [h2] at h; simp at h
        · rw [h2.1, h2.2] at h; simp at h
    · simpa using h
theorem ancs_done {l : List AO} (hok : okDraw l = true) {listed : Array Bool} (hcl : ∀ (i : Nat) (o : AO), listed.getD i false = true → l[i]? = some o → ∀ p ∈ o.after, listed.getD p false = true) :
    ∀ (j : Nat) (o : AO), l[j]? = some o → (∀ p ∈ o.after, listed.getD p false = true) → ∀ q ∈ (ancs l).getD j [], listed.getD q false = true := by
  obtain ⟨haft, hanc, _⟩ := okDraw_spec hok
  intro j
  induction j using Nat.strongRecOn with
  | _ j ihj =>
    intro o ho hp q hq
    rw [List.getD_eq_getElem?_getD, hanc j o ho, Option.getD_some, mem_uniqN, List.mem_flatMap] at hq
    obtain ⟨p, hpm, hq⟩ := hq
    rcases List.mem_cons.1 hq with rfl | hq
    · exact hp _ hpm
    · have hpl := haft j o ho p hpm
      have hjl := (List.getElem?_eq_some_iff.1 ho).1
      have hpo : l[p]? = some l[p] := List.getElem?_eq_getElem (by omega)
      exact ihj p hpl _ hpo (hcl p _ (hp p hpm) hpo) q hq
section
variable {ro : Option Nat} {bud : Nat} {P : Program} {L : LpT} {call : CallT} (hcall : CallOk P L call) {inl : FuncId → Bool} {ops : Array Oper} {nt : Nat}
variable {e : Env} {H : List Ob} {K : Kn} {β : Bi} {a : Act} {w : World} {Q : Exit → Act → World → Prop} {next : Act → World → Prop}
include hcall
theorem pan_wp {i : Nat} {o : Oper} {ao : AO} {v : V} {H1 : List Ob} (hq : effPan call inl e H ao = some (v, H1)) (hL : K.lp = L) (hI : Inv K β H w) (hE : ER K β nt e a) (ho : ops[i]? = some o) (hc : cOperL P ops o = some ao)
    (hn : ∀ c K' β' w', VR K' β' v c → Inv K' β' H1 w' → Ev K β H w K' β' H1 w' → Q (.panic [{ v := c, recovered := false }]) a w') : wpOpIn (Fr ro) bud P ops Q i next a w := by
  obtain ⟨hop, hd, ao', hc', hg', _⟩ := cOperL_op hc
  obtain ⟨g1, g2⟩ := guard_sound ⟨_, hc', hg'⟩ hE
  unfold wpOpIn
  simp only [ho]
  unfold effPan at hq
  cases hg : ao.guard with
  | some tw => rw [hg] at hq; simp at hq
  | none =>
    rw [hg] at hq
    simp only [Option.isSome_none, Bool.false_eq_true, if_false] at hq
    rw [if_pos (g1 hg)]
    cases hr : evOp (evO e) H ao.op with
    | none => rw [hr] at hq; cases hq
    | some r =>
      rw [hr] at hq
      refine op_wp hcall (inl := inl) hop hr hL hI hE ?_ ?_ ?_
      · rintro u H2 (rfl | ⟨rfl, rfl⟩ | ⟨f, args, rfl, hdc⟩) c K1 β1 w1 hv i1 e1
        · cases hq
        · cases hq
        · simp only [hdc] at hq; cases hq
      · rintro u H2 (rfl | ⟨f, args, rfl, hdc⟩) c K1 β1 w1 hv i1 e1
        · cases hq; exact hn c K1 β1 w1 hv i1 e1
        · simp only [hdc] at hq; cases hq; exact hn c K1 β1 w1 hv i1 e1
      · rintro f args rfl
        cases hdc : doCall call inl f args H with
        | none => simp only [hdc] at hq; cases hq
        | some y => exact ⟨y, rfl⟩
theorem pan_sound (hm : P.follows .mixedOrders = true) {l : List AO} (hlen : l.length = ops.size) (hops : ∀ (j : Nat) (ao : AO), l[j]? = some ao → ∃ o, ops[j]? = some o ∧ cOperL P ops o = some ao) (hdst : ∀ ao ∈ l, ∀ t, ao.dst = some t → t < nt)
    {q : Nat} {x : X} {e' : Env} {H' : List Ob} (h : runPan call inl l e H q = some (x, e', H')) (hL : K.lp = L) (hI : Inv K β H w) (hE : ER K β nt e a) (id : Nat)
    (hQ : ∀ ex a' w', Post K β H w nt x e' H' a.defers ex a' w' → Q ex a' w') : (Code.region id ops true).wpIn (Fr ro) bud P Q a w := by
  unfold runPan at h
  split at h
  · cases h
  · rename_i t hs e1 htr
    split at h
    · rename_i Hl oq hlast hoq
      split at h
      · rename_i vq Hq hpan
        split at h
        · rename_i hok
          cases h
          simp only [Bool.and_eq_true] at hok
          obtain ⟨⟨⟨⟨hokl, hokp⟩, heffq⟩, hlate⟩, hst⟩ := hok
          have hql : q < l.length := (List.getElem?_eq_some_iff.1 hoq).1
          generalize hpre : l.take q = pre at *
          have hpl : pre.length = q := by rw [← hpre, List.length_take]; omega
          have hpg : ∀ j, j < q → pre[j]? = l[j]? := fun j hj => by rw [← hpre, List.getElem?_take, if_pos hj]
          obtain ⟨t1, t2, t3, t4, t5⟩ := trace_spec pre e [H] t hs e1 htr (by simp)
          generalize hvals : t.map (·.2.2) = vals at t4 t5
          obtain ⟨haft, hanc, htc⟩ := okDraw_spec hokl
          obtain ⟨haftp, hancp, htcp⟩ := okDraw_spec hokp
          have getl : ∀ i, i < pre.length → ∃ o, pre[i]? = some o ∧ pre.getD i default = o := fun i hi => ⟨pre[i], List.getElem?_eq_getElem hi, by simp [List.getD, hi]⟩
          have val : ∀ (j : Nat) (ej : Env) (k : Nat) (vj : V), t[j]? = some (ej, k, vj) → vals.getD j uv = vj := by
            intro j ej k vj hj
            rw [← hvals]; simp [List.getD, hj]
          have later : ∀ j, q < j → j < l.length → q ∈ (ancs l).getD j [] := by
            intro j h1 h2
            have := List.all_eq_true.1 hlate j (List.mem_range.2 h2)
            rw [Bool.or_eq_true] at this
            rcases this with h | h
            · have := of_decide_eq_true h; omega
            · simpa using h
          -- the claim, for whatever has been done
          have main : ∀ (fuel : Nat) (listed : Array Bool) (K1 : Kn) (β1 : Bi) (a1 : Act) (w1 : World) (Hk : List Ob), listed.size = ops.size →
              (∀ i, listed.getD i false = true → i < q) →
              (∀ (i : Nat) (o : AO), listed.getD i false = true → l[i]? = some o → ∀ p ∈ o.after, listed.getD p false = true) →
              ((List.range ops.size).filter fun i => !listed.getD i false).length ≤ fuel →
              ER K1 β1 nt (envK pre vals e (fun i => listed.getD i false) pre.length) a1 → hs[ceK pre (fun i => listed.getD i false) pre.length]? = some Hk → Inv K1 β1 Hk w1 → Ev K β H w K1 β1 Hk w1 → a1.defers = a.defers →
              wpAnyIn (Fr ro) bud P .any ops Q fuel listed a1 w1 := by
            intro fuel
            have notall : ∀ (listed : Array Bool), listed.size = ops.size → (∀ i, listed.getD i false = true → i < q) → Region.ready .any ops listed = [] → False := by
              intro listed hsz hlt hr
              have all : ∀ j, j < ops.size → listed.getD j false = true := by
                intro j
                induction j using Nat.strongRecOn with
                | _ j ih =>
                  intro hj
                  apply Decidable.byContradiction
                  intro hn
                  have ho : l[j]? = some l[j] := List.getElem?_eq_getElem (by omega)
                  obtain ⟨oo, hoo, hco⟩ := hops j _ ho
                  have : j ∈ Region.ready .any ops listed := by
                    unfold Region.ready
                    rw [List.mem_filter]
                    refine ⟨List.mem_range.2 hj, ?_⟩
                    have h1 : listed.getD j true = false := by
                      have hjl : j < listed.size := by omega
                      simp [Array.getD_eq_getD_getElem?, hjl] at hn ⊢
                      exact hn
                    simp only [h1, Bool.not_false, Bool.true_and, hoo, Option.map_some, Option.getD_some]
                    rw [Array.all_eq_true']
                    intro ed hed
                    cases hb : Region.binds .any ed with
                    | false => simp
                    | true =>
                      have hin : ed.on ∈ (l[j]).after := by
                        obtain ⟨_, _, ao', hco', _, hca⟩ := cOperL_op hco
                        rw [← hca]
                        unfold cOper at hco'
                        split at hco' <;> cases hco'
                        simp only [List.mem_map, List.mem_filter]
                        exact ⟨ed, ⟨by simpa using hed, hb⟩, rfl⟩
                      have hlt := haft j _ ho ed.on hin
                      simp [ih ed.on hlt (by omega)]
                  rw [hr] at this; cases this
              have := hlt q (all q (by omega))
              omega
            induction fuel with
            | zero =>
              intro listed K1 β1 a1 w1 Hk hsz hlt hcl hfuel hE1 hHk hI1 hEv hdf
              exfalso
              refine notall listed hsz hlt ?_
              unfold Region.ready
              rw [List.filter_eq_nil_iff]
              intro i hi hc
              simp only [Bool.and_eq_true, Bool.not_eq_true'] at hc
              have hn : ((List.range ops.size).filter fun i => !listed.getD i false) = [] := List.eq_nil_of_length_eq_zero (by omega)
              have := List.filter_eq_nil_iff.1 hn i hi
              have hil : i < listed.size := by rw [hsz]; exact List.mem_range.1 hi
              have h1 := hc.1
              simp [Array.getD_eq_getD_getElem?, hil] at this h1
              rw [this] at h1; cases h1
            | succ fuel ih =>
              intro listed K1 β1 a1 w1 Hk hsz hlt hcl hfuel hE1 hHk hI1 hEv hdf
              refine ⟨fun hr => (notall listed hsz hlt hr).elim, fun j hj => ?_⟩
              unfold Region.ready at hj
              rw [List.mem_filter] at hj
              obtain ⟨hjr, hj⟩ := hj
              have hjn : j < ops.size := List.mem_range.1 hjr
              have hjl : j < listed.size := by omega
              simp only [Bool.and_eq_true, Bool.not_eq_true'] at hj
              obtain ⟨hj1, hj2⟩ := hj
              have hSj : listed.getD j false = false := by
                simp [Array.getD_eq_getD_getElem?, hjl] at hj1 ⊢; exact hj1
              have hol : l[j]? = some l[j] := List.getElem?_eq_getElem (by omega)
              generalize hog : l[j] = o at hol
              obtain ⟨oo, hoo, hco⟩ := hops j o hol
              have haftS : ∀ p ∈ o.after, listed.getD p false = true := by
                intro p hp
                obtain ⟨_, _, ao', hco', _, hca⟩ := cOperL_op hco
                rw [← hca] at hp
                unfold cOper at hco'
                split at hco' <;> cases hco'
                simp only [List.mem_map, List.mem_filter] at hp
                obtain ⟨ed, ⟨hed, hb⟩, rfl⟩ := hp
                rw [hoo] at hj2
                simp only [Option.map_some, Option.getD_some] at hj2
                rw [Array.all_eq_true'] at hj2
                have := hj2 ed (by simpa using hed)
                simpa [hb] using this
              have ancL := ancs_done hokl hcl j o hol haftS
              have hjq : j ≤ q := by
                apply Decidable.byContradiction
                intro hn
                have := hlt q (ancL q (later j (by omega) (by omega)))
                omega
              have hclp : ∀ (i : Nat) (o : AO), listed.getD i false = true → pre[i]? = some o → ∀ p ∈ o.after, listed.getD p false = true := by
                intro i oi hSi hi
                rw [hpg i (hlt i hSi)] at hi
                exact hcl i oi hSi hi
              have ancP := ancs_done hokp hclp
              rcases Nat.lt_or_eq_of_le hjq with hjq | rfl
              · have ho : pre[j]? = some o := by rw [hpg j hjq]; exact hol
                have hod : pre.getD j default = o := by rw [List.getD_eq_getElem?_getD, ho]; rfl
                have anc1 := ancP j o ho haftS
                have anc2 : ∀ (i : Nat) (oi : AO), pre[i]? = some oi → listed.getD i false = true → j ∉ (ancs pre).getD i [] := by
                  intro i oi hi hSi hmem
                  have := ancP i oi hi (hclp i oi hSi hi) j hmem
                  rw [hSj] at this; cases this
                obtain ⟨ej, k, vj, Hj, q1, q2, q3, q4, q5⟩ := t5 j o ho
                have hvj := val j ej k vj q1
                have henv : ∀ τ ∈ uses o, envK pre vals e (fun i => listed.getD i false) pre.length τ = ej τ := by
                  intro τ hτ
                  rw [q2, ← envK_before pre.length (by omega)]
                  refine envK_agree _ fun i hi hdi => ?_
                  obtain ⟨oi, hoi, hoid⟩ := getl i hi
                  rw [hoid] at hdi
                  by_cases hij : i < j
                  · have : i ∈ (ancs pre).getD j [] := htcp i j oi o hoi ho hij (.inl (by simp [touches, hdi, hτ]))
                    simp [anc1 i this, hij]
                  · have hSi : listed.getD i false = false := by
                      apply Bool.eq_false_iff.2
                      intro hSi
                      have hne : i ≠ j := by rintro rfl; rw [hSj] at hSi; cases hSi
                      exact anc2 i oi hoi hSi (htcp j i o oi ho hoi (by omega) (.inl (by simp [touches, hdi, hτ])))
                    rw [hSi]; simp [hij]
                have hset : ∀ i, (listed.setIfInBounds j true).getD i false = (listed.getD i false || i == j) := by
                  intro i
                  simp only [Array.getD_eq_getD_getElem?, Array.getElem?_setIfInBounds]
                  by_cases hij : j = i
                  · subst hij; simp [hjl]
                  · have : (i == j) = false := by simp; omega
                    simp [hij, this]
                have after : ∀ (c : Value) (K2 : Kn) (β2 : Bi) (w2 : World) (H2 : List Ob), VR K2 β2 vj c → Inv K2 β2 H2 w2 → Ev K1 β1 Hk w1 K2 β2 H2 w2 →
                    hs[ceK pre (fun i => listed.getD i false || i == j) pre.length]? = some H2 → wpAnyIn (Fr ro) bud P .any ops Q fuel (listed.setIfInBounds j true) (a1.put oo.dst c) w2 := by
                  intro c K2 β2 w2 H2 hv i2 e2 hH2
                  have hfun : (fun i => (listed.setIfInBounds j true).getD i false) = fun i => listed.getD i false || i == j := funext hset
                  refine ih (listed.setIfInBounds j true) K2 β2 _ w2 H2 (by simpa using hsz) ?_ ?_ ?_ ?_ (by rw [hfun]; exact hH2) i2 (hEv.trans e2) (by rw [put_defers]; exact hdf)
                  · intro i hSi
                    rw [hset, Bool.or_eq_true] at hSi
                    rcases hSi with hSi | hSi
                    · exact hlt i hSi
                    · have : i = j := by simpa using hSi
                      omega
                  · intro i oi hSi hoi p hp
                    rw [hset] at hSi ⊢
                    rw [Bool.or_eq_true] at hSi
                    rcases hSi with hSi | hSi
                    · simp [hcl i oi hSi hoi p hp]
                    · have : i = j := by simpa using hSi
                      subst this
                      rw [hol] at hoi; cases hoi
                      simp [haftS p hp]
                  · have hfl : (fun i => !(listed.setIfInBounds j true).getD i false) = fun i => !(listed.getD i false) && !(i == j) := by
                      funext i; rw [hset]; cases listed.getD i false <;> simp
                    rw [hfl]
                    have hlt := filter_lt (g := fun i => !(listed.getD i false) && !(i == j)) (h := fun i => !(listed.getD i false)) (j := j) (fun i hi => (Bool.and_eq_true _ _ ▸ hi : _ ∧ _).1) (by simp) (by simp [hSj])
                    have := hlt (List.range ops.size) hjr
                    omega
                  · have hdd := (cOperL_op hco).2.1
                    have hput := (hE1.mono e2.k e2.b).put (d := o.dst) (hdst o (List.mem_of_getElem? hol)) hv
                    refine ⟨by rw [← hdd]; exact hput.size, fun τ => ?_⟩
                    rw [hfun, envK_insert (by omega) hSj ?_ τ, hod, hvj, ← hdd]
                    · exact hput.val τ
                    · intro i hji hil hSi τ hd1 hd2
                      obtain ⟨oi, hoi, hoid⟩ := getl i hil
                      rw [hod] at hd1; rw [hoid] at hd2
                      exact anc2 i oi hoi hSi (htcp j i o oi ho hoi hji (.inl (by simp [touches, hd1, hd2])))
                cases heff : o.eff with
                | true =>
                  obtain ⟨H2, r1, r2⟩ := q4 heff
                  have hcj : ceK pre (fun i => listed.getD i false) pre.length = cnt (pre.take j) := by
                    rw [← ceK_cnt j (by omega), ← ceK_before pre.length (by omega)]
                    refine ceK_congr _ fun i hi hei => ?_
                    obtain ⟨oi, hoi, hoid⟩ := getl i hi
                    rw [hoid] at hei
                    by_cases hij : i < j
                    · have := htcp i j oi o hoi ho hij (.inr ⟨hei, heff⟩)
                      simp [anc1 i this, hij]
                    · have hSi : listed.getD i false = false := by
                        apply Bool.eq_false_iff.2
                        intro hSi
                        have hne : i ≠ j := by rintro rfl; rw [hSj] at hSi; cases hSi
                        exact anc2 i oi hoi hSi (htcp j i o oi ho hoi (by omega) (.inr ⟨heff, hei⟩))
                      rw [hSi]; simp [hij]
                  have hHj : Hj = Hk := by
                    rw [hcj] at hHk
                    simp only [List.length_singleton, Nat.sub_self, Nat.zero_add] at q3
                    rw [q3] at hHk; exact Option.some.inj hHk
                  subst hHj
                  rw [← effOp_congr henv] at r2
                  refine eff_wp hcall r2 (hEv.k.2.2.trans hL) hI1 hE1 hoo hco fun c K2 β2 w2 hv i2 e2 => after c K2 β2 w2 H2 hv i2 e2 ?_
                  rw [ceK_insert hSj _ (by omega), hod, heff, hcj]
                  simp only [List.length_singleton] at r1
                  rw [← r1]; congr 1; simp; omega
                | false =>
                  have hq := steadyAll_spec pre 0 t hst j o ej k vj ho q1 heff (ceK pre (fun i => listed.getD i false) pre.length) Hk ?_ ?_ hHk
                  · rw [← quietOp_congr henv] at hq
                    refine quiet_wp hcall hq (hEv.k.2.2.trans hL) hI1 hE1 hoo hco fun c K2 β2 w2 hv i2 e2 => after c K2 β2 w2 Hk hv i2 e2 ?_
                    rw [ceK_insert hSj _ (by omega), hod, heff]; simpa using hHk
                  · rw [Nat.zero_add]
                    exact ceK_mono _ fun i hi hp _ => anc1 i (by simpa using hp)
                  · rw [Nat.zero_add]
                    refine ceK_mono _ fun i hi hp _ => ?_
                    obtain ⟨oi, hoi, _⟩ := getl i hi
                    simpa using anc2 i oi hoi hp
              · -- the act that gives up
                rw [hoq] at hol
                cases hol
                have henv : ∀ τ ∈ uses oq, envK pre vals e (fun i => listed.getD i false) pre.length τ = e1 τ := by
                  intro τ hτ
                  rw [t4]
                  refine envK_agree _ fun i hi hdi => ?_
                  obtain ⟨oi, hoi, hoid⟩ := getl i hi
                  rw [hoid] at hdi
                  exact ancL i (htc i j oi oq (by rw [← hpg i (by omega)]; exact hoi) hoq (by omega) (.inl (by simp [touches, hdi, hτ])))
                have hcj : ceK pre (fun i => listed.getD i false) pre.length = cnt pre := by
                  rw [← List.take_length (l := pre), ← ceK_cnt _ (Nat.le_refl _), List.take_length]
                  refine ceK_congr _ fun i hi hei => ?_
                  obtain ⟨oi, hoi, hoid⟩ := getl i hi
                  rw [hoid] at hei
                  exact ancL i (htc i j oi oq (by rw [← hpg i (by omega)]; exact hoi) hoq (by omega) (.inr ⟨hei, heffq⟩))
                have hHk' : Hk = Hl := by
                  rw [hcj] at hHk
                  rw [List.getLast?_eq_getElem?, t2] at hlast
                  simp only [List.length_singleton] at hlast
                  rw [show 1 + cnt pre - 1 = cnt pre from by omega] at hlast
                  rw [hlast] at hHk; exact (Option.some.inj hHk).symm
                subst hHk'
                have hpan' : effPan call inl (envK pre vals e (fun i => listed.getD i false) pre.length) Hk oq = some (vq, H') := by
                  rw [← hpan]
                  have h1 : evOp (evO (envK pre vals e (fun i => listed.getD i false) pre.length)) Hk oq.op = evOp (evO e1) Hk oq.op := evOp_congr fun t ht => henv t (List.mem_append_left _ ht)
                  unfold effPan
                  rw [h1]
                refine pan_wp hcall hpan' (hEv.k.2.2.trans hL) hI1 hE1 hoo hco fun c K2 β2 w2 hv i2 e2 => ?_
                refine hQ _ _ _ ⟨K2, β2, ⟨c, rfl, hv⟩, ?_, i2, hEv.trans e2, hdf⟩
                have hE2 := hE1.mono e2.k e2.b
                refine ⟨hE2.size, fun τ => ?_⟩
                unfold deadE
                split
                · exact .any _
                · rename_i hno
                  have : e τ = envK pre vals e (fun i => listed.getD i false) pre.length τ := by
                    have : ∀ n, n ≤ pre.length → envK pre vals e (fun i => listed.getD i false) n τ = e τ := by
                      intro n
                      induction n with
                      | zero => intro _; rfl
                      | succ n ihn =>
                        intro hn
                        simp only [envK]
                        obtain ⟨on, hon, hond⟩ := getl n (by omega)
                        have hdn : (pre.getD n default).dst ≠ some τ := by
                          intro hd
                          apply hno
                          rw [List.any_eq_true]
                          refine ⟨on, List.mem_of_getElem? hon, ?_⟩
                          rw [hond] at hd
                          simp [dstIs, hd]
                        split
                        · cases hdk : (pre.getD n default).dst with
                          | none => exact ihn (by omega)
                          | some t' =>
                            simp only [putE, upd]
                            rw [if_neg (fun h => hdn (by rw [hdk, h]))]
                            exact ihn (by omega)
                        · exact ihn (by omega)
                    exact (this _ (Nat.le_refl _)).symm
                  rw [this]
                  exact hE2.val τ
          refine wpIn_region_any hm ?_
          have hz : ∀ i, (Array.replicate ops.size false).getD i false = false := fun i => by
            simp only [Array.getD_eq_getD_getElem?, Array.getElem?_replicate]; split <;> rfl
          refine main ops.size (Array.replicate ops.size false) K β a _ H (by simp) ?_ ?_ ?_ ?_ ?_ (hI.drawn rfl) (.drawn rfl rfl rfl rfl) rfl
          · intro i hi
            rw [hz] at hi; cases hi
          · intro i o hi
            rw [hz] at hi; cases hi
          · exact Nat.le_trans (List.length_filter_le _ _) (by simp)
          · have : ∀ n, envK pre vals e (fun i => (Array.replicate ops.size false).getD i false) n = e := by
              intro n
              induction n with
              | zero => rfl
              | succ n ih =>
                simp only [envK]
                rw [if_neg (by rw [hz]; simp)]; exact ih
            rw [this]; exact hE
          · have : ∀ n, ceK pre (fun i => (Array.replicate ops.size false).getD i false) n = 0 := by
              intro n
              induction n with
              | zero => rfl
              | succ n ih =>
                simp only [ceK]
                rw [ih, if_neg (by rw [hz]; simp)]
            rw [this, t3 0 (by simp)]; rfl
        · cases h
      · cases h
    · cases h
theorem draw_sound (hm : P.follows .mixedOrders = true) {l : List AO} (hlen : l.length = ops.size) (hops : ∀ (j : Nat) (ao : AO), l[j]? = some ao → ∃ o, ops[j]? = some o ∧ cOperL P ops o = some ao) (hdst : ∀ ao ∈ l, ∀ t, ao.dst = some t → t < nt)
    {x : X} {e' : Env} {H' : List Ob} (h : runDraw call inl l e H = some (x, e', H')) (hL : K.lp = L) (hI : Inv K β H w) (hE : ER K β nt e a) (id : Nat)
    (hQ : ∀ ex a' w', Post K β H w nt x e' H' a.defers ex a' w' → Q ex a' w') : (Code.region id ops true).wpIn (Fr ro) bud P Q a w := by
  unfold runDraw at h
  split at h
  · rename_i y hy
    cases h
    exact drawN_sound hcall hm hlen hops hdst hy hL hI hE id hQ
  · split at h
    · exact pan_sound hcall hm hlen hops hdst h hL hI hE id hQ
    · cases h
end
end Fz
namespace Fz
open Go
theorem Inv.junk {K : Kn} {β : Bi} {H : List Ob} {w w' : World} (h : Inv K β H w) {x : Obj} (hh : w'.heap = w.heap.push x) (h1 : w'.os = w.os) (h2 : w'.tape = w.tape) (h3 : w'.output = w.output) :
    Inv K β H w' ∧ Ev K β H w K β H w' := by
  refine ⟨⟨fun b o hb => ?_, fun b z hz => ?_, h.dom, fun id o ho => ?_, h.inj⟩, ⟨K.le_refl, fun _ _ h => h, Nat.le_refl _, fun x hx _ => by rw [hh, push_get hx], by rw [hh]; simp, h1, h2, h3, fun _ h => .inl h, fun _ _ h => .inl h, fun _ _ => rfl⟩⟩
  · have := h.fixed b o hb; rw [hh, push_get (heap_lt this)]; exact this
  · obtain ⟨cs, e, fr, g1, g2⟩ := h.size b z hz
    exact ⟨cs, e, fr, by rw [hh, push_get (heap_lt g1)]; exact g1, g2⟩
  · refine (h.obj id o ho).mono K.le_refl (fun _ _ h => h) fun b hl hb hf => ⟨hf, ?_⟩
    obtain ⟨b', q1, q2, _⟩ := (h.obj id o ho).lt hl
    rw [hb] at q1; cases q1
    rw [hh, push_get q2]
theorem Inv.junkPut {K : Kn} {β : Bi} {H : List Ob} {w w' : World} (h : Inv K β H w) {b : Nat} {x' : Obj} (hb : ¬ liveB H β b) (hf : K.fixed b = none) (hz : K.size b = none)
    (hh : ∀ y, w'.heap[y]? = if y = b then some x' else w.heap[y]?) (hs : w'.heap.size = w.heap.size) (h1 : w'.os = w.os) (h2 : w'.tape = w.tape) (h3 : w'.output = w.output) :
    Inv K β H w' ∧ ∀ {K0 : Kn} {β0 : Bi} {H0 : List Ob} {w0 : World}, Ev K0 β0 H0 w0 K β H w → (liveB H0 β0 b ∨ w0.heap.size ≤ b) → Ev K0 β0 H0 w0 K β H w' := by
  refine ⟨⟨fun y o hy => ?_, fun y z hy => ?_, h.dom, fun id o ho => ?_, h.inj⟩, fun {K0 β0 H0 w0} e hor => ?_⟩
  · rw [hh]
    by_cases ey : y = b
    · subst ey; rw [hf] at hy; cases hy
    · rw [if_neg ey]; exact h.fixed y o hy
  · rw [hh]
    by_cases ey : y = b
    · subst ey; rw [hz] at hy; cases hy
    · rw [if_neg ey]; exact h.size y z hy
  · refine (h.obj id o ho).mono K.le_refl (fun _ _ h => h) fun y hl hy hf => ⟨hf, ?_⟩
    rw [hh, if_neg]
    intro ey; subst ey
    exact hb ⟨id, ⟨o, ho, hl⟩, hy⟩
  · refine ⟨e.k, e.b, e.hl, fun x hx hn => ?_, by rw [hs]; exact e.size, h1.trans e.os, h2.trans e.tape, h3.trans e.output, e.live, e.fix, e.bx⟩
    rw [hh, if_neg]
    · exact e.frame x hx hn
    · intro ex; subst ex
      rcases hor with hl | hl
      · exact hn hl
      · omega
theorem putObj_get {w : World} {b : Nat} {o : Obj} (hb : b < w.heap.size) (x : Nat) : (w.putObj b o).heap[x]? = if x = b then some o else w.heap[x]? := by
  by_cases e : x = b
  · subst e; rw [if_pos rfl, World.putObj_heap_same hb]
  · rw [if_neg e, World.putObj_heap_other e]
def mark (D : Nat) : Deferred := { target := .collected D, args := #[] }
structure Mk (K : Kn) (β : Bi) (H : List Ob) (w : World) (D : Nat) : Prop where
  there : w.heap[D]? = some (.deferred (some []))
  dead : ¬ liveB H β D
  fix : K.fixed D = none
theorem Mk.ev {K K' : Kn} {β β' : Bi} {H H' : List Ob} {w w' : World} {D : Nat} (h : Mk K β H w D) (e : Ev K β H w K' β' H' w') : Mk K' β' H' w' D := by
  have hlt := heap_lt h.there
  refine ⟨(e.frame D hlt h.dead).trans h.there, fun hl => (e.live D hl).elim h.dead fun hge => by omega, ?_⟩
  cases hf : K'.fixed D with
  | none => rfl
  | some o =>
    rcases e.fix D o hf with h' | h' | h'
    · rw [h.fix] at h'; cases h'
    · exact absurd h' h.dead
    · omega
def Marked (b : Bool) (K : Kn) (β : Bi) (H : List Ob) (w : World) (n : Nat) (ds' ds : List Deferred) : Prop :=
  ∃ Ds : List Nat, (b = false → Ds = []) ∧ ds' = Ds.map mark ++ ds ∧ Ds.Pairwise (· > ·) ∧ ∀ D ∈ Ds, n ≤ D ∧ Mk K β H w D
theorem Marked.refl (b : Bool) (K : Kn) (β : Bi) (H : List Ob) (w : World) (n : Nat) (ds : List Deferred) : Marked b K β H w n ds ds :=
  ⟨[], fun _ => rfl, rfl, .nil, fun D h => by cases h⟩
theorem Marked.weak {b b' : Bool} {K : Kn} {β : Bi} {H : List Ob} {w : World} {n : Nat} {ds' ds : List Deferred} (h : Marked b K β H w n ds' ds) (hb : b' = false → b = false) : Marked b' K β H w n ds' ds := by
  obtain ⟨Ds, h1, h2⟩ := h
  exact ⟨Ds, fun h => h1 (hb h), h2⟩
theorem Marked.ev {b : Bool} {K K' : Kn} {β β' : Bi} {H H' : List Ob} {w w' : World} {n : Nat} {ds' ds : List Deferred} (h : Marked b K β H w n ds' ds) (e : Ev K β H w K' β' H' w') : Marked b K' β' H' w' n ds' ds := by
  obtain ⟨Ds, h1, h2, h3, h4⟩ := h
  exact ⟨Ds, h1, h2, h3, fun D hD => ⟨(h4 D hD).1, (h4 D hD).2.ev e⟩⟩
theorem Marked.trans {b c : Bool} {K K' : Kn} {β β' : Bi} {H H' : List Ob} {w w' : World} {n : Nat} {d0 d1 d2 : List Deferred} (h : Marked b K β H w n d1 d0) (e : Ev K β H w K' β' H' w') (hn : n ≤ w.heap.size)
    (g : Marked c K' β' H' w' w.heap.size d2 d1) : Marked (b || c) K' β' H' w' n d2 d0 := by
  obtain ⟨Ds, h1, h2, h3, h4⟩ := h
  obtain ⟨Es, g1, g2, g3, g4⟩ := g
  refine ⟨Es ++ Ds, fun hb => ?_, by rw [g2, h2]; simp, ?_, ?_⟩
  · simp only [Bool.or_eq_false_iff] at hb
    rw [h1 hb.1, g1 hb.2]; rfl
  · rw [List.pairwise_append]
    refine ⟨g3, h3, fun a ha d hd => ?_⟩
    have q1 := (g4 a ha).1
    have q2 := heap_lt (h4 d hd).2.there
    show a > d
    omega
  · intro D hD
    rcases List.mem_append.1 hD with hD | hD
    · exact ⟨Nat.le_trans hn (g4 D hD).1, (g4 D hD).2⟩
    · exact ⟨(h4 D hD).1, (h4 D hD).2.ev e⟩
def PostM (b : Bool) (K : Kn) (β : Bi) (H : List Ob) (w : World) (nt : Nat) (x : X) (e' : Env) (H' : List Ob) (ds : List Deferred) : Exit → Act → World → Prop :=
  fun ex a' w' => ∃ K' β', XR K' β' x ex ∧ ER K' β' nt e' a' ∧ Inv K' β' H' w' ∧ Ev K β H w K' β' H' w' ∧ Marked b K' β' H' w' w.heap.size a'.defers ds
theorem Post.marked {b : Bool} {K : Kn} {β : Bi} {H : List Ob} {w w' : World} {nt : Nat} {x : X} {e' : Env} {H' : List Ob} {ds : List Deferred} {ex : Exit} {a' : Act} (h : Post K β H w nt x e' H' ds ex a' w') :
    PostM b K β H w nt x e' H' ds ex a' w' := by
  obtain ⟨K', β', h1, h2, h3, h4, h5⟩ := h
  exact ⟨K', β', h1, h2, h3, h4, h5 ▸ .refl ..⟩
theorem PostM.after {b c d : Bool} {K K1 : Kn} {β β1 : Bi} {H H1 H' : List Ob} {w w1 w' : World} {nt : Nat} {x : X} {e' : Env} {ds d1 : List Deferred} {ex : Exit} {a' : Act} (h : Ev K β H w K1 β1 H1 w1)
    (m : Marked b K1 β1 H1 w1 w.heap.size d1 ds) (hd : d = false → b = false ∧ c = false) (g : PostM c K1 β1 H1 w1 nt x e' H' d1 ex a' w') : PostM d K β H w nt x e' H' ds ex a' w' := by
  obtain ⟨K2, β2, q1, q2, q3, q4, q5⟩ := g
  exact ⟨K2, β2, q1, q2, q3, h.trans q4, (m.trans q4 h.size q5).weak fun hd' => by simp [hd hd']⟩
theorem PostM.weak {b c : Bool} {K : Kn} {β : Bi} {H H' : List Ob} {w w' : World} {nt : Nat} {x : X} {e' : Env} {ds : List Deferred} {ex : Exit} {a' : Act} (hd : c = false → b = false) (g : PostM b K β H w nt x e' H' ds ex a' w') :
    PostM c K β H w nt x e' H' ds ex a' w' := by
  obtain ⟨K2, β2, q1, q2, q3, q4, q5⟩ := g
  exact ⟨K2, β2, q1, q2, q3, q4, q5.weak hd⟩
theorem leaves_marks {P : Program} {F : Fence} {n : Nat} {fn : Func} {tmps : Array Value} {R : Ending → World → Prop} {u : FrameMode} (hu : u ≠ .run) {K : Kn} {β : Bi} {H : List Ob} {rest : List Deferred} {K0 : Kn} {β0 : Bi} {H0 : List Ob} {w0 : World}
    (hr : ∀ w, Inv K β H w → Ev K0 β0 H0 w0 K β H w → LeavesInM F n P fn tmps R rest u w) :
    ∀ (Ds : List Nat) (w : World), Ds.Pairwise (· > ·) → (∀ D ∈ Ds, w0.heap.size ≤ D ∧ Mk K β H w D) → Inv K β H w → Ev K0 β0 H0 w0 K β H w → LeavesInM F n P fn tmps R (Ds.map mark ++ rest) u w
  | [], w, _, _, hI, hE => hr w hI hE
  | D :: Ds, w, hp, hD, hI, hE => by
    obtain ⟨h1, h2⟩ := hD D (by simp)
    have hlt := heap_lt h2.there
    obtain ⟨i1, e1⟩ := hI.junkPut (w' := w.putObj D (.deferred none)) h2.dead h2.fix (size_none hI h2.there (by simp)) (fun y => putObj_get hlt y) (by simp) rfl rfl rfl
    have hE1 := e1 hE (.inr h1)
    rw [List.pairwise_cons] at hp
    refine ⟨hu, .inl ⟨D, _, rfl, run_takeDeferred h2.there, leaves_marks hu hr Ds _ hp.2 (fun D' hD' => ?_) i1 hE1⟩⟩
    obtain ⟨g1, g2⟩ := hD D' (by simp [hD'])
    have hne : D' ≠ D := by have := hp.1 D' hD'; omega
    exact ⟨g1, by rw [World.putObj_heap_other hne]; exact g2.there, g2.dead, g2.fix⟩
end Fz
