/- Each operation is carried out as the abstract interpreter says: maps, texts gone through, types asked. -/
import Derived.Test.YtpojglkaohhbkaaFzM
namespace Fz
open Go

/-- A new block of any kind, an object of the abstract heap. -/
theorem Inv.newO {K : Kn} {β : Bi} {H : List Ob} {w w' : World} (h : Inv K β H w) {ob : Ob} {x : Obj}
    (hh : w'.heap = w.heap.push x) (h1 : w'.os = w.os) (h2 : w'.tape = w.tape) (h3 : w'.output = w.output)
    (ho' : ObR K (setB β H.length w.heap.size) w' H.length ob) :
    let β' := setB β H.length w.heap.size
    (∀ i x, β i = some x → β' i = some x) ∧ β' H.length = some w.heap.size ∧ Inv K β' (H ++ [ob]) w' ∧ Ev K β H w K β' (H ++ [ob]) w' := by
  intro β'
  have hβ : ∀ i x, β i = some x → β' i = some x := setB_le h.freshB
  have hb : β' H.length = some w.heap.size := by simp [β', setB]
  have hβ' : ∀ i x, β' i = some x → (i = H.length ∧ x = w.heap.size) ∨ β i = some x := by
    intro i x hi
    by_cases e : i = H.length
    · subst e; rw [hb] at hi; exact .inl ⟨rfl, (Option.some.inj hi).symm⟩
    · right; simpa [β', setB, e] using hi
  have hlive : ∀ i, liveAt (H ++ [ob]) i → i = H.length ∨ liveAt H i := by
    rintro i ⟨o, ho, hl⟩
    by_cases e : i < H.length
    · rw [List.getElem?_append_left e] at ho; exact .inr ⟨o, ho, hl⟩
    · left
      have := (List.getElem?_eq_some_iff.1 ho).1
      simp at this; omega
  have hold : ∀ i b, liveAt H i → β i = some b → b < w.heap.size := by
    rintro i b ⟨o, ho, hl⟩ hi
    obtain ⟨b', g1, g2, _⟩ := (h.obj i o ho).lt hl
    rw [hi] at g1; cases g1; exact g2
  refine ⟨hβ, hb, ⟨?_, ?_, ?_, ?_, ?_⟩, ⟨K.le_refl, hβ, by simp, ?_, by rw [hh]; simp, h1, h2, h3, ?_, ?_, fun i hi => if_neg (by omega)⟩⟩
  · intro b o hf
    have := h.fixed b o hf
    rw [hh, push_get (heap_lt this)]; exact this
  · intro b z hs
    obtain ⟨cs', e', fr, g1, g2⟩ := h.size b z hs
    exact ⟨cs', e', fr, by rw [hh, push_get (heap_lt g1)]; exact g1, g2⟩
  · intro i b hi
    rcases hβ' i b hi with ⟨rfl, rfl⟩ | hi
    · simp
    · have := h.dom i b hi; simp; omega
  · intro i o ho
    by_cases e : i < H.length
    · rw [List.getElem?_append_left e] at ho
      refine (h.obj i o ho).mono K.le_refl hβ fun b hl hb' hf => ⟨hf, ?_⟩
      rw [hh, push_get (hold i b ⟨o, ho, hl⟩ hb')]
    · have hi : i = H.length := by have := (List.getElem?_eq_some_iff.1 ho).1; simp at this; omega
      subst hi
      simp at ho; subst ho
      exact ho'
  · intro i j b hi hj h1 h2
    rcases hβ' i b h1 with ⟨rfl, rfl⟩ | h1
    · rcases hβ' j _ h2 with ⟨rfl, _⟩ | h2
      · rfl
      · rcases hlive j hj with rfl | hj
        · rfl
        · have := hold j _ hj h2; omega
    · rcases hβ' j b h2 with ⟨rfl, rfl⟩ | h2
      · rcases hlive i hi with rfl | hi
        · rfl
        · have := hold i _ hi h1; omega
      · rcases hlive i hi with rfl | hi
        · rw [h.freshB] at h1; cases h1
        · rcases hlive j hj with rfl | hj
          · rw [h.freshB] at h2; cases h2
          · exact h.inj i j b hi hj h1 h2
  · intro x hx _
    rw [hh, push_get hx]
  · rintro x ⟨i, hi, hx⟩
    rcases hβ' i x hx with ⟨rfl, rfl⟩ | hx
    · exact .inr (Nat.le_refl _)
    · rcases hlive i hi with rfl | hi
      · rw [h.freshB] at hx; cases hx
      · exact .inl ⟨i, hi, hx⟩
  · intro x o hf; exact .inl hf

/-- A live object that is no cells, written anew. -/
theorem Inv.putO {K : Kn} {β : Bi} {H : List Ob} {w w' : World} (h : Inv K β H w) {id b : Nat} {o o' : Ob} {x' : Obj}
    (hi : H[id]? = some o) (hl : o.isLive = true) (hb : β id = some b) (hf : K.fixed b = none) (hz : K.size b = none)
    (hh : ∀ x, w'.heap[x]? = if x = b then some x' else w.heap[x]?) (hs : w'.heap.size = w.heap.size)
    (h1 : w'.os = w.os) (h2 : w'.tape = w.tape) (h3 : w'.output = w.output) (ho' : ObR K β w' id o') :
    Inv K β (H.set id o') w' ∧ Ev K β H w K β (H.set id o') w' := by
  have hlv : liveAt H id := ⟨_, hi, hl⟩
  have hlive : ∀ i, liveAt (H.set id o') i → liveAt H i := by
    rintro i ⟨o, ho, hl⟩
    by_cases e : id = i
    · subst e; exact hlv
    · rw [set_get e] at ho; exact ⟨o, ho, hl⟩
  refine ⟨⟨?_, ?_, ?_, ?_, ?_⟩, ⟨K.le_refl, fun _ _ h => h, by simp, ?_, by omega, h1, h2, h3, ?_, fun _ _ h => .inl h, fun _ _ => rfl⟩⟩
  · intro x y hy
    rw [hh]
    by_cases ex : x = b
    · subst ex; rw [hf] at hy; cases hy
    · rw [if_neg ex]; exact h.fixed x y hy
  · intro x z hy
    rw [hh]
    by_cases ex : x = b
    · subst ex; rw [hz] at hy; cases hy
    · rw [if_neg ex]; exact h.size x z hy
  · intro i x hx; have := h.dom i x hx; simpa using this
  · intro i y ho
    by_cases ei : id = i
    · subst ei
      rw [set_self hi] at ho; cases ho
      exact ho'
    · rw [set_get ei] at ho
      refine (h.obj i y ho).mono K.le_refl (fun _ _ h => h) fun x hl' hx hf => ⟨hf, ?_⟩
      rw [hh, if_neg]
      intro ex; subst ex
      exact ei (h.inj id i x hlv ⟨y, ho, hl'⟩ hb hx)
  · intro i j x hi' hj' hx hy
    exact h.inj i j x (hlive i hi') (hlive j hj') hx hy
  · intro x hx hn
    rw [hh, if_neg]
    intro ex; subst ex
    exact hn ⟨id, hlv, hb⟩
  · rintro x ⟨i, hi', hx⟩
    exact .inl ⟨i, hlive i hi', hx⟩

theorem size_none {K : Kn} {β : Bi} {H : List Ob} {w : World} (h : Inv K β H w) {b : Nat} {x : Obj} (hb : w.heap[b]? = some x) (hx : ∀ cs e fr, x ≠ .cells cs e fr) : K.size b = none := by
  cases hz : K.size b with
  | none => rfl
  | some z =>
    obtain ⟨cs, e, fr, h1, _⟩ := h.size b z hz
    rw [hb] at h1
    exact absurd (Option.some.inj h1) (hx _ _ _)

theorem tOne_VR {P : Program} {t : TypeId} {z : V} (h : tOne P t = some z) (K : Kn) (β : Bi) : ∃ c, (∀ w, (zeroValue t).run P w = .ok c w) ∧ VR K β z c := by
  unfold tOne at h
  cases hi : P.info? t with
  | none => simp [hi] at h
  | some i =>
    cases hz : i.zero with
    | none => simp [hi, hz] at h
    | some c =>
      simp only [hi, hz, Option.bind_some] at h
      exact ⟨c, fun w => by simp [zeroValue, typeInfo, hi, hz], ofVal_VR K β 4 c z h⟩

theorem checkKey_ok {P : Program} {kt : TypeId} {kk : KyK} (hk : cKey P kt = some kk) (b : Bool) (c : Value) (w : World) : (Instr.checkKey b 10000 kt c).run P w = .ok () w := by
  unfold cKey at hk
  split at hk <;> try (cases hk; done)
  all_goals
    rename_i hu
    have h1 := run_underlying hu w
    rw [show (10000 : Nat) = 9999 + 1 from rfl]
    unfold Instr.checkKey
    simp only [Sem.run_bind, h1, Result.andThen_ok]
    rfl

theorem findNow_ok {P : Program} {K : Kn} {β : Bi} {kt : TypeId} {kk : KyK} {d : TypeDesc} (hk : cKey P kt = some kk) (hd : P.underlying kt = some d) {k : V} {ck : Value} (hv : VR K β k ck) :
    ∀ (ks : List V) (es : List MapEntry) (i : Nat) (r : Option Nat), ks.length = es.length → (∀ j v, ks[j]? = some v → VR K β v (es.getD j default).key) → findV kk k ks i = some r →
      Instr.findNow d ck es i = some (r.map fun j => (j, (es.getD (j - i) default).val)) ∧ ∀ j, r = some j → i ≤ j ∧ j - i < es.length
  | [], [], i, r, _, _, h => by cases h; exact ⟨rfl, fun j h => by cases h⟩
  | [], _ :: _, _, _, hl, _, _ => by simp at hl
  | _ :: _, [], _, _, hl, _, _ => by simp at hl
  | u :: ks, e :: es, i, r, hl, hr, h => by
    have h0 : VR K β u e.key := by simpa using hr 0 u rfl
    have hsame : ∀ b, keyEq kk k u = some b → Instr.sameNow d ck e.key = some b := by
      intro b hb
      generalize e.key = ek at h0
      unfold cKey at hk
      rw [hd] at hk
      cases d <;> simp at hk <;> subst hk
      · unfold keyEq at hb
        split at hb <;> try (cases hb; done)
        · rename_i heq; cases hv; cases h0
          split at hb <;> cases hb
          rename_i hkk; subst hkk
          simp [Instr.sameNow]
        · rename_i heq; cases heq
      · unfold keyEq at hb
        split at hb <;> try (cases hb; done)
        · rename_i heq; cases heq
        · cases hv; cases h0; cases hb
          simp only [Instr.sameNow, Option.some.injEq]
          rename_i a b _
          cases a; cases b
          simp
          rfl
    unfold findV at h
    split at h
    · rename_i hb
      cases h
      refine ⟨?_, fun j hj => by cases hj; exact ⟨Nat.le_refl _, by simp⟩⟩
      simp [Instr.findNow, hsame _ hb]
    · rename_i hb
      obtain ⟨g1, g2⟩ := findNow_ok hk hd hv ks es (i + 1) r (by simpa using hl) (fun j v hj => by simpa using hr (j + 1) v (by simpa using hj)) h
      refine ⟨?_, fun j hj => ?_⟩
      · simp only [Instr.findNow, hsame _ hb, g1]
        cases r with
        | none => rfl
        | some j =>
          obtain ⟨g3, g4⟩ := g2 j rfl
          simp only [Option.map_some, Option.some.injEq, Prod.mk.injEq, true_and]
          rw [show j - i = (j - (i + 1)) + 1 from by omega]
          simp
      · obtain ⟨g3, g4⟩ := g2 j hj
        exact ⟨by omega, by simp; omega⟩
    · cases h

theorem findKey_ok {P : Program} {K : Kn} {β : Bi} {kt : TypeId} {kk : KyK} (hk : cKey P kt = some kk) {k : V} {ck : Value} (hv : VR K β k ck) {ks : List V} {es : Array MapEntry}
    (hl : ks.length = es.size) (hr : ∀ j v, ks[j]? = some v → VR K β v (es.getD j default).key) {r : Option Nat} (h : findV kk k ks 0 = some r) (w : World) :
    (Instr.findKey kt ck es.toList).run P w = .ok (r.map fun j => (j, (es.getD j default).val)) w ∧ ∀ j, r = some j → j < es.size := by
  cases hd : P.underlying kt with
  | none => unfold cKey at hk; rw [hd] at hk; cases hk
  | some d =>
    obtain ⟨g1, g2⟩ := findNow_ok hk hd hv ks es.toList 0 r (by simpa using hl) (fun j v hj => by
      have := hr j v hj
      simpa [List.getD, Array.getD_eq_getD_getElem?] using this) h
    refine ⟨?_, fun j hj => by simpa using (g2 j hj).2⟩
    unfold Instr.findKey
    simp only [Sem.run_bind, run_underlying hd w, Result.andThen_ok, g1]
    cases r <;> simp [List.getD, Array.getD_eq_getD_getElem?]

section
variable {P : Program} {K : Kn} {β : Bi} {H : List Ob} {w : World} {nt : Nat} {e : Env} {a : Act} (hI : Inv K β H w) (hE : ER K β nt e a)
variable {dst : Option Tmp} {ty : TypeId} {pos : String} {after : Array Edge} {guard : Option (Nat × Bool)} {op : AOp} {r : OR}
include hI hE

omit hE in
theorem run_makeMap' {t kt et : TypeId} (hu : P.underlying t = some (.map kt et)) (o : Option Value) (ho : ∀ v, o = some v → ∃ k n, v = .int k n) :
    ∃ w' K' β', (Instr.makeMap t o).run P w = .ok (.map (some w.heap.size)) w' ∧ VR K' β' (.mref H.length) (.map (some w.heap.size)) ∧ Inv K' β' (H ++ [.mlive [] []]) w' ∧ Ev K β H w K' β' (H ++ [.mlive [] []]) w' := by
  have hn : ∀ w', w'.heap = w.heap.push (.map #[] 0) → ObR K (setB β H.length w.heap.size) w' H.length (.mlive [] []) := by
    intro w' hw
    refine ⟨w.heap.size, #[], 0, by simp [setB], hI.fresh, by rw [hw]; exact push_new, rfl, rfl, fun i v h => by simp at h, fun i v h => by simp at h⟩
  obtain ⟨q1, q2, q3, q4⟩ := Inv.newO (w' := w.alloc (.map #[] 0)) hI (ob := .mlive [] []) (x := .map #[] 0) rfl rfl rfl rfl (hn _ rfl)
  refine ⟨_, K, _, ?_, .mref q2, q3, q4⟩
  cases o with
  | none => rfl
  | some v =>
    obtain ⟨k, n, rfl⟩ := ho v rfl
    have h1 := run_underlying hu w
    simp only [Instr.makeMap, Sem.run_bind, h1, Result.andThen_ok, asInt]
    rfl

theorem ok_makeMap {t : TypeId} {o : Option Operand} (hc : cOp P ⟨dst, .makeMap t o, ty, pos, after, guard⟩ = some op) (hr : evOp (evO e) H op = some r) : OpOk P K β H w ((execOp a.eval ⟨dst, .makeMap t o, ty, pos, after, guard⟩).run P w) r := by
  cases o with
  | none =>
    simp only [cOp] at hc
    split at hc <;> cases hc
    rename_i kt et hu
    simp only [evOp, List.map_nil, memV, Option.some.injEq] at hr; subst hr
    obtain ⟨w', K', β', h1, h2, h3, h4⟩ := run_makeMap' hI hu none (fun v h => by cases h)
    exact ⟨_, w', K', β', execOp_v h1, h2, h3, h4⟩
  | some x =>
    simp only [cOp] at hc
    split at hc <;> cases hc
    rename_i kt et y hu hy
    have hv := hE.opd hy
    simp only [evOp, List.map_cons, List.map_nil] at hr
    generalize hcx : a.eval x = cx at hv
    generalize evO e y = uy at hv hr
    obtain ⟨k, n, rfl⟩ : ∃ k n, uy = .int k n := by cases uy <;> first | exact ⟨_, _, rfl⟩ | (cases hr; done)
    cases hr
    cases hv
    obtain ⟨w', K', β', h1, h2, h3, h4⟩ := run_makeMap' hI hu (some (a.eval x)) (fun v h => by cases h; exact ⟨_, _, hcx⟩)
    exact ⟨_, w', K', β', execOp_v h1, h2, h3, h4⟩

theorem mapPut_ok {t : TypeId} {m k x : Operand} (hc : cMapPut P t m k x = some op) (hr : evOp (evO e) H op = some r) :
    OpOk P K β H w ((do Instr.mapUpdate t (a.eval m) (a.eval k) (a.eval x); pure .skip : Sem Next).run P w) r := by
  unfold cMapPut at hc
  split at hc <;> try (cases hc; done)
  rename_i kt et m' k' x' hu hm hk hx
  obtain ⟨kk, hkk, rfl⟩ := Option.map_eq_some_iff.1 hc
  have vm := hE.opd hm
  have vk := hE.opd hk
  have vx := hE.opd hx
  simp only [evOp, List.map_cons, List.map_nil] at hr
  generalize evO e m' = um at vm hr
  generalize evO e k' = uk at vk hr
  generalize evO e x' = ux at vx hr
  obtain ⟨id, rfl⟩ : ∃ id, um = .mref id := by cases um <;> first | exact ⟨_, rfl⟩ | (cases hr; done)
  simp only [memV] at hr
  · obtain ⟨k2, hk2⟩ : ∃ k2, k2 = uk := ⟨_, rfl⟩
    obtain ⟨v2, hv2⟩ : ∃ v2, v2 = ux := ⟨_, rfl⟩
    subst hk2 hv2
    split at hr <;> try (cases hr; done)
    rename_i ks vs hob
    split at hr <;> cases hr
    rename_i hf
    generalize hcm : a.eval m = cm at vm
    cases vm with
    | mref hβ =>
      rename_i b
      obtain ⟨b', es, clock, g1, g2, g3, g4, g5, g6, g7⟩ := hI.obj id _ hob
      rw [hβ] at g1; cases g1
      obtain ⟨q1, _⟩ := findKey_ok (P := P) hkk vk g4 g6 hf w
      have hrun : (Instr.mapUpdate t (.map (some b)) (a.eval k) (a.eval x)).run P w = .ok () { w with heap := w.heap.setIfInBounds b (.map (es.push { key := a.eval k, val := a.eval x, born := clock }) (clock + 1)) } := by
        have h1 := run_underlying hu w
        have h2 : (getObj b).run P w = .ok (.map es clock) w := by simp [getObj, Sem.run, g3]
        have h3 := checkKey_ok (P := P) hkk false (a.eval k) w
        simp only [Instr.mapUpdate, Sem.run_bind, h1, h2, h3, Result.andThen_ok, q1, Option.map_none]
        simp [setObj, Sem.run, g3]
      have hlt := heap_lt g3
      have hobr : ObR K β { w with heap := w.heap.setIfInBounds b (.map (es.push { key := a.eval k, val := a.eval x, born := clock }) (clock + 1)) } id (.mlive (ks ++ [k2]) (vs ++ [v2])) := by
        refine ⟨b, _, _, hβ, g2, by simp [hlt]; exact ⟨rfl, rfl⟩, by simp [g4], by simp [g5], fun i v hi => ?_, fun i v hi => ?_⟩
        · by_cases hlt' : i < ks.length
          · rw [List.getElem?_append_left hlt'] at hi
            have := g6 i v hi
            simpa [Array.getD_eq_getD_getElem?, Array.getElem?_push, show i ≠ es.size from by omega] using this
          · rw [List.getElem?_append_right (by omega)] at hi
            have hi' : i = ks.length := by have := (List.getElem?_eq_some_iff.1 hi).1; simp at this; omega
            subst hi'
            simp at hi; subst hi
            simpa [Array.getD_eq_getD_getElem?, Array.getElem?_push, g4] using vk
        · by_cases hlt' : i < vs.length
          · rw [List.getElem?_append_left hlt'] at hi
            have := g7 i v hi
            simpa [Array.getD_eq_getD_getElem?, Array.getElem?_push, show i ≠ es.size from by omega] using this
          · rw [List.getElem?_append_right (by omega)] at hi
            have hi' : i = vs.length := by have := (List.getElem?_eq_some_iff.1 hi).1; simp at this; omega
            subst hi'
            simp at hi; subst hi
            simpa [Array.getD_eq_getD_getElem?, Array.getElem?_push, g5] using vx
      obtain ⟨i1, e1⟩ := Inv.putO (w' := { w with heap := w.heap.setIfInBounds b (.map (es.push { key := a.eval k, val := a.eval x, born := clock }) (clock + 1)) }) (o' := .mlive (ks ++ [k2]) (vs ++ [v2])) (x' := .map (es.push { key := a.eval k, val := a.eval x, born := clock }) (clock + 1)) hI hob rfl hβ g2 (size_none hI g3 (fun _ _ _ h => by cases h)) (fun y => by
        show (w.heap.setIfInBounds b _)[y]? = _
        rw [Array.getElem?_setIfInBounds]
        by_cases ey : b = y
        · subst ey; simp [hlt]
        · simp [ey, Ne.symm ey]) (by simp) rfl rfl rfl hobr
      exact ⟨_, K, β, execOp_u hrun, i1, e1⟩

theorem ok_lookup {t : TypeId} {m k : Operand} {ok : Bool} (hc : cOp P ⟨dst, .lookup t m k ok, ty, pos, after, guard⟩ = some op) (hr : evOp (evO e) H op = some r) : OpOk P K β H w ((execOp a.eval ⟨dst, .lookup t m k ok, ty, pos, after, guard⟩).run P w) r := by
  simp only [cOp] at hc
  split at hc <;> try (cases hc; done)
  rename_i kt et m' k' hu hm hk
  split at hc <;> cases hc
  rename_i kk z hkk hz
  have vm := hE.opd hm
  have vk := hE.opd hk
  simp only [evOp, ans, Option.map_eq_some_iff, List.map_cons, List.map_nil] at hr
  obtain ⟨u, hr, rfl⟩ := hr
  generalize evO e m' = um at vm hr
  generalize evO e k' = uk at vk hr
  obtain ⟨cz, hcz, vz⟩ := tOne_VR hz K β
  unfold rdV at hr
  dsimp only at hr
  split at hr <;> try (cases hr; done)
  rename_i ks vs hmap
  obtain ⟨es, clock, hes, g4, g5, g6, g7⟩ : ∃ (es : Array MapEntry) (clock : Nat), ((a.eval m = .map none ∧ es = #[]) ∨ ∃ b, a.eval m = .map (some b) ∧ w.heap[b]? = some (.map es clock)) ∧ ks.length = es.size ∧ vs.length = es.size ∧
      (∀ i v, ks[i]? = some v → VR K β v (es.getD i default).key) ∧ (∀ i v, vs[i]? = some v → VR K β v (es.getD i default).val) := by
    generalize hcm : a.eval m = cm at vm
    unfold mapOf at hmap
    split at hmap <;> try (cases hmap; done)
    · cases hmap; cases vm
      exact ⟨#[], 0, .inl ⟨rfl, rfl⟩, rfl, rfl, fun i v h => by simp at h, fun i v h => by simp at h⟩
    · cases hmap
      cases vm with
      | map hb h1 h2 h3 h4 =>
        rename_i b es clock
        exact ⟨es, clock, .inr ⟨_, rfl, hI.fixed _ _ hb⟩, h1, h2, h3, h4⟩
    · split at hmap <;> cases hmap
      rename_i hob
      cases vm with
      | mref hβ =>
        obtain ⟨b', es, clock, g1, g2, g3, g4, g5, g6, g7⟩ := hI.obj _ _ hob
        rw [hβ] at g1; cases g1
        exact ⟨es, clock, .inr ⟨_, rfl, g3⟩, g4, g5, g6, g7⟩
  have h1 := run_underlying hu w
  have h3 := fun b => checkKey_ok (P := P) hkk b (a.eval k) w
  have run : ∀ (r : Option Nat) (v : Value) (o : Bool), findV kk uk ks 0 = some r → (match r with | some j => v = (es.getD j default).val ∧ o = true | none => v = cz ∧ o = false) →
      (Instr.lookup t (a.eval m) (a.eval k) ok).run P w = .ok (if ok then .tuple #[v, .bool o] else v) w := by
    intro r v o hf hv
    obtain ⟨q1, _⟩ := findKey_ok (P := P) hkk vk g4 g6 hf w
    unfold Instr.lookup
    rcases hes with ⟨hm0, rfl⟩ | ⟨b, hm0, hb⟩
    · rw [hm0]
      cases r with
      | none => obtain ⟨rfl, rfl⟩ := hv; simp at q1; cases ok <;> simp [h1, h3, q1, hcz]
      | some j => obtain ⟨rfl, rfl⟩ := hv; simp at q1; cases ok <;> simp [h1, h3, q1]
    · rw [hm0]
      have h2 : (getObj b).run P w = .ok (.map es clock) w := by simp [getObj, Sem.run, hb]
      cases r with
      | none => obtain ⟨rfl, rfl⟩ := hv; cases ok <;> simp [h1, h2, h3, q1, hcz]
      | some j => obtain ⟨rfl, rfl⟩ := hv; cases ok <;> simp [h1, h2, h3, q1]
  split at hr
  · rename_i i hf
    split at hr <;> cases hr
    rename_i v hv
    have vv := g7 i v hv
    refine .pure hI (execOp_v (run _ _ true hf ⟨rfl, rfl⟩)) ?_
    cases ok
    · exact vv
    · exact .tuple rfl (LR.cons vv (.single (.bool true))).arr.2
  · rename_i hf
    cases hr
    refine .pure hI (execOp_v (run _ _ false hf ⟨rfl, rfl⟩)) ?_
    cases ok
    · exact vz
    · exact .tuple rfl (LR.cons vz (.single (.bool false))).arr.2
  · cases hr

theorem ok_range {t : TypeId} {x : Operand} (hc : cOp P ⟨dst, .range t x, ty, pos, after, guard⟩ = some op) (hr : evOp (evO e) H op = some r) : OpOk P K β H w ((execOp a.eval ⟨dst, .range t x, ty, pos, after, guard⟩).run P w) r := by
  simp only [cOp] at hc
  split at hc <;> cases hc
  rename_i y hu hy
  have hv := hE.opd hy
  simp only [evOp, List.map_cons, List.map_nil] at hr
  generalize hcx : a.eval x = cx at hv
  generalize evO e y = uy at hv hr
  obtain ⟨s, rfl⟩ : ∃ s, uy = .str s := by cases uy <;> first | exact ⟨_, rfl⟩ | (cases hr; done)
  cases hr
  cases hv
  have ho : ObR K (setB β H.length w.heap.size) (w.alloc (.stringIter s 0)) H.length (.iter s 0) := ⟨w.heap.size, by simp [setB], hI.fresh, push_new⟩
  obtain ⟨q1, q2, q3, q4⟩ := Inv.newO (w' := w.alloc (.stringIter s 0)) hI (ob := .iter s 0) (x := .stringIter s 0) rfl rfl rfl rfl ho
  refine ⟨_, _, K, _, execOp_v (c := .pointer (some ⟨w.heap.size, 0, none⟩)) ?_, .ptr q2, q3, q4⟩
  unfold Instr.range
  simp only [Sem.run_bind, run_underlying hu w, hcx, Result.andThen_ok]
  rfl

theorem ok_next {it : Operand} (hc : cOp P ⟨dst, .next it true, ty, pos, after, guard⟩ = some op) (hr : evOp (evO e) H op = some r) : OpOk P K β H w ((execOp a.eval ⟨dst, .next it true, ty, pos, after, guard⟩).run P w) r := by
  simp only [cOp] at hc
  obtain ⟨y, hy, rfl⟩ := Option.map_eq_some_iff.1 hc
  have hv := hE.opd hy
  simp only [evOp, List.map_cons, List.map_nil] at hr
  generalize hcx : a.eval it = cx at hv
  generalize evO e y = uy at hv hr
  obtain ⟨id, rfl⟩ : ∃ id, uy = .ptr id 0 := by
    cases uy <;> first | (cases hr; done) | skip
    rename_i id off
    cases off with
    | zero => exact ⟨_, rfl⟩
    | succ n => cases hr
  simp only [memV] at hr
  cases hv with
  | ptr hβ =>
    rename_i b
    split at hr <;> try (cases hr; done)
    rename_i s pos hob
    obtain ⟨b', g1, g2, g3⟩ := hI.obj id _ hob
    rw [hβ] at g1; cases g1
    have h2 : (getObj b).run P w = .ok (.stringIter s pos) w := by simp [getObj, Sem.run, g3]
    split at hr
    · rename_i hlt
      cases hr
      have hltb := heap_lt g3
      have ho : ObR K β { w with heap := w.heap.setIfInBounds b (.stringIter s (pos + (Utf8.decode s pos).2)) } id (.iter s (pos + (Utf8.decode s pos).2)) := ⟨b, hβ, g2, by simp [hltb]⟩
      obtain ⟨i1, e1⟩ := Inv.putO (w' := { w with heap := w.heap.setIfInBounds b (.stringIter s (pos + (Utf8.decode s pos).2)) }) (o' := .iter s (pos + (Utf8.decode s pos).2)) (x' := .stringIter s (pos + (Utf8.decode s pos).2)) hI hob rfl hβ g2 (size_none hI g3 (fun _ _ _ h => by cases h)) (fun y => by
        show (w.heap.setIfInBounds b _)[y]? = _
        rw [Array.getElem?_setIfInBounds]
        by_cases ey : b = y
        · subst ey; simp [hltb]
        · simp [ey, Ne.symm ey]) (by simp) rfl rfl rfl ho
      refine ⟨.tuple #[.bool true, .int .i64 pos, .int .i32 (Utf8.decode s pos).1], _, K, β, execOp_v ?_, ?_, i1, e1⟩
      · unfold Instr.next
        simp only [hcx, Sem.run_bind, h2, Result.andThen_ok, if_pos hlt]
        simp [setObj, Sem.run, g3, goInt]
      · exact .tuple rfl (LR.cons (.bool true) (LR.cons (.int .i64 _) (.single (.int .i32 _)))).arr.2
    · rename_i hlt
      cases hr
      refine .pure hI (execOp_v (c := .tuple #[.bool false]) ?_) (.tuple rfl (LR.single (.bool false)).arr.2)
      unfold Instr.next
      simp only [hcx, Sem.run_bind, h2, Result.andThen_ok, if_neg hlt]
      rfl

theorem ok_typeAssert {x : Operand} {xt t : TypeId} {ok : Bool} (hc : cOp P ⟨dst, .typeAssert x xt t ok, ty, pos, after, guard⟩ = some op) (hr : evOp (evO e) H op = some r) : OpOk P K β H w ((execOp a.eval ⟨dst, .typeAssert x xt t ok, ty, pos, after, guard⟩).run P w) r := by
  simp only [cOp] at hc
  split at hc <;> try (cases hc; done)
  rename_i n1 n2
  cases hd : P.underlying t with
  | none => exact absurd hd n2
  | some d =>
    have hdi : ∀ l, d ≠ .interface l := fun l h => n1 l (by rw [hd, h])
    have h1 := run_underlying hd w
    split at hc <;> try (cases hc; done)
    · rename_i y z hy hz
      cases hc
      have hv := hE.opd hy
      obtain ⟨cz, hcz, vz⟩ := tOne_VR hz K β
      simp only [evOp, ans, Option.map_eq_some_iff, List.map_cons, List.map_nil] at hr
      obtain ⟨u, hr, rfl⟩ := hr
      generalize hcx : a.eval x = cx at hv
      generalize evO e y = uy at hv hr
      cases hv <;> try (cases hr; done)
      · rename_i tt v c hvc
        simp only [purV, Option.some.injEq] at hr
        by_cases ht : tt = t
        · rw [if_pos ht] at hr; subst hr
          refine .pure hI (execOp_v (c := .tuple #[c, .bool true]) ?_) (.tuple rfl (LR.cons hvc (.single (.bool true))).arr.2)
          rw [hcx]; unfold Instr.typeAssert
          cases d <;> first | exact absurd rfl (hdi _) | simp [h1, ht]
        · rw [if_neg ht] at hr; subst hr
          refine .pure hI (execOp_v (c := .tuple #[cz, .bool false]) ?_) (.tuple rfl (LR.cons vz (.single (.bool false))).arr.2)
          rw [hcx]; unfold Instr.typeAssert
          cases d <;> first | exact absurd rfl (hdi _) | simp [h1, ht, hcz]
      · simp only [purV, Option.some.injEq] at hr; subst hr
        refine .pure hI (execOp_v (c := .tuple #[cz, .bool false]) ?_) (.tuple rfl (LR.cons vz (.single (.bool false))).arr.2)
        rw [hcx]; unfold Instr.typeAssert
        cases d <;> first | exact absurd rfl (hdi _) | simp [h1, hcz]
    · rename_i y hy
      cases hc
      have hv := hE.opd hy
      simp only [evOp, ans, Option.map_eq_some_iff, List.map_cons, List.map_nil] at hr
      obtain ⟨u, hr, rfl⟩ := hr
      generalize hcx : a.eval x = cx at hv
      generalize evO e y = uy at hv hr
      cases hv <;> try (cases hr; done)
      rename_i tt v c hvc
      simp only [purV] at hr
      split at hr <;> cases hr
      rename_i ht
      refine .pure hI (execOp_v (c := c) ?_) hvc
      rw [hcx]; unfold Instr.typeAssert
      cases d <;> first | exact absurd rfl (hdi _) | simp [h1, ht]
end
end Fz
