/- A law that answers true for each of the values that its arguments may be: its contract. -/
import Derived.Test.YtpojglkaohhbkaaFzAF
namespace Fz
open Go Go.ChangeShapes Go.WideShapes Go.ChangeAt Go.RowKit
section
variable {ub : {H : Type} → DataW H → Nat} {ubAll : {H : Type} → List (DataW H) → Nat} {P : Program} {H : Type} {enc : TypeId × Value → H}

theorem cellsR_VR {K : Kn} {β : Bi} {w : World} {base : Nat} {t : TypeId} {T : Ty} {d : Nat} (hT : tyOf P d t = some T) {v : V} {c : Value} (hv : CellsR K β v c.cells.toList) (hw : (cellsOf v).length = width T)
    (ha : AgOk T v) (hok : Value.okWide P w .any base t c) : VR K β v c := by
  cases d with
  | zero => cases hT
  | succ d =>
    have scal : (∀ cs, c ≠ .agg cs) → (∀ l, v ≠ .agg l) → VR K β v c := by
      intro h1 h2
      have e1 : c.cells = #[c] := by cases c <;> first | rfl | exact absurd rfl (h1 _)
      have e2 : cellsOf v = [v] := by cases v <;> first | rfl | exact absurd rfl (h2 _)
      have := hv.2 0 v (by rw [e2]; rfl)
      rw [e1] at this
      exact this
    have aggr : ∀ {cs : Array Value} {l : List V}, c = .agg cs → v = .agg l → VR K β v c := by
      rintro cs l rfl rfl
      refine .agg ?_ fun i u hu => ?_
      · have := hv.1; simpa [cellsOf, Value.cells] using this
      · have := hv.2 i u hu
        simpa [Value.cells, List.getD_eq_getElem?_getD, Array.getD_eq_getD_getElem?] using this
    rw [tyOf] at hT
    unfold Value.okWide at hok
    have noagg : Cell.okWide P w .any base t c → ∀ cs, c ≠ .agg cs := by
      rintro h cs rfl
      unfold Cell.okWide Cell.ok at h
      split at h
      all_goals first | (cases h; done) | (rename_i hc; cases hc; done) | skip
      split at h <;> simp_all
    split at hT
    · rename_i hP; rw [hP] at hok; cases hT; exact scal (noagg hok) ha
    · rename_i hP; rw [hP] at hok; cases hT; exact scal (noagg hok) ha
    · rename_i hP; rw [hP] at hok; cases hT; exact scal (noagg hok) ha
    · rename_i hP; rw [hP] at hok; cases hT; exact scal (noagg hok) ha
    · rename_i hP; rw [hP] at hok
      split at hT
      · split at hT <;> cases hT
        exact scal (noagg hok) ha
      · cases hT
    · rename_i hP; rw [hP] at hok
      obtain ⟨cs, rfl, _⟩ := hok
      split at hT
      · split at hT <;> cases hT
        obtain ⟨l, rfl⟩ := ha
        exact aggr rfl rfl
      · cases hT
    · rename_i hP; rw [hP] at hok
      obtain ⟨cs, rfl, _⟩ := hok
      split at hT
      · split at hT <;> cases hT
        obtain ⟨l, rfl⟩ := ha
        exact aggr rfl rfl
      · cases hT
    · cases hT

theorem args_V (hu : Bulk ub ubAll) {w : World} {base d : Nat} {β : Bi} : ∀ (ts : List TypeId) (Ts : List Ty), mapOpt (tyOf P d) ts = some Ts → ∀ (args : List Value) (ds : List (DataW H)) (p : List MemPlace),
    DataW.TrodAll enc P w 0 (fun _ => true) true ts args ds p → (∀ (j : Nat) t v, ts[j]? = some t → args[j]? = some v → Value.okWide P w .any base t v) →
    ∃ vs, HasTs Ts vs ∧ LR (Kall w) β vs args ∧ bulkL vs ≤ ubAll ds
  | [], Ts, hT, args, ds, p, h, hok => by
    obtain ⟨rfl, rfl, rfl⟩ := trodAll_nil h
    simp [mapOpt] at hT
    subst hT
    exact ⟨[], rfl, LR.nil _ _, by rw [bulkL]; omega⟩
  | t :: ts, Ts, hT, args, ds, p, h, hok => by
    obtain ⟨v, vs, d1, ds', p1, q, rfl, rfl, rfl, h1, h2⟩ := trodAll_cons h
    obtain ⟨T, Ts', hT1, hT2, rfl⟩ := mapOpt_cons hT
    obtain ⟨l, g1, g2, g3⟩ := args_V hu ts Ts' hT2 vs ds' q h2 fun j t v hj hv => hok (j + 1) t v (by simpa using hj) (by simpa using hv)
    obtain ⟨fuel, hf⟩ := h1
    obtain ⟨u, k1, k2, k3, k4, k5⟩ := trod_V hu (β := β) d t T hT1 fuel _ _ hf
    refine ⟨u :: l, ⟨u, l, rfl, k1, g1⟩, LR.cons (cellsR_VR hT1 k3 k2 k5 (hok 0 t v rfl rfl)) g2, ?_⟩
    rw [bulkL, hu.cons]
    exact Nat.add_le_add k4 g3

theorem trodAll_stays (hl : laidOutB P = true) {W W' : World} (hb : Below W.heap.size W W') : ∀ (ts : List TypeId) (vs : List Value) (ds : List (DataW H)) (p : List MemPlace), (∀ t ∈ ts, P.readableRec t = true ∧ t < P.types.size) →
    DataW.TrodAll enc P W 0 (fun _ => true) true ts vs ds p → DataW.TrodAll enc P W' 0 (fun b => decide (b < W.heap.size)) true ts vs ds p
  | [], vs, ds, p, _, h => by
    obtain ⟨rfl, rfl, rfl⟩ := trodAll_nil h
    exact trodAll_mk0
  | t :: ts, vs, ds, p, ht, h => by
    obtain ⟨v, vs', d1, ds', p1, q, rfl, rfl, rfl, h1, h2⟩ := trodAll_cons h
    have g := trodAll_stays hl hb ts vs' ds' q (fun t h => ht t (List.mem_cons_of_mem _ h)) h2
    obtain ⟨a1, a2⟩ := ht t (List.mem_cons_self ..)
    refine trodAll_cons_mk (Below.trod hl a1 a2 h1 hb ?_) g
    obtain ⟨m, hm⟩ := h1
    exact DataW.trod_lt m _ _ _ hm

theorem ev_below {K K' : Kn} {β β' : Bi} {w w' : World} {H' : List Ob} (h : Ev K β [] w K' β' H' w') : Below w.heap.size w w' :=
  ⟨h.os, h.tape, h.output, h.size, fun k hk => h.frame k hk fun ⟨id, ⟨o, ho, _⟩, _⟩ => by simp at ho⟩

/-- The contract of a law. -/
theorem law_contract (hu : Bulk ub ubAll) {p : AP} (hp : APOk P p) {f : FuncId} (hpr : p.prim f = none) {fn : Func} {ts : List TypeId} (hts : fn.params.toList = ts) {tb : TypeId} (hres : fn.resultTypes = #[tb]) (htb : P.underlying tb = some .bool)
    {d : Nat} {Ts : List Ty} (hT : mapOpt (tyOf P d) ts = some Ts) (hl : laidOutB P = true) (hr : ∀ t ∈ ts, P.readableRec t = true ∧ t < P.types.size)
    {s : ChangeSpec} (hv : s.vars = []) (hs : ∀ (ds : List (DataW H)), ds.length = ts.length → s.fn H ds = { results := [.lit (.bool true)], args := ds })
    {N : Nat} (hlaw : ∀ vs, HasTs Ts vs → bulkL vs ≤ N → ∃ n H', acall p n f vs [] = some (.ret (.bool true), H'))
    {W : World} {base : Nat} {args : Array Value} {ds gs : List (DataW H)} {before : List MemPlace}
    (hval : ∀ (j : Nat) t v, fn.params[j]? = some t → args[j]? = some v → Value.okWide P W .any base t v)
    (hW : DataW.Whole enc P fn.params.toList s.vars false W args.toList ds gs before) (hk : ubAll (ds ++ gs) ≤ N) :
    Calls P f args W fun e W' => ∃ v, e = .returned v ∧ s.post enc P fn false true false false W args v W' := by
  have hW' := hW
  obtain ⟨pp, q, hA, hV, rfl, hfz, hnd⟩ := hW
  rw [hv] at hV
  obtain ⟨rfl, rfl⟩ := trodVars_none hV
  rw [List.append_nil] at hk
  rw [hts] at hA
  obtain ⟨vs, h1, h2, h3⟩ := args_V hu (β := fun _ => none) ts Ts hT args.toList ds pp hA fun j t v hj hv => hval j t v (by rw [← hts] at hj; simpa using hj) (by simpa using hv)
  obtain ⟨n, H', hc⟩ := hlaw vs h1 (by omega)
  have hdl : ds.length = ts.length := by
    have : ∀ (ts : List TypeId) (vs : List Value) (ds : List (DataW H)) (p : List MemPlace), DataW.TrodAll enc P W 0 (fun _ => true) true ts vs ds p → ds.length = ts.length := by
      intro ts
      induction ts with
      | nil => intro vs ds p h; obtain ⟨rfl, rfl, rfl⟩ := trodAll_nil h; rfl
      | cons t ts ih =>
        intro vs ds p h
        obtain ⟨v, vs', d1, ds', p1, q, rfl, rfl, rfl, h1, h2⟩ := trodAll_cons h
        simp [ih _ _ _ h2]
    exact this _ _ _ _ hA
  refine (acall_calls hp n hpr hc (inv_all W) h2).mono ?_
  intro e W' hh
  obtain ⟨K', β', r, _, ev⟩ := hh
  have bel := ev_below ev
  obtain ⟨c, rfl, r⟩ : ∃ c, e = .returned c ∧ VR K' β' (.bool true) c := by
    unfold CRel at r
    split at r
    · rename_i h; cases h; exact ⟨_, rfl, r⟩
    · rename_i h; cases h
    · exact r.elim
  obtain rfl : c = .bool true := by cases r; rfl
  refine ⟨_, rfl, ds, [], pp ++ [], [], pp, [], hW', ?_, ?_, ?_, bel.frame _, fun h => by cases h⟩
  · rw [hres]
    simp only [List.append_nil, hs ds hdl]
    exact trodAll_mk1 (shut_bool htb _)
  · simp only [List.append_nil, hs ds hdl, hts]
    exact trodAll_stays hl bel ts _ _ _ hr hA
  · simp only [List.append_nil, hs ds hdl, hv]
    exact rfl
end
end Fz
