/- Each operation is carried out as the abstract interpreter says: what makes memory, and what writes it. -/
import Derived.Test.YtpojglkaohhbkaaFzE
namespace Fz
open Go

theorem new_ok {P : Program} {K : Kn} {β : Bi} {H : List Ob} {w w' : World} {r : Result Next} (hI : Inv K β H w) {l : List V} {cs : Array Value} {t : TypeId} (hc : CsR K β l cs)
    (hr : r = .ok (.value (.pointer (some ⟨w.heap.size, 0, none⟩))) w') (hh : w'.heap = w.heap.push (.cells cs t)) (h1 : w'.os = w.os) (h2 : w'.tape = w.tape) (h3 : w'.output = w.output) :
    OpOk P K β H w r (.val (.ptr H.length 0) (H ++ [.live l])) := by
  obtain ⟨_, _, g3, _, g5, g6⟩ := hI.new hc hh h1 h2 h3
  exact ⟨_, w', _, _, hr, .ptr g3, g5, g6⟩

theorem newSlice_ok {P : Program} {K : Kn} {β : Bi} {H : List Ob} {w w' : World} {r : Result Next} (hI : Inv K β H w) {l : List V} {cs : Array Value} {t : TypeId} {len cap n : Nat} (hc : CsR K β l cs)
    (hr : r = .ok (.value (.slice (some ⟨w.heap.size, 0, none⟩) len cap)) w') (hh : w'.heap = w.heap.push (.cells cs t)) (h1 : w'.os = w.os) (h2 : w'.tape = w.tape) (h3 : w'.output = w.output)
    (hl : len ≤ cap) (hz : cap * n ≤ cs.size) (hn : n ≠ 0) :
    OpOk P K β H w r (.val (.own H.length 0 len n) (H ++ [.live l])) := by
  obtain ⟨_, _, g3, g4, g5, g6⟩ := hI.new hc hh h1 h2 h3
  exact ⟨_, w', _, _, hr, .own g3 g4 hl (by omega) hn, g5, g6⟩

theorem setRow_all (w : World) {b : Nat} {cs cs' : Array Value} {t : TypeId} {fr : Nat × Nat} (h : w.heap[b]? = some (.cells cs t fr)) (x : Nat) :
    (w.setRow b cs').heap[x]? = if x = b then some (.cells cs' t fr) else w.heap[x]? := by
  by_cases e : x = b
  · subst e; rw [if_pos rfl]; exact setRow_heap w x cs cs' t fr h
  · rw [if_neg e]; exact setRow_other w b x cs' e

theorem VR.oneCell {K : Kn} {β : Bi} {v : V} {c : Value} (h : VR K β v c) (hs : storable v = true) : c.oneCell' = true := by
  cases h <;> first | rfl | (simp [storable] at hs)

theorem LR.oneCell {K : Kn} {β : Bi} : ∀ {l : List V} {cs : List Value}, LR K β l cs → l.all storable = true → ∀ c ∈ cs, c.oneCell' = true
  | [], cs, h, _ => by
    have := h.1; simp at this
    have : cs = [] := List.eq_nil_of_length_eq_zero this.symm
    subst this; intro c hc; cases hc
  | v :: l, cs, h, hs => by
    obtain ⟨c, r, rfl, h1, h2⟩ := h.head
    simp at hs
    intro x hx
    rcases List.mem_cons.1 hx with rfl | hx
    · exact h1.oneCell hs.1
    · exact LR.oneCell h2 (by simpa using hs.2) x hx

/-- A store of some cells into a live object. -/
theorem write_ok {P : Program} {K : Kn} {β : Bi} {H : List Ob} {w : World} (hI : Inv K β H w) {id b off : Nat} {l x : List V} {ds : List Value} (hi : H[id]? = some (.live l)) (hb : β id = some b)
    (hx : LR K β x ds) (hl : off + x.length ≤ l.length) (hs : x.all storable = true) :
    ∃ w', (storeCells ⟨b, off, none⟩ ds).run P w = .ok () w' ∧ Inv K β (H.set id (.live (splice l off x))) w' ∧ Ev K β H w K β (H.set id (.live (splice l off x))) w' := by
  obtain ⟨b', cs, e, h1, h2, h3, h4, h5, h6⟩ := hI.obj id _ hi
  rw [hb] at h1; cases h1
  have hlen := hx.1
  refine ⟨_, run_storeCells_at P b off e ds 0 cs w h4 (by omega) (hx.oneCell hs), ?_⟩
  have hsz : ((cs.toList.take (off + 0) ++ ds ++ cs.toList.drop (off + 0 + ds.length)).toArray).size = cs.size := by simp; omega
  refine hI.put hi hb h4 hsz ?_ (setRow_all w h4) (by simp) rfl rfl rfl
  have hbase : LR K β l (cs.toList.take l.length) := by
    refine ⟨by simp; omega, fun i v hv => ?_⟩
    have hil : i < l.length := (List.getElem?_eq_some_iff.1 hv).1
    have := h6 i v hv
    simpa [List.getD, List.getElem?_take, hil, Array.getD_eq_getD_getElem?] using this
  have hsp := hbase.splice hx off
  refine ⟨by rw [hsz]; simp [splice]; omega, fun i v hv => ?_⟩
  obtain ⟨c, hc, hvc⟩ := hsp.get hv
  have hil : i < l.length := by
    have := (List.getElem?_eq_some_iff.1 hv).1
    simp [splice] at this; omega
  have : (cs.toList.take (off + 0) ++ ds ++ cs.toList.drop (off + 0 + ds.length))[i]? = some c := by
    rw [← hc]
    simp only [Nat.add_zero, List.getElem?_append, List.length_append, List.length_take, List.getElem?_take, List.getElem?_drop]
    have e1 : min off (min l.length cs.toList.length) = min off cs.toList.length := by simp; omega
    rw [e1]
    have e2 : ¬ i < min off cs.toList.length + ds.length → off + ds.length + (i - (min off cs.toList.length + ds.length)) < l.length := by simp; omega
    split
    · repeat' split
      all_goals first | rfl | omega
    · rename_i hn; rw [if_pos (e2 hn)]
  simp only [List.append_assoc, Nat.add_zero] at this
  simpa [List.getD, Array.getD_eq_getD_getElem?, this] using hvc

theorem foldl_set (off : Nat) : ∀ (vs : List Value) (k : Nat) (cs : Array Value), off + k + vs.length ≤ cs.size →
    ((vs.zipIdx k).foldl (fun (cs : Array Value) (p : Value × Nat) => cs.setIfInBounds (off + p.2) p.1) cs).toList = cs.toList.take (off + k) ++ vs ++ cs.toList.drop (off + k + vs.length)
  | [], k, cs, _ => by simp
  | v :: vs, k, cs, h => by
    simp only [List.zipIdx_cons, List.foldl_cons]
    rw [foldl_set off vs (k + 1) _ (by simp at h ⊢; omega)]
    simp only [Array.toList_setIfInBounds]
    have := list_seg_step cs.toList (off + k) v vs (by simp at h ⊢; omega)
    rw [show off + (k + 1) = off + k + 1 from by omega]
    simpa using this

theorem fill_sound {K : Kn} {β : Bi} {place : Nat → Option (Nat × Nat)} : ∀ (ps : List (Nat × Value)) (qs : List (Nat × Nat × V)) (cells : Array Value) (z l : List V),
    ps.length = qs.length → (∀ (i : Nat) (p : Nat × Value) (q : Nat × Nat × V), ps[i]? = some p → qs[i]? = some q → place p.1 = some (q.1, q.2.1) ∧ VR K β q.2.2 p.2) → LR K β z cells.toList → fillV z qs = some l →
    ∃ cs, Instr.fill place cells ps = some cs ∧ LR K β l cs.toList
  | [], qs, cells, z, l, hlen, _, hz, hf => by
    cases qs with
    | nil => simp [fillV] at hf; subst hf; exact ⟨cells, rfl, hz⟩
    | cons => simp at hlen
  | (i, c) :: ps, qs, cells, z, l, hlen, hr, hz, hf => by
    cases qs with
    | nil => simp at hlen
    | cons q qs =>
      obtain ⟨off, n, v⟩ := q
      obtain ⟨hp, hv⟩ := hr 0 (i, c) (off, n, v) rfl rfl
      simp only [fillV] at hf
      split at hf
      · rename_i hc
        obtain ⟨h1, h2, h3⟩ := hc
        have hany : v ≠ .any := by rintro rfl; simp [isAny] at h3
        have hcl := cells_LR hv hany
        have e1 : c.cells.size = n := by rw [← h1]; simpa using hcl.1.symm
        have e2 : z.length = cells.size := by simpa using hz.1
        simp only at hp
        simp only [Instr.fill, hp]
        rw [if_neg (by simp [e1]; omega)]
        have hs := hz.splice hcl off
        refine fill_sound ps qs _ _ l (by simpa using hlen) (fun j p q hp hq => hr (j + 1) p q (by simpa using hp) (by simpa using hq)) ?_ hf
        have e3 := foldl_set off c.cells.toList 0 cells (by simp; omega)
        rw [← Array.foldl_toList, Array.toList_zipIdx]
        rw [e3]
        simpa using hs
      · cases hf

theorem zeros_len (z : List V) : ∀ k, (zeros z k).length = k * z.length
  | 0 => by simp [zeros]
  | k + 1 => by simp [zeros, zeros_len z k, Nat.add_mul]; omega
theorem zeros_get (z : List V) (hz : z.length ≠ 0) : ∀ (k i : Nat), i < k * z.length → (zeros z k)[i]? = z[i % z.length]?
  | 0, i, h => by simp at h
  | k + 1, i, h => by
    simp only [zeros]
    by_cases e : i < z.length
    · rw [List.getElem?_append_left e, Nat.mod_eq_of_lt e]
    · rw [List.getElem?_append_right (by omega), zeros_get z hz k (i - z.length) (by rw [Nat.add_mul] at h; omega)]
      congr 1
      rw [Nat.mod_eq_sub_mod (a := i) (by omega)]
theorem zeros_LR {K : Kn} {β : Bi} {z : List V} {zc : Array Value} (h : LR K β z zc.toList) (hz : z.length ≠ 0) (k : Nat) :
    LR K β (zeros z k) ((Array.range (k * zc.size)).map fun i => zc[i % zc.size]!).toList := by
  have hs : z.length = zc.size := by simpa using h.1
  refine ⟨by simp [zeros_len, hs], fun i v hv => ?_⟩
  have hi : i < k * z.length := by rw [← zeros_len z k]; exact (List.getElem?_eq_some_iff.1 hv).1
  rw [zeros_get z hz k i hi] at hv
  obtain ⟨c, hc, hvc⟩ := h.get hv
  rw [hs] at hi hc
  have : zc[i % zc.size]! = c := by
    simp only [Array.getElem?_toList] at hc
    simp [getElem!_def, hc]
  simpa [List.getD, hi, this] using hvc

theorem flat_len {n : Nat} : ∀ {l : List V}, (∀ v ∈ l, (cellsOf v).length = n) → (flat l).length = l.length * n
  | [], _ => by simp [flat]
  | v :: l, h => by
    have h1 := h v (by simp)
    have h2 := flat_len (l := l) fun u hu => h u (by simp [hu])
    simp only [flat, List.flatMap_cons, List.length_append] at h2 ⊢
    simp only [List.length_cons, Nat.add_mul]; omega

structure Elems (P : Program) (K : Kn) (β : Bi) (w : World) (n : Nat) (c : Value) (xs : List V) (k : Nat) : Prop where
  len : (Builtin.lenOf c).run P w = .ok k w
  size : xs.length = k * n
  first : ∀ m, m ≤ k → ∃ ds : List Value, (∀ w', w'.heap = w.heap → (Builtin.firstCells n m c).run P w' = .ok ds.toArray w') ∧ LR K β (xs.take (m * n)) ds

theorem Seen.heap {K : Kn} {β : Bi} {w w' : World} {b o n : Nat} {l : List V} {ds : List Value} (h : Seen K β w b o n l ds) (hh : w'.heap = w.heap) : Seen K β w' b o n l ds :=
  ⟨h.rel, h.len, fun j x hx => by have := h.cell j x hx; simpa [World.cell?, hh] using this⟩

theorem elems_sound {P : Program} {K : Kn} {β : Bi} {H : List Ob} {w : World} (hI : Inv K β H w) {v : V} {c : Value} (hv : VR K β v c) {n k : Nat} {xs : List V} (he : elems H n v = some (xs, k)) : Elems P K β w n c xs k := by
  have hmul : ∀ {m k : Nat}, m ≤ k → m * n ≤ k * n := fun h => Nat.mul_le_mul_right n h
  cases v <;> simp only [elems] at he <;> try (cases he; done)
  case str s =>
    cases hv
    split at he <;> cases he
    rename_i hn; subst hn
    refine ⟨by simp [Builtin.lenOf], by simp, fun m hm => ?_⟩
    have hm' : ((s.extract 0 m).data.map fun b => Value.int .u8 b.toNat) = ((s.data.toList.map fun b => Value.int .u8 b.toNat).take m).toArray := by
      apply Array.ext'
      simp [← List.map_take]
    refine ⟨(s.data.toList.map fun b => Value.int .u8 b.toNat).take m, fun w' _ => by simp [Builtin.firstCells, ← hm'], ?_⟩
    rw [Nat.mul_one]
    refine LR.take ⟨by simp, fun i v hv => ?_⟩ m
    simp at hv
    obtain ⟨b, hb, rfl⟩ := hv
    simp [List.getD, hb]
    exact .int _ _
  case list l cl =>
    split at he <;> cases he
    rename_i hu
    have hu' : ∀ v ∈ l, (cellsOf v).length = n := by
      intro v hv
      have := List.all_eq_true.1 hu v hv
      simpa using this
    cases hv with
    | lnil h =>
      rename_i a cap
      refine ⟨by simp [Builtin.lenOf], by simp [flat], fun m hm => ?_⟩
      have : m = 0 := by simpa using hm
      subst this
      refine ⟨[], fun w' _ => ?_, by simp [flat]; exact .nil K β⟩
      cases a <;> simp [Builtin.firstCells, loadCells, loadCellsFrom]
    | list hb hun hn hl hc hcl h =>
      rename_i b o n' cap cs e fr
      have hfl := flat_len hun
      refine ⟨by simp [Builtin.lenOf], flat_len hu', fun m hm => ?_⟩
      have hnn : m ≠ 0 → n' = n := by
        intro h0
        cases l with
        | nil => simp at hm; omega
        | cons v r => rw [← hun v (by simp), ← hu' v (by simp)]
      have hmn : m * n = m * n' := by
        by_cases h0 : m = 0
        · simp [h0]
        · rw [hnn h0]
      have hs := seen_of (w := w) (b := b) (o := o) (n := m * n) (hI.fixed _ _ hb) (by rw [hfl]; exact hl) h 0 (Nat.add_zero o).symm (by rw [hfl, hmn, Nat.zero_add]; exact Nat.mul_le_mul_right n' hm)
      refine ⟨_, fun w' hh => by simpa [Builtin.firstCells] using seen_load (hs.heap hh), by simpa using hs.rel⟩
  case own id off len m =>
    split at he
    · rename_i hm
      subst hm
      cases hv with
      | own hβ hz hl hz' hn =>
        rename_i b z cap
        cases hp : peek H (len * m) (.ptr id off) with
        | none => rw [hp] at he; cases he
        | some l =>
          rw [hp] at he; simp at he
          obtain ⟨rfl, rfl⟩ := he
          obtain ⟨b', o', ds, hc, hs⟩ := peek_sound hI (.ptr hβ) hp
          cases hc
          refine ⟨by simp [Builtin.lenOf], hs.len, fun q hq => ?_⟩
          have hqm := hmul hq
          have hs' : Seen K β w b off (q * m) (l.take (q * m)) (ds.take (q * m)) :=
            ⟨hs.rel.take _, by rw [List.length_take, hs.len]; omega, fun j x hx => hs.cell j x (by
              by_cases e : j < q * m
              · simpa [List.getElem?_take, e] using hx
              · simp [List.getElem?_take, e] at hx)⟩
          exact ⟨_, fun w' hh => by simpa [Builtin.firstCells] using seen_load (hs'.heap hh), hs'.rel⟩
    · cases he

theorem growBy_le (need : Nat) : ∀ (r c : Nat), c ≤ 2 * need + 1000 → Builtin.growBy need r c ≤ 2 * need + 1000
  | 0, c, h => by simpa [Builtin.growBy] using h
  | r + 1, c, h => by
    unfold Builtin.growBy
    split
    · exact h
    · exact growBy_le need r _ (by omega)
theorem nextslicecap_le {need cap : Nat} (h : cap < need) : Builtin.nextslicecap need cap ≤ 2 * need + 1000 := by
  unfold Builtin.nextslicecap
  split
  · omega
  · split
    · omega
    · exact growBy_le need 4 cap (by omega)
theorem cap_ok {need cap bytes : Nat} (h : cap < need) (hc : capOk need bytes = true) : ¬ Builtin.nextslicecap need cap * bytes > 2 ^ 48 := by
  have := Nat.mul_le_mul_right bytes (nextslicecap_le h)
  unfold capOk at hc
  simp only [Bool.and_eq_true, decide_eq_true_eq] at hc
  omega
end Fz
