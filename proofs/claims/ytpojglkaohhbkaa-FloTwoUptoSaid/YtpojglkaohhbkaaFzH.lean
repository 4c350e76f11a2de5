/- Each operation is carried out as the abstract interpreter says: slices, conversions, appends. -/
import Derived.Test.YtpojglkaohhbkaaFzG
import Derived.Laws.BytesString
import Derived.Laws.Slices
namespace Fz
open Go

/-- What may stand, or not. -/
def OptR (K : Kn) (β : Bi) : Option V → Option Value → Prop
  | none, none => True
  | some v, some c => VR K β v c
  | _, _ => False

theorem natV_some {K : Kn} {β : Bi} {x : Option V} {c : Option Value} (h : OptR K β x c) {d n : Nat} (hn : natV x d = some n) :
    (x = none ∧ c = none ∧ n = d) ∨ ∃ k i, x.isSome = true ∧ c = some (.int k i) ∧ 0 ≤ i ∧ n = i.toNat := by
  cases x with
  | none =>
    cases c with
    | none => simp [natV] at hn; exact .inl ⟨rfl, rfl, hn.symm⟩
    | some => exact h.elim
  | some v =>
    cases c with
    | none => exact h.elim
    | some c =>
      right
      unfold natV at hn
      split at hn <;> try (cases hn; done)
      · rename_i heq; cases heq
      · rename_i heq; cases heq
        split at hn <;> cases hn
        cases h
        exact ⟨_, _, rfl, rfl, ‹_›, rfl⟩

theorem bounds_run {P : Program} {w : World} {K : Kn} {β : Bi} {lo hi mx : Option V} {clo chi cmx : Option Value} (h1 : OptR K β lo clo) (h2 : OptR K β hi chi) (h3 : OptR K β mx cmx)
    (hno : (mx.isSome && hi.isNone) = false) {is : Bool} {len cap l h m d : Nat} (hm : natV mx d = some m) (hh : natV hi len = some h) (hl : natV lo 0 = some l)
    (hlh : l ≤ h) (hhm : h ≤ m) (hmc : m ≤ cap) : (Instr.sliceBounds is len cap clo chi cmx).run P w = .ok (l, h, if mx.isSome then m else cap) w := by
  rcases natV_some h3 hm with ⟨rfl, rfl, rfl⟩ | ⟨k3, i3, e3, rfl, g3, rfl⟩
  · rcases natV_some h2 hh with ⟨rfl, rfl, rfl⟩ | ⟨k2, i2, e2, rfl, g2, rfl⟩
    · rcases natV_some h1 hl with ⟨rfl, rfl, rfl⟩ | ⟨k1, i1, e1, rfl, g1, rfl⟩
      · simp [Instr.sliceBounds]
      · simp [Instr.sliceBounds, run_sliceBound w k1 i1 h _ g1 (by omega)]
    · rcases natV_some h1 hl with ⟨rfl, rfl, rfl⟩ | ⟨k1, i1, e1, rfl, g1, rfl⟩
      · simp [Instr.sliceBounds, run_sliceBound w k2 i2 cap _ g2 (by omega)]
      · simp [Instr.sliceBounds, run_sliceBound w k2 i2 cap _ g2 (by omega), run_sliceBound w k1 i1 i2.toNat _ g1 (by omega)]
  · have hs : mx.isSome = true := e3
    rcases natV_some h2 hh with ⟨rfl, rfl, rfl⟩ | ⟨k2, i2, e2, rfl, g2, rfl⟩
    · rw [hs] at hno; simp at hno
    · rcases natV_some h1 hl with ⟨rfl, rfl, rfl⟩ | ⟨k1, i1, e1, rfl, g1, rfl⟩
      · simp [Instr.sliceBounds, hs, run_sliceBound w k3 i3 cap _ g3 (by omega), run_sliceBound w k2 i2 i3.toNat _ g2 (by omega)]
      · simp [Instr.sliceBounds, hs, run_sliceBound w k3 i3 cap _ g3 (by omega), run_sliceBound w k2 i2 i3.toNat _ g2 (by omega), run_sliceBound w k1 i1 i2.toNat _ g1 (by omega)]

theorem flat_drop {n : Nat} : ∀ {l : List V} (k : Nat), (∀ v ∈ l, (cellsOf v).length = n) → flat (l.drop k) = (flat l).drop (k * n)
  | _, 0, _ => by simp
  | [], k + 1, _ => by simp [flat]
  | v :: l, k + 1, h => by
    have h1 := h v (by simp)
    have h2 := flat_drop (l := l) k fun u hu => h u (by simp [hu])
    simp only [List.drop_succ_cons, h2]
    simp only [flat, List.flatMap_cons]
    rw [List.drop_append, h1]
    simp only [Nat.add_mul, Nat.one_mul]
    rw [show k * n + n - n = k * n from by omega]
    rw [List.drop_eq_nil_of_le (by omega : (cellsOf v).length ≤ k * n + n)]
    simp
theorem flat_take {n : Nat} : ∀ {l : List V} (k : Nat), (∀ v ∈ l, (cellsOf v).length = n) → flat (l.take k) = (flat l).take (k * n)
  | _, 0, _ => by simp [flat]
  | [], k + 1, _ => by simp [flat]
  | v :: l, k + 1, h => by
    have h1 := h v (by simp)
    have h2 := flat_take (l := l) k fun u hu => h u (by simp [hu])
    simp only [List.take_succ_cons]
    simp only [flat, List.flatMap_cons] at h2 ⊢
    rw [h2, List.take_append, h1]
    simp only [Nat.add_mul, Nat.one_mul]
    rw [show k * n + n - n = k * n from by omega, List.take_of_length_le (by omega : (cellsOf v).length ≤ k * n + n)]

/-- A part of a list that stays. -/
theorem VR.sub {K : Kn} {β : Bi} {e : List V} {c : Bool} {b o n : Nat} {cs : Array Value} {t : TypeId} {fr : Nat × Nat} (hb : K.fixed b = some (.cells cs t fr))
    (hu : ∀ v ∈ e, (cellsOf v).length = n) (hn : n ≠ 0) (hl : o + e.length * n ≤ cs.size) (h : ∀ i v, (flat e)[i]? = some v → VR K β v (cs.getD (o + i) Go.undef))
    {l k cap' : Nat} {c' : Bool} (hlk : l + k ≤ e.length) (hc : k ≤ cap') (hcl : c' = true → cap' = k) :
    VR K β (.list ((e.drop l).take k) c') (.slice (some ⟨b, o + l * n, none⟩) k cap') := by
  have e1 : ((e.drop l).take k).length = k := by simp; omega
  have := VR.list (K := K) (β := β) (l := (e.drop l).take k) (c := c') (b := b) (o := o + l * n) (n := n) (cap := cap') hb (fun v hv => hu v (List.mem_of_mem_drop (List.mem_of_mem_take hv))) hn ?_ (by omega) (by rw [e1]; exact hcl) ?_
  · rw [e1] at this; exact this
  · rw [e1]
    have : (l + k) * n ≤ e.length * n := Nat.mul_le_mul_right n hlk
    rw [Nat.add_mul] at this; omega
  · intro i v hv
    rw [flat_take k fun v hv => hu v (List.mem_of_mem_drop hv), flat_drop l hu] at hv
    by_cases hi : i < k * n
    · simp [List.getElem?_take, hi] at hv
      have := h _ v hv
      rwa [show o + (l * n + i) = o + l * n + i from by omega] at this
    · simp [List.getElem?_take, hi] at hv

theorem slice_sound {P : Program} {K : Kn} {β : Bi} {H : List Ob} {w : World} (hI : Inv K β H w) {t : TypeId} {k : SlK} {x v : V} {cx : Value} {lo hi mx : Option V} {clo chi cmx : Option Value}
    (hk : match k with
      | .str => P.underlying t = some .string
      | .sl n => ∃ e, P.underlying t = some (.slice e) ∧ tSize P e = some n ∧ n ≠ 0
      | .arr len n => ∃ e, (P.underlying t = some (.array len e) ∨ ∃ a, P.underlying t = some (.pointer a) ∧ P.underlying a = some (.array len e)) ∧ tSize P e = some n ∧ n ≠ 0)
    (hx : VR K β x cx) (h1 : OptR K β lo clo) (h2 : OptR K β hi chi) (h3 : OptR K β mx cmx) (h : sliceV H k x lo hi mx = some v) :
    ∃ c, (Instr.sliceAt t cx clo chi cmx).run P w = .ok c w ∧ VR K β v c := by
  unfold sliceV at h
  split at h
  · cases h
  rename_i hno
  have hno : (mx.isSome && hi.isNone) = false := Bool.eq_false_iff.2 hno
  split at h
  · rename_i s
    split at h
    · cases h
    rename_i hmx
    have hmx0 : mx = none := by simpa using hmx
    subst hmx0
    cases cmx with
    | some => exact h3.elim
    | none =>
    split at h
    · rename_i hh ll eh el
      split at h <;> cases h
      rename_i hc
      cases hx
      have hr := bounds_run (P := P) (w := w) h1 h2 (K := K) (β := β) (mx := none) (cmx := none) trivial rfl (is := false) (len := s.size) (cap := s.size) (d := s.size) (m := s.size) rfl eh el hc.1 hc.2 (Nat.le_refl _)
      refine ⟨.string (s.extract ll hh), ?_, .str _⟩
      have hu := run_underlying hk w
      simp [Instr.sliceAt, Instr.slice, hu, hr]
    · cases h
  · rename_i n e c
    obtain ⟨et, hut, hsz, hn0⟩ := hk
    have hu := run_underlying hut w
    have hsz' := sizeOf_run hsz w
    split at h
    · cases h
    rename_i huni
    have hu1 : uni n e = true := by simpa using huni
    clear huni
    split at h
    · rename_i m hh ll em eh el
      split at h <;> cases h
      rename_i hc
      cases hx with
      | lnil hcap =>
        rename_i a cap
        simp at hc
        obtain ⟨g1, g2, g3⟩ := hc
        subst g3
        have : hh = 0 := by omega
        subst this
        have : ll = 0 := by omega
        subst this
        have hr := bounds_run (P := P) (w := w) h1 h2 h3 hno (is := true) (len := 0) (cap := cap) em eh el (Nat.le_refl _) (Nat.le_refl _) (Nat.zero_le _)
        refine ⟨_, by simp [Instr.sliceAt, Instr.slice, hu, hr, hsz']; rfl, ?_⟩
        simp only [List.drop_zero, List.take_nil, Nat.sub_zero]
        refine .lnil ?_
        cases hms : mx.isSome <;> simp
        exact hcap
      | list hb hun hn hl hcap hcl hcells =>
        rename_i b o n' cap cs et' fr
        have hr := bounds_run (P := P) (w := w) h1 h2 h3 hno (is := true) (len := e.length) (cap := cap) em eh el hc.1 hc.2.1 (by omega)
        refine ⟨_, by simp [Instr.sliceAt, Instr.slice, hu, hr, hsz']; rfl, ?_⟩
        by_cases hk0 : hh - ll = 0
        · rw [hk0]
          simp only [List.take_zero]
          refine .lnil ?_
          cases hms : mx.isSome
          · simp only [Bool.false_eq_true, if_false, Bool.and_eq_true, beq_iff_eq]
            rintro ⟨g1, g2⟩
            have := hcl g1
            omega
          · simp only [if_true, beq_iff_eq]
            omega
        · have hnn : n' = n := by
            cases e with
            | nil => simp at hc; omega
            | cons v r =>
              have := List.all_eq_true.1 hu1 v (by simp)
              rw [← hun v (by simp)]; simpa using this
          subst hnn
          have hne : (if mx.isSome = true then m else cap) ≠ ll := by
            split <;> omega
          rw [if_neg hne]
          have := VR.sub (c := c) hb hun hn hl hcells (l := ll) (k := hh - ll) (cap' := (if mx.isSome = true then m else cap) - ll) (c' := (if mx.isSome then m == hh else c && hh == e.length)) (by omega) (by split <;> omega) ?_
          · simpa [addr_add] using this
          · cases hms : mx.isSome
            · simp only [Bool.false_eq_true, if_false, Bool.and_eq_true, beq_iff_eq]
              rintro ⟨g1, g2⟩
              have := hcl g1
              omega
            · simp only [if_true, beq_iff_eq]
              omega
    · cases h
  · rename_i n id off len n'
    obtain ⟨et, hut, hsz, hn0⟩ := hk
    have hu := run_underlying hut w
    have hsz' := sizeOf_run hsz w
    split at h
    · rename_i m hh ll em eh el
      split at h <;> cases h
      rename_i hc
      obtain ⟨rfl, hc⟩ := hc
      cases hx with
      | own hβ hz hl hz' hn =>
        rename_i b cap z
        have hr := bounds_run (P := P) (w := w) h1 h2 h3 hno (is := true) (len := len) (cap := cap) em eh el hc.1 hc.2.1 (by omega)
        refine ⟨_, by simp [Instr.sliceAt, Instr.slice, hu, hr, hsz']; rfl, ?_⟩
        by_cases hc0 : hh = ll ∧ (ll ≠ 0 ∨ mx.isSome = true)
        · rw [if_pos hc0]
          obtain ⟨rfl, _⟩ := hc0
          rw [Nat.sub_self]
          refine .lnil ?_
          cases hms : mx.isSome <;> simp
          omega
        · rw [if_neg hc0]
          have hM1 : mx.isSome = true → (if mx.isSome = true then m else cap) = m := fun h => if_pos h
          have hM2 : mx.isSome = false → (if mx.isSome = true then m else cap) = cap := fun h => if_neg (by simp [h])
          have hcap2 : (if mx.isSome = true then m else cap) ≤ cap := by split <;> omega
          have hcap3 : hh ≤ (if mx.isSome = true then m else cap) := by split <;> omega
          generalize (if mx.isSome = true then m else cap) = M at *
          have e1 : (if M = ll then some (⟨b, off, none⟩ : Addr) else some ((⟨b, off, none⟩ : Addr).add (ll * n))) = some ⟨b, off + ll * n, none⟩ := by
            by_cases hq : M = ll
            · rw [if_pos hq]
              have : ll = 0 := by
                apply Decidable.byContradiction
                intro hl0
                exact hc0 ⟨by omega, .inl hl0⟩
              simp [this]
            · rw [if_neg hq, addr_add]
          have := VR.own (K := K) (β := β) (id := id) (off := off + ll * n) (len := hh - ll) (n := n) (cap := M - ll) hβ hz (by omega) ?_ hn
          · simpa [e1] using this
          · have : (M - ll + ll) * n ≤ cap * n := Nat.mul_le_mul_right n (by omega)
            rw [Nat.add_mul] at this; omega
    · cases h
  · rename_i alen n id off
    obtain ⟨et, hut, hsz, hn0⟩ := hk
    have hsz' := sizeOf_run hsz w
    split at h
    · rename_i m hh ll l em eh el ep
      split at h <;> cases h
      rename_i hc
      obtain ⟨b, o, ds, hcx, hs⟩ := peek_sound hI hx ep
      cases hx with
      | ptr hβ =>
        cases hcx
        have hr := bounds_run (P := P) (w := w) h1 h2 h3 hno (is := false) (len := alen) (cap := alen) em eh el hc.1 hc.2.1 (by omega)
        have hm' : (if mx.isSome = true then m else alen) = m := by
          cases hms : mx with
          | none => subst hms; simp [natV] at em; simp [em]
          | some => simp
        rw [hm'] at hr
        have hrun : (Instr.sliceAt t (.pointer (some ⟨b, off, none⟩)) clo chi cmx).run P w = .ok (.slice (some (if m = ll then ⟨b, off, none⟩ else (⟨b, off, none⟩ : Addr).add (ll * n))) (hh - ll) (m - ll)) w := by
          rcases hut with hut | ⟨a, hut, hua⟩
          · have hu := run_underlying hut w
            simp [Instr.sliceAt, hu, Instr.sureAddr, hr, hsz']
          · have hu := run_underlying hut w
            have hu2 := run_underlying hua w
            simp [Instr.sliceAt, Instr.slice, hu, hu2, asAddr, hr, hsz']
        refine ⟨_, hrun, ?_⟩
        by_cases hc0 : hh = ll
        · rw [if_pos hc0, hc0, Nat.sub_self]
          refine .lnil ?_
          simp; omega
        · rw [if_neg hc0, if_neg (by omega), addr_add]
          obtain ⟨z, hz, hle⟩ : ∃ z, K.size b = some z ∧ off + alen * n ≤ z := by
            have hp : peek H (alen * n) (.ptr id off) = some l := ep
            simp only [peek] at hp
            cases ho : H[id]? with
            | none => rw [ho] at hp; cases hp
            | some ob =>
              have hob := hI.obj id ob ho
              cases ob <;> simp only [ho] at hp <;> try (cases hp; done)
              · obtain ⟨b', cs, e, g1, g2, g3, g4, g5⟩ := hob
                rw [hβ] at g1; cases g1
                split at hp <;> cases hp
                exact ⟨_, g3, by have := g5.1; omega⟩
              · obtain ⟨b', cs, e, fr, g1, g2, g3, g5⟩ := hob
                rw [hβ] at g1; cases g1
                split at hp <;> cases hp
                exact ⟨_, g3, by have := g5.1; omega⟩
          refine .own hβ hz (by omega) ?_ hn0
          have : (m - ll + ll) * n ≤ alen * n := Nat.mul_le_mul_right n (by omega)
          rw [Nat.add_mul] at this; omega
    · cases h
  · cases h
end Fz
