/- A region whose order is open: the theorem. -/
import Derived.Test.YtpojglkaohhbkaaFzU
namespace Fz
open Go

theorem ceK_mono {ops : List AO} {p q : Nat → Bool} : ∀ n, (∀ i, i < n → p i = true → (ops.getD i default).eff = true → q i = true) → ceK ops p n ≤ ceK ops q n
  | 0, _ => Nat.le_refl _
  | n + 1, h => by
    have ih := ceK_mono (ops := ops) (p := p) (q := q) n fun i hi => h i (by omega)
    simp only [ceK]
    have := h n (by omega)
    by_cases hp : p n = true
    · by_cases he : (ops.getD n default).eff = true
      · simp only [hp, he, this hp he, Bool.and_self, if_true]; omega
      · have : (ops.getD n default).eff = false := Bool.eq_false_iff.2 he
        simp only [this, Bool.and_false]; simp; omega
    · have : p n = false := Bool.eq_false_iff.2 hp
      rw [if_neg (show ¬ (p n && (ops.getD n default).eff) = true by simp [this])]
      exact Nat.add_le_add ih (Nat.zero_le _)
theorem ceK_congr {ops : List AO} {p q : Nat → Bool} (n : Nat) (h : ∀ i, i < n → (ops.getD i default).eff = true → p i = q i) : ceK ops p n = ceK ops q n :=
  Nat.le_antisymm (ceK_mono n fun i hi hp he => by rw [← h i hi he]; exact hp) (ceK_mono n fun i hi hp he => by rw [h i hi he]; exact hp)
theorem ceK_insert {ops : List AO} {p : Nat → Bool} {j : Nat} (hp : p j = false) : ∀ n, j < n → ceK ops (fun i => p i || i == j) n = ceK ops p n + (if (ops.getD j default).eff then 1 else 0)
  | 0, h => by omega
  | n + 1, h => by
    simp only [ceK]
    by_cases e : j = n
    · subst e
      have : ceK ops (fun i => p i || i == j) j = ceK ops p j := ceK_congr j fun i hi _ => by
        have : i ≠ j := by omega
        simp [this]
      simp only [this, hp, Bool.false_or, BEq.rfl, Bool.true_and, Bool.false_and]; simp
    · rw [ceK_insert hp n (by omega)]
      have : (n == j) = false := by simp; omega
      simp only [this, Bool.or_false]; omega
theorem ceK_before {ops : List AO} {j : Nat} : ∀ n, j ≤ n → ceK ops (fun i => decide (i < j)) n = ceK ops (fun _ => true) j
  | 0, h => by have : j = 0 := by omega
               subst this; rfl
  | n + 1, h => by
    by_cases e : j = n + 1
    · subst e; exact ceK_congr _ fun i hi _ => by simp [hi]
    · simp only [ceK]; rw [ceK_before n (by omega)]
      have : decide (n < j) = false := by simp; omega
      simp [this]
theorem ceK_cnt {ops : List AO} : ∀ j, j ≤ ops.length → ceK ops (fun _ => true) j = cnt (ops.take j)
  | 0, _ => by simp [ceK, cnt]
  | j + 1, h => by
    simp only [ceK]
    rw [ceK_cnt j (by omega), List.take_succ_eq_append_getElem (by omega)]
    have : ops.getD j default = ops[j] := by simp [List.getD, List.getElem?_eq_getElem (show j < ops.length by omega)]
    rw [this]
    simp only [cnt, List.filter_append, List.length_append, Bool.true_and]
    congr 1
    by_cases he : ops[j].eff = true <;> simp [he]

theorem filter_le {g h : Nat → Bool} (hgh : ∀ i, g i = true → h i = true) : ∀ m : List Nat, (m.filter g).length ≤ (m.filter h).length
  | [] => Nat.le_refl _
  | q :: m => by
    have ih := filter_le hgh m
    simp only [List.filter_cons]
    split
    · rename_i hg; rw [if_pos (hgh q hg)]; simpa using ih
    · split
      · simp; omega
      · exact ih
theorem filter_lt {g h : Nat → Bool} {j : Nat} (hgh : ∀ i, g i = true → h i = true) (hg : g j = false) (hh : h j = true) : ∀ m : List Nat, j ∈ m → (m.filter g).length < (m.filter h).length
  | [], hm => by cases hm
  | q :: m, hm => by
    simp only [List.filter_cons]
    by_cases hq : q = j
    · subst hq
      rw [if_neg (by simp [hg]), if_pos hh]
      have := filter_le hgh m
      simp; omega
    · have hm' : j ∈ m := (List.mem_cons.1 hm).resolve_left fun h => hq h.symm
      have ih := filter_lt hgh hg hh m hm'
      split
      · rename_i hg; rw [if_pos (hgh q hg)]; simpa using ih
      · split
        · simp; omega
        · exact ih

section
variable {P : Program} {call : CallT} (hcall : CallOk P call) {inl : FuncId → Bool} {ops : Array Oper} {nt : Nat}
variable {e : Env} {H : List Ob} {K : Kn} {β : Bi} {a : Act} {w : World} {Q : Exit → Act → World → Prop} {next : Act → World → Prop}
include hcall

theorem quiet_wp {i : Nat} {o : Oper} {ao : AO} {v : V} (hq : quietOp call inl e H ao = some v) (hI : Inv K β H w) (hE : ER K β nt e a) (ho : ops[i]? = some o) (hc : cOper P ops o = some ao)
    (hn : ∀ c K' β' w', VR K' β' v c → Inv K' β' H w' → Ev K β H w K' β' H w' → next (a.put o.dst c) w') : wpOp P ops Q i next a w := by
  obtain ⟨hop, hd⟩ := cOper_op hc
  obtain ⟨g1, g2⟩ := guard_sound ⟨_, hc, rfl⟩ hE
  unfold wpOp
  simp only [ho]
  have go : (match evOp (evO e) H ao.op with
    | some (.val v _) => if pureOp ao.op then some v else none
    | some (.call f args) => match mapOpt (lendV H depthF) args with
      | some l => if groundL l then (match doCall call inl f l [] with
        | some (.ret v, []) => if ground v && (listFree v || groundL args) then some v else none
        | _ => none) else none
      | none => none
    | _ => none) = some v → o.wp P a w next Q := by
    intro hgo
    split at hgo
    · rename_i u H' hr
      split at hgo <;> cases hgo
      rename_i hp
      have hH := pure_heap hp hr
      subst hH
      obtain ⟨c, w', K', β', h1, h2, h3, h4⟩ := evOp_sound (P := P) hI hE hop hr
      unfold Oper.wp
      rw [h1, Oper.upon_value]
      exact hn c K' β' w' h2 h3 h4
    · rename_i f args hr
      obtain ⟨cargs, h1, h2⟩ := evOp_sound (P := P) hI hE hop hr
      split at hgo
      · rename_i l hl
        split at hgo
        · rename_i hgl
          split at hgo
          · rename_i u hdc
            split at hgo <;> cases hgo
            rename_i hcond
            simp only [Bool.and_eq_true, Bool.or_eq_true] at hcond
            obtain ⟨hgv, hor⟩ := hcond
            have fin : ∀ (w' : World) (c : Value), (∃ K' β', VR K' β' v c ∧ Inv K' β' H w' ∧ Ev K β H w K' β' H w') → next (a.put o.dst c) w' := by
              rintro w' c ⟨K', β', q1, q2, q3⟩
              exact hn c K' β' w' q1 q2 q3
            have post : ∃ (Kx : Kn), Inv Kx noB [] w ∧ LR Kx noB l cargs.toList ∧ ∀ (w' : World) (c : Value), CallPost Kx noB [] w (.ret v) [] (.returned c) w' → next (a.put o.dst c) w' := by
              rcases Bool.eq_false_or_eq_true (groundL args) with hga | hga
              · have hll : l = args := by
                  have : ∀ (m x : List V), m.all ground = true → mapOpt (lendV H depthF) m = some x → x = m := by
                    intro m
                    induction m with
                    | nil => intro x _ h; simp [mapOpt] at h; exact h
                    | cons q m ih =>
                      intro x hg h
                      simp only [List.all_cons, Bool.and_eq_true] at hg
                      simp only [mapOpt] at h
                      split at h <;> cases h
                      rename_i y z hy hz
                      rw [lend_ground H _ _ _ hg.1 hy, ih _ hg.2 hz]
                  exact this _ _ (by rw [← groundL_eq]; exact hga) hl
                subst hll
                refine ⟨K, emp_inv hI, ground_LR K.le_refl h2 hga, fun w' c hp => ?_⟩
                obtain ⟨K', β', q1, q2, q3⟩ := hp
                obtain ⟨r1, r2⟩ := quiet_inv hI q2 q3
                exact fin w' c ⟨K', β, ground_VR (Kn.le_refl _) q1 hgv, r1, r2⟩
              · have hlf : listFree v = true := hor.resolve_right (by simp [hga])
                refine ⟨allK w, allK_inv w, ground_LR (Kn.le_refl _) (mapOpt_LR (lendV_sound hI depthF) hl h2) hgl, fun w' c hp => ?_⟩
                obtain ⟨K', β', q1, q2, q3⟩ := hp
                obtain ⟨r1, r2⟩ := lent_inv hI q3
                exact fin w' c ⟨K, β, listFree_VR v c hlf q1, r1, r2⟩
            obtain ⟨Kx, i1, i2, i3⟩ := post
            unfold Oper.wp
            rcases doCall_sound hcall hdc i1 i2 with ⟨c, w', g1, g2⟩ | ⟨g, gs, g1, g2⟩
            · rw [h1, g1, Oper.upon_value]; exact i3 w' c g2
            · rw [h1, g1, Oper.upon_enter]
              refine g2.mono ?_
              rintro en w' hp
              cases en with
              | returned c => exact i3 w' c hp
              | panicked chain => obtain ⟨K', β', q1, _⟩ := hp; exact q1.elim
              | outgrown => obtain ⟨K', β', q1, _⟩ := hp; exact q1.elim
          · cases hgo
        · cases hgo
      · cases hgo
    · cases hgo
  have skip : v = uv → next (a.put o.dst Go.undef) w := fun hv => hn _ K β w (by rw [hv]; exact vr_uv K β) hI (.refl K β H w)
  unfold quietOp at hq
  cases hg : ao.guard with
  | none =>
    rw [hg] at hq
    rw [if_pos (g1 hg)]
    exact .inl (go hq)
  | some tw =>
    obtain ⟨t, want⟩ := tw
    rw [hg] at hq
    obtain ⟨g3, g4⟩ := g2 t want hg
    simp only [] at hq
    split at hq
    · rename_i b hb
      split at hq
      · rename_i hbw
        rw [g3 b hb, if_pos (by simpa using hbw)]
        exact .inl (go hq)
      · rename_i hbw
        rw [g3 b hb, if_neg (by simpa using hbw)]
        exact skip (Option.some.inj hq).symm
    · rename_i hb
      rw [g4 hb, if_neg (by simp)]
      exact skip (Option.some.inj hq).symm
    · cases hq

theorem eff_wp {i : Nat} {o : Oper} {ao : AO} {v : V} {H1 : List Ob} (hq : effOp call inl e H ao = some (v, H1)) (hI : Inv K β H w) (hE : ER K β nt e a) (ho : ops[i]? = some o) (hc : cOper P ops o = some ao)
    (hn : ∀ c K' β' w', VR K' β' v c → Inv K' β' H1 w' → Ev K β H w K' β' H1 w' → next (a.put o.dst c) w') : wpOp P ops Q i next a w := by
  obtain ⟨hop, hd⟩ := cOper_op hc
  obtain ⟨g1, g2⟩ := guard_sound ⟨_, hc, rfl⟩ hE
  unfold wpOp
  simp only [ho]
  have go : (match evOp (evO e) H ao.op with
    | some (.val v H') => some (v, H')
    | some (.skip H') => some (uv, H')
    | some (.call f args) => match doCall call inl f args H with
      | some (.ret v, H') => some (v, H')
      | _ => none
    | _ => none) = some (v, H1) → o.wp P a w next Q := by
    intro hgo
    cases hr : evOp (evO e) H ao.op with
    | none => rw [hr] at hgo; cases hgo
    | some r =>
      rw [hr] at hgo
      refine op_wp hcall (inl := inl) hop hr hI hE ?_ ?_ ?_
      · rintro u H2 (rfl | ⟨rfl, rfl⟩ | ⟨f, args, rfl, hdc⟩) c K1 β1 w1 hv i1 e1
        · cases hgo; exact hn c K1 β1 w1 hv i1 e1
        · cases hgo; exact hn c K1 β1 w1 hv i1 e1
        · simp only [hdc] at hgo; cases hgo; exact hn c K1 β1 w1 hv i1 e1
      · rintro u H2 (rfl | ⟨f, args, rfl, hdc⟩) c K1 β1 w1 hv i1 e1
        · cases hgo
        · simp only [hdc] at hgo; cases hgo
      · rintro f args rfl
        cases hdc : doCall call inl f args H with
        | none => simp only [hdc] at hgo; cases hgo
        | some y => exact ⟨y, rfl⟩
  have skip : v = uv → H1 = H → next (a.put o.dst Go.undef) w := fun hv hH => by
    subst hH; exact hn _ K β w (by rw [hv]; exact vr_uv K β) hI (.refl K β _ w)
  unfold effOp at hq
  cases hg : ao.guard with
  | none =>
    rw [hg] at hq
    rw [if_pos (g1 hg)]
    exact .inl (go hq)
  | some tw =>
    obtain ⟨t, want⟩ := tw
    rw [hg] at hq
    obtain ⟨g3, g4⟩ := g2 t want hg
    simp only [] at hq
    split at hq
    · rename_i b hb
      split at hq
      · rename_i hbw
        rw [g3 b hb, if_pos (by simpa using hbw)]
        exact .inl (go hq)
      · rename_i hbw
        rw [g3 b hb, if_neg (by simpa using hbw)]
        cases hq; exact skip rfl rfl
    · rename_i hb
      rw [g4 hb, if_neg (by simp)]
      cases hq; exact skip rfl rfl
    · cases hq

theorem draw_sound (hm : P.follows .mixedOrders = true) {l : List AO} (hlen : l.length = ops.size) (hops : ∀ (j : Nat) (ao : AO), l[j]? = some ao → ∃ o, ops[j]? = some o ∧ cOper P ops o = some ao) (hdst : ∀ ao ∈ l, ∀ t, ao.dst = some t → t < nt)
    {x : X} {e' : Env} {H' : List Ob} (h : runDraw call inl l e H = some (x, e', H')) (hI : Inv K β H w) (hE : ER K β nt e a) (id : Nat)
    (hQ : ∀ ex a' w', Post K β H w nt x e' H' a.defers ex a' w' → Q ex a' w') : (Code.region id ops true).wp P Q a w := by
  unfold runDraw at h
  split at h
  · cases h
  · rename_i t hs e1 htr
    split at h
    · rename_i hok
      simp only [Bool.and_eq_true] at hok
      obtain ⟨hok, hst⟩ := hok
      split at h
      · rename_i Hl hlast
        cases h
        obtain ⟨t1, t2, t3, t4, t5⟩ := trace_spec l e [H] t hs e' htr (by simp)
        generalize hvals : t.map (·.2.2) = vals at t4 t5
        unfold okDraw at hok
        simp only [Bool.and_eq_true] at hok
        obtain ⟨hafter, htouch⟩ := hok
        -- what stands ahead stands ahead
        have haft : ∀ (j : Nat) (o : AO), l[j]? = some o → ∀ i ∈ o.after, i < j := by
          intro j o hj i hi
          have := List.all_eq_true.1 hafter (o, j) (by rw [List.mem_zipIdx_iff_getElem?]; simpa using hj)
          have := List.all_eq_true.1 this i hi
          simpa using this
        have hanc : ∀ (j : Nat) (o : AO), l[j]? = some o → (ancs l)[j]? = some (o.after.flatMap fun i => i :: (ancs l).getD i []) := by
          intro j o hj
          have := (ancsGo_spec l [] fun j o hj i hi => by simpa using haft j o hj i hi).2 j o hj
          simpa [ancs] using this
        have htc : ∀ (i j : Nat) (p q : AO), l[i]? = some p → l[j]? = some q → i < j → (touches p q = true ∨ (p.eff = true ∧ q.eff = true)) → i ∈ (ancs l).getD j [] := by
          intro i j p q hi hj hij hor
          have := List.all_eq_true.1 htouch (p, i) (by rw [List.mem_zipIdx_iff_getElem?]; simpa using hi)
          have := List.all_eq_true.1 this (q, j) (by rw [List.mem_zipIdx_iff_getElem?]; simpa using hj)
          simp only [Bool.or_eq_true, Bool.not_eq_true', Bool.and_eq_false_iff, decide_eq_false_iff_not] at this
          rcases this with h | h
          · rcases h with h | h
            · exact absurd hij h
            · rcases hor with h2 | h2
              · rw [h2] at h; simp at h
              · rw [h2.1, h2.2] at h; simp at h
          · simpa using h
        have getl : ∀ i, i < l.length → ∃ o, l[i]? = some o ∧ l.getD i default = o := fun i hi => ⟨l[i], List.getElem?_eq_getElem hi, by simp [List.getD, hi]⟩
        have val : ∀ (j : Nat) (ej : Env) (k : Nat) (vj : V), t[j]? = some (ej, k, vj) → vals.getD j uv = vj := by
          intro j ej k vj hj
          rw [← hvals]; simp [List.getD, hj]
        -- the claim, for whatever has been done
        have main : ∀ (fuel : Nat) (listed : Array Bool) (K1 : Kn) (β1 : Bi) (a1 : Act) (w1 : World) (Hk : List Ob), listed.size = ops.size →
            (∀ (i : Nat) (o : AO), listed.getD i false = true → l[i]? = some o → ∀ p ∈ o.after, listed.getD p false = true) →
            ((List.range ops.size).filter fun i => !listed.getD i false).length ≤ fuel →
            ER K1 β1 nt (envK l vals e (fun i => listed.getD i false) l.length) a1 → hs[ceK l (fun i => listed.getD i false) l.length]? = some Hk → Inv K1 β1 Hk w1 → Ev K β H w K1 β1 Hk w1 → a1.defers = a.defers →
            wpAny P .any ops Q fuel listed a1 w1 := by
          intro fuel
          have last : ∀ (listed : Array Bool) (K1 : Kn) (β1 : Bi) (a1 : Act) (w1 : World) (Hk : List Ob), listed.size = ops.size →
              Region.ready .any ops listed = [] →
              ER K1 β1 nt (envK l vals e (fun i => listed.getD i false) l.length) a1 → hs[ceK l (fun i => listed.getD i false) l.length]? = some Hk → Inv K1 β1 Hk w1 → Ev K β H w K1 β1 Hk w1 → a1.defers = a.defers → Q .normal a1 w1 := by
            intro listed K1 β1 a1 w1 Hk hsz hr hE1 hHk hI1 hEv hdf
            have all : ∀ j, j < ops.size → listed.getD j false = true := by
              intro j
              induction j using Nat.strongRecOn with
              | _ j ih =>
                intro hj
                apply Decidable.byContradiction
                intro hn
                obtain ⟨o, ho, _⟩ := getl j (by omega)
                obtain ⟨oo, hoo, hco⟩ := hops j o ho
                have : j ∈ Region.ready .any ops listed := by
                  unfold Region.ready
                  rw [List.mem_filter]
                  refine ⟨List.mem_range.2 hj, ?_⟩
                  have h1 : listed.getD j true = false := by
                    have hjl : j < listed.size := by omega
                    simp [Array.getD_eq_getD_getElem?, hjl] at hn ⊢
                    exact hn
                  simp only [h1, Bool.not_false, Bool.true_and, hoo, Option.map_some, Option.getD_some]
                  rw [Array.all_eq_true']
                  intro ed hed
                  cases hb : Region.binds .any ed with
                  | false => simp
                  | true =>
                    have hin : ed.on ∈ o.after := by
                      unfold cOper at hco
                      split at hco <;> cases hco
                      simp only [List.mem_map, List.mem_filter]
                      exact ⟨ed, ⟨by simpa using hed, hb⟩, rfl⟩
                    have hlt := haft j o ho ed.on hin
                    simp [ih ed.on hlt (by omega)]
                rw [hr] at this; cases this
            have eAll : envK l vals e (fun i => listed.getD i false) l.length = envK l vals e (fun _ => true) l.length := by
              funext τ; exact envK_agree _ fun i hi _ => all i (by omega)
            have cAll : ceK l (fun i => listed.getD i false) l.length = cnt l := by
              rw [ceK_congr (q := fun _ => true) _ fun i hi _ => all i (by omega), ceK_cnt _ (Nat.le_refl _), List.take_length]
            rw [eAll, ← t4] at hE1
            have hH : Hk = H' := by
              rw [cAll] at hHk
              rw [List.getLast?_eq_getElem?, t2] at hlast
              simp only [List.length_singleton] at hlast
              rw [show 1 + cnt l - 1 = cnt l from by omega] at hlast
              rw [hlast] at hHk; exact (Option.some.inj hHk).symm
            subst hH
            exact hQ _ _ _ ⟨K1, β1, trivial, hE1, hI1, hEv, hdf⟩
          induction fuel with
          | zero =>
            intro listed K1 β1 a1 w1 Hk hsz hcl hfuel hE1 hHk hI1 hEv hdf
            have hr : Region.ready .any ops listed = [] := by
              unfold Region.ready
              rw [List.filter_eq_nil_iff]
              intro i hi hc
              simp only [Bool.and_eq_true, Bool.not_eq_true'] at hc
              have hn : ((List.range ops.size).filter fun i => !listed.getD i false) = [] := List.eq_nil_of_length_eq_zero (by omega)
              have := List.filter_eq_nil_iff.1 hn i hi
              have hil : i < listed.size := by rw [hsz]; exact List.mem_range.1 hi
              have h1 := hc.1
              simp [Array.getD_eq_getD_getElem?, hil] at this h1
              rw [this] at h1; cases h1
            exact ⟨hr, last listed K1 β1 a1 w1 Hk hsz hr hE1 hHk hI1 hEv hdf⟩
          | succ fuel ih =>
            intro listed K1 β1 a1 w1 Hk hsz hcl hfuel hE1 hHk hI1 hEv hdf
            refine ⟨fun hr => last listed K1 β1 a1 w1 Hk hsz hr hE1 hHk hI1 hEv hdf, fun j hj => ?_⟩
            unfold Region.ready at hj
            rw [List.mem_filter] at hj
            obtain ⟨hjr, hj⟩ := hj
            have hjn : j < ops.size := List.mem_range.1 hjr
            have hjl : j < listed.size := by omega
            simp only [Bool.and_eq_true, Bool.not_eq_true'] at hj
            obtain ⟨hj1, hj2⟩ := hj
            have hSj : listed.getD j false = false := by
              simp [Array.getD_eq_getD_getElem?, hjl] at hj1 ⊢; exact hj1
            obtain ⟨o, ho, hod⟩ := getl j (by omega)
            obtain ⟨oo, hoo, hco⟩ := hops j o ho
            have haftS : ∀ p ∈ o.after, listed.getD p false = true := by
              intro p hp
              unfold cOper at hco
              split at hco <;> cases hco
              simp only [List.mem_map, List.mem_filter] at hp
              obtain ⟨ed, ⟨hed, hb⟩, rfl⟩ := hp
              rw [hoo] at hj2
              simp only [Option.map_some, Option.getD_some] at hj2
              rw [Array.all_eq_true'] at hj2
              have := hj2 ed (by simpa using hed)
              simpa [hb] using this
            -- what stands ahead, the farther ones too, is done
            have ancS : ∀ (j : Nat) (o : AO), l[j]? = some o → (∀ p ∈ o.after, listed.getD p false = true) → ∀ q ∈ (ancs l).getD j [], listed.getD q false = true := by
              intro j
              induction j using Nat.strongRecOn with
              | _ j ihj =>
                intro o ho hp q hq
                rw [List.getD_eq_getElem?_getD, hanc j o ho, Option.getD_some, List.mem_flatMap] at hq
                obtain ⟨p, hpm, hq⟩ := hq
                rcases List.mem_cons.1 hq with rfl | hq
                · exact hp _ hpm
                · have hpl := haft j o ho p hpm
                  have hjl := (List.getElem?_eq_some_iff.1 ho).1
                  obtain ⟨po, hpo, _⟩ := getl p (by omega)
                  exact ihj p hpl po hpo (hcl p po (hp p hpm) hpo) q hq
            have anc1 := ancS j o ho haftS
            have anc2 : ∀ (i : Nat) (oi : AO), l[i]? = some oi → listed.getD i false = true → j ∉ (ancs l).getD i [] := by
              intro i oi hi hSi hmem
              have := ancS i oi hi (hcl i oi hSi hi) j hmem
              rw [hSj] at this; cases this
            -- the temporaries that it looks at
            obtain ⟨ej, k, vj, Hj, q1, q2, q3, q4, q5⟩ := t5 j o ho
            have hvj := val j ej k vj q1
            have henv : ∀ τ ∈ uses o, envK l vals e (fun i => listed.getD i false) l.length τ = ej τ := by
              intro τ hτ
              rw [q2, ← envK_before l.length (by omega)]
              refine envK_agree _ fun i hi hdi => ?_
              obtain ⟨oi, hoi, hoid⟩ := getl i hi
              rw [hoid] at hdi
              by_cases hij : i < j
              · have : i ∈ (ancs l).getD j [] := htc i j oi o hoi ho hij (.inl (by simp [touches, hdi, hτ]))
                simp [anc1 i this, hij]
              · have hSi : listed.getD i false = false := by
                  apply Bool.eq_false_iff.2
                  intro hSi
                  have hne : i ≠ j := by rintro rfl; rw [hSj] at hSi; cases hSi
                  exact anc2 i oi hoi hSi (htc j i o oi ho hoi (by omega) (.inl (by simp [touches, hdi, hτ])))
                rw [hSi]; simp [hij]
            -- behind it
            have hset : ∀ i, (listed.setIfInBounds j true).getD i false = (listed.getD i false || i == j) := by
              intro i
              simp only [Array.getD_eq_getD_getElem?, Array.getElem?_setIfInBounds]
              by_cases hij : j = i
              · subst hij; simp [hjl]
              · have : (i == j) = false := by simp; omega
                simp [hij, this]
            have after : ∀ (c : Value) (K2 : Kn) (β2 : Bi) (w2 : World) (H2 : List Ob), VR K2 β2 vj c → Inv K2 β2 H2 w2 → Ev K1 β1 Hk w1 K2 β2 H2 w2 →
                hs[ceK l (fun i => listed.getD i false || i == j) l.length]? = some H2 → wpAny P .any ops Q fuel (listed.setIfInBounds j true) (a1.put oo.dst c) w2 := by
              intro c K2 β2 w2 H2 hv i2 e2 hH2
              have hfun : (fun i => (listed.setIfInBounds j true).getD i false) = fun i => listed.getD i false || i == j := funext hset
              refine ih (listed.setIfInBounds j true) K2 β2 _ w2 H2 (by simpa using hsz) ?_ ?_ ?_ (by rw [hfun]; exact hH2) i2 (hEv.trans e2) (by rw [put_defers]; exact hdf)
              · intro i oi hSi hoi p hp
                rw [hset] at hSi ⊢
                rw [Bool.or_eq_true] at hSi
                rcases hSi with hSi | hSi
                · simp [hcl i oi hSi hoi p hp]
                · have : i = j := by simpa using hSi
                  subst this
                  rw [ho] at hoi; cases hoi
                  simp [haftS p hp]
              · have hfl : (fun i => !(listed.setIfInBounds j true).getD i false) = fun i => !(listed.getD i false) && !(i == j) := by
                  funext i; rw [hset]; cases listed.getD i false <;> simp
                rw [hfl]
                have hlt := filter_lt (g := fun i => !(listed.getD i false) && !(i == j)) (h := fun i => !(listed.getD i false)) (j := j) (fun i hi => (Bool.and_eq_true _ _ ▸ hi : _ ∧ _).1) (by simp) (by simp [hSj])
                have := hlt (List.range ops.size) hjr
                omega
              · have hdd := (cOper_op hco).2
                have hput := (hE1.mono e2.k e2.b).put (d := o.dst) (hdst o (List.mem_of_getElem? ho)) hv
                refine ⟨by rw [← hdd]; exact hput.size, fun τ => ?_⟩
                rw [hfun, envK_insert (by omega) hSj ?_ τ, hod, hvj, ← hdd]
                · exact hput.val τ
                · intro i hji hil hSi τ hd1 hd2
                  obtain ⟨oi, hoi, hoid⟩ := getl i hil
                  rw [hod] at hd1; rw [hoid] at hd2
                  exact anc2 i oi hoi hSi (htc j i o oi ho hoi hji (.inl (by simp [touches, hd1, hd2])))
            cases heff : o.eff with
            | true =>
              obtain ⟨H2, r1, r2⟩ := q4 heff
              have hcj : ceK l (fun i => listed.getD i false) l.length = cnt (l.take j) := by
                rw [← ceK_cnt j (by omega), ← ceK_before l.length (by omega)]
                refine ceK_congr _ fun i hi hei => ?_
                obtain ⟨oi, hoi, hoid⟩ := getl i hi
                rw [hoid] at hei
                by_cases hij : i < j
                · have := htc i j oi o hoi ho hij (.inr ⟨hei, heff⟩)
                  simp [anc1 i this, hij]
                · have hSi : listed.getD i false = false := by
                    apply Bool.eq_false_iff.2
                    intro hSi
                    have hne : i ≠ j := by rintro rfl; rw [hSj] at hSi; cases hSi
                    exact anc2 i oi hoi hSi (htc j i o oi ho hoi (by omega) (.inr ⟨heff, hei⟩))
                  rw [hSi]; simp [hij]
              have hHj : Hj = Hk := by
                rw [hcj] at hHk
                simp only [List.length_singleton, Nat.sub_self, Nat.zero_add] at q3
                rw [q3] at hHk; exact Option.some.inj hHk
              subst hHj
              rw [← effOp_congr henv] at r2
              refine eff_wp hcall r2 hI1 hE1 hoo hco fun c K2 β2 w2 hv i2 e2 => after c K2 β2 w2 H2 hv i2 e2 ?_
              rw [ceK_insert hSj _ (by omega), hod, heff, hcj]
              simp only [List.length_singleton] at r1
              rw [← r1]; congr 1; simp; omega
            | false =>
              have hq := steadyAll_spec l 0 t hst j o ej k vj ho q1 heff (ceK l (fun i => listed.getD i false) l.length) Hk ?_ ?_ hHk
              · rw [← quietOp_congr henv] at hq
                refine quiet_wp hcall hq hI1 hE1 hoo hco fun c K2 β2 w2 hv i2 e2 => after c K2 β2 w2 Hk hv i2 e2 ?_
                rw [ceK_insert hSj _ (by omega), hod, heff]; simpa using hHk
              · rw [Nat.zero_add]
                exact ceK_mono _ fun i hi hp _ => anc1 i (by simpa using hp)
              · rw [Nat.zero_add]
                refine ceK_mono _ fun i hi hp _ => ?_
                obtain ⟨oi, hoi, _⟩ := getl i hi
                simpa using anc2 i oi hoi hp
        refine wp_region_any hm ?_
        refine main ops.size (Array.replicate ops.size false) K β a _ H (by simp) ?_ ?_ ?_ ?_ (hI.drawn rfl) (.drawn rfl rfl rfl rfl) rfl
        · intro i o hi
          simp [Array.getD_eq_getD_getElem?, Array.getElem?_replicate] at hi
          split at hi <;> simp at hi
        · exact Nat.le_trans (List.length_filter_le _ _) (by simp)
        · have hz : ∀ i, (Array.replicate ops.size false).getD i false = false := fun i => by
            simp only [Array.getD_eq_getD_getElem?, Array.getElem?_replicate]; split <;> rfl
          have : ∀ n, envK l vals e (fun i => (Array.replicate ops.size false).getD i false) n = e := by
            intro n
            induction n with
            | zero => rfl
            | succ n ih =>
              simp only [envK]
              rw [if_neg (by rw [hz]; simp)]; exact ih
          rw [this]; exact hE
        · have hz : ∀ i, (Array.replicate ops.size false).getD i false = false := fun i => by
            simp only [Array.getD_eq_getD_getElem?, Array.getElem?_replicate]; split <;> rfl
          have : ∀ n, ceK l (fun i => (Array.replicate ops.size false).getD i false) n = 0 := by
            intro n
            induction n with
            | zero => rfl
            | succ n ih =>
              simp only [ceK]
              rw [ih, if_neg (by rw [hz]; simp)]
          rw [this, t3 0 (by simp)]; rfl
      · cases h
    · cases h
end
end Fz
