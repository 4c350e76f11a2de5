/- Each operation is carried out as the abstract interpreter says: all of them. -/
import Derived.Test.YtpojglkaohhbkaaFzI
namespace Fz
open Go

theorem execOp_v {P : Program} {w : World} {s : Sem Value} {c : Value} {w' : World} (h : s.run P w = .ok c w') : (do pure (.value (← s)) : Sem Next).run P w = .ok (.value c) w' := by
  rw [Sem.run_bind, h]; rfl
theorem execOp_u {P : Program} {w : World} {s : Sem Unit} {w' : World} (h : s.run P w = .ok () w') : (do s; pure .skip : Sem Next).run P w = .ok .skip w' := by
  rw [Sem.run_bind, h]; rfl

theorem cOOpd_R {K : Kn} {β : Bi} {nt : Nat} {e : Env} {a : Act} (hE : ER K β nt e a) {x : Option Operand} {y : Option Opd} (h : cOOpd x = some y) : OptR K β (y.map (evO e)) (x.map a.eval) := by
  cases x with
  | none => simp [cOOpd] at h; subst h; trivial
  | some x =>
    simp only [cOOpd, Option.map_eq_some_iff] at h
    obtain ⟨z, hz, rfl⟩ := h
    exact hE.opd hz

theorem opds_LR {K : Kn} {β : Bi} {nt : Nat} {e : Env} {a : Act} (hE : ER K β nt e a) : ∀ {l : List Operand} {x : List Opd}, mapOpt cOpd l = some x → LR K β (x.map (evO e)) (l.map a.eval)
  | [], x, h => by simp [mapOpt] at h; subst h; exact .nil K β
  | o :: l, x, h => by
    simp only [mapOpt] at h
    cases ho : cOpd o with
    | none => simp [ho] at h
    | some y =>
      cases hl : mapOpt cOpd l with
      | none => simp [ho, hl] at h
      | some r =>
        simp [ho, hl] at h; subst h
        exact .cons (hE.opd ho) (opds_LR hE hl)

theorem parts_R {P : Program} {K : Kn} {β : Bi} {nt : Nat} {e : Env} {a : Act} (hE : ER K β nt e a) {place : Nat → Option (Nat × Nat)} : ∀ {ps : List (Nat × Operand)} {qs : List (Nat × Nat × Opd)}, cParts P place ps = some qs →
    (ps.map fun p => (p.1, a.eval p.2)).length = (qs.map fun q => (q.1, q.2.1, evO e q.2.2)).length ∧
    ∀ (i : Nat) (p : Nat × Value) (q : Nat × Nat × V), (ps.map fun p => (p.1, a.eval p.2))[i]? = some p → (qs.map fun q => (q.1, q.2.1, evO e q.2.2))[i]? = some q → place p.1 = some (q.1, q.2.1) ∧ VR K β q.2.2 p.2
  | [], qs, h => by simp [cParts] at h; subst h; exact ⟨rfl, fun i p q hp => by simp at hp⟩
  | (j, x) :: ps, qs, h => by
    simp only [cParts] at h
    split at h <;> cases h
    rename_i off n y l hpl hx hr
    obtain ⟨g1, g2⟩ := parts_R hE hr
    refine ⟨by simpa using g1, fun i p q hp hq => ?_⟩
    cases i with
    | zero =>
      simp at hp hq
      subst hp; subst hq
      exact ⟨hpl, hE.opd hx⟩
    | succ i => exact g2 i p q (by simpa using hp) (by simpa using hq)

theorem maxF_sound {P : Program} {K : Kn} {β : Bi} {w : World} : ∀ {l : List V} {cs : List Value} {v r : V} {c : Value}, VR K β v c → LR K β l cs → maxF v l = some r → ∃ d, (cs.foldlM Builtin.max2 c).run P w = .ok d w ∧ VR K β r d
  | [], cs, v, r, c, hv, hl, h => by
    have : cs = [] := List.eq_nil_of_length_eq_zero hl.1.symm
    subst this
    cases v <;> simp [maxF] at h <;> subst h <;> exact ⟨c, rfl, hv⟩
  | u :: l, cs, v, r, c, hv, hl, h => by
    obtain ⟨d, ds, rfl, hd, hr⟩ := hl.head
    unfold maxF at h
    split at h <;> try (cases h; done)
    · rename_i heq; cases heq
    · rename_i heq; cases heq
      split at h
      · rename_i hk; subst hk
        cases hv; cases hd
        obtain ⟨x, hx, hvx⟩ := maxF_sound (.int _ _) hr h
        exact ⟨x, by simp only [List.foldlM_cons, Sem.run_bind, Builtin.max2]; exact hx, hvx⟩
      · cases h
theorem minF_sound {P : Program} {K : Kn} {β : Bi} {w : World} : ∀ {l : List V} {cs : List Value} {v r : V} {c : Value}, VR K β v c → LR K β l cs → minF v l = some r → ∃ d, (cs.foldlM Builtin.min2 c).run P w = .ok d w ∧ VR K β r d
  | [], cs, v, r, c, hv, hl, h => by
    have : cs = [] := List.eq_nil_of_length_eq_zero hl.1.symm
    subst this
    cases v <;> simp [minF] at h <;> subst h <;> exact ⟨c, rfl, hv⟩
  | u :: l, cs, v, r, c, hv, hl, h => by
    obtain ⟨d, ds, rfl, hd, hr⟩ := hl.head
    unfold minF at h
    split at h <;> try (cases h; done)
    · rename_i heq; cases heq
    · rename_i heq; cases heq
      split at h
      · rename_i hk; subst hk
        cases hv; cases hd
        obtain ⟨x, hx, hvx⟩ := minF_sound (.int _ _) hr h
        exact ⟨x, by simp only [List.foldlM_cons, Sem.run_bind, Builtin.min2]; exact hx, hvx⟩
      · cases h

theorem b2s_sound {P : Program} {K : Kn} {β : Bi} {H : List Ob} {w : World} (hI : Inv K β H w) {src dst et : TypeId} (h1 : P.underlying src = some (.slice et)) (h2 : P.underlying et = some (.int .u8)) (h3 : P.underlying dst = some .string)
    {v : V} {c : Value} (hv : VR K β v c) (hsl : ∃ a l cap, c = .slice a l cap) {xs : List V} {k : Nat} (he : elems H 1 v = some (xs, k)) (ha : (xs.all fun v => match v with | .int .u8 n => decide (0 ≤ n) && decide (n < 256) | _ => false) = true) :
    (convert src dst c).run P w = .ok (.string ⟨(xs.map fun v => match v with | .int _ n => n.toNat.toUInt8 | _ => 0).toArray⟩) w := by
  obtain ⟨a, l, cap, rfl⟩ := hsl
  have hel := elems_sound (P := P) hI hv he
  have hlk : l = k := by have := hel.len; simp [Builtin.lenOf] at this; exact this
  subst hlk
  rw [run_convert_bytes_string w src dst et a l cap h1 h2 h3]
  obtain ⟨ds, hd1, hd2⟩ := hel.first l (Nat.le_refl _)
  rw [← hel.size, List.take_length] at hd2
  have hd1 := hd1 w rfl
  have key : ∀ {xs : List V} {ds : List Value}, LR K β xs ds → (xs.all fun v => match v with | .int .u8 n => decide (0 ≤ n) && decide (n < 256) | _ => false) = true →
      ∃ ns : List Int, ds = ns.map (Value.int .u8) ∧ xs.map (fun v => match v with | .int _ n => n.toNat.toUInt8 | _ => 0) = ns.map fun n => UInt8.ofNat n.toNat := by
    intro xs
    induction xs with
    | nil => intro ds h _; exact ⟨[], List.eq_nil_of_length_eq_zero h.1.symm, rfl⟩
    | cons x xs ih =>
      intro ds h ha
      obtain ⟨d, r, rfl, g1, g2⟩ := h.head
      simp only [List.all_cons, Bool.and_eq_true] at ha
      obtain ⟨ns, rfl, e2⟩ := ih g2 ha.2
      have hx := ha.1
      split at hx
      · rename_i n
        cases g1
        exact ⟨n :: ns, rfl, by simp only [List.map_cons, e2]⟩
      · cases hx
  obtain ⟨ns, rfl, e2⟩ := key hd2 ha
  have fold : ∀ (ns : List Int) (s : ByteArray), ns.foldl (fun r n => r.push (UInt8.ofNat n.toNat)) s = ⟨s.data ++ (ns.map fun n => UInt8.ofNat n.toNat).toArray⟩ := by
    intro ns
    induction ns with
    | nil => intro s; simp
    | cons n ns ih =>
      intro s
      simp only [List.foldl_cons, ih, List.map_cons]
      congr 1
      apply Array.ext'
      simp [ByteArray.push]
  cases a with
  | none =>
    have : ns = [] := by
      have := hd1
      simp [Builtin.firstCells] at this
      cases ns with
      | nil => rfl
      | cons => simp at this
    subst this
    rw [e2]; rfl
  | some a =>
    rw [run_bytesToString w a l cap ns (by simpa [Builtin.firstCells] using hd1), fold, e2]
    simp
end Fz
