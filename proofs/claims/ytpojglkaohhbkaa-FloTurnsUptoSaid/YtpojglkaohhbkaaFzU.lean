/- A region whose order is open: in whatever order, what the abstract interpreter says: the order. -/
import Derived.Test.YtpojglkaohhbkaaFzT
namespace Fz
open Go

/-- What the first k operations, those of S alone, write. -/
def envK (l : List AO) (vals : List V) (e : Env) (S : Nat → Bool) : Nat → Env
  | 0 => e
  | k + 1 => if S k then putE (envK l vals e S k) (l.getD k default).dst (vals.getD k uv) else envK l vals e S k

theorem envK_agree {l : List AO} {vals : List V} {e : Env} {S S' : Nat → Bool} {τ : Nat} : ∀ (n : Nat), (∀ i, i < n → (l.getD i default).dst = some τ → S i = S' i) → envK l vals e S n τ = envK l vals e S' n τ
  | 0, _ => rfl
  | k + 1, h => by
    have ih := envK_agree (vals := vals) (e := e) k fun i hi => h i (by omega)
    have hput : ∀ (e1 e2 : Env) (d : Option Nat) (v : V), e1 τ = e2 τ → putE e1 d v τ = putE e2 d v τ := by
      intro e1 e2 d v he
      cases d with
      | none => exact he
      | some t =>
        simp only [putE, upd]
        split
        · rfl
        · exact he
    have hno : ∀ (e1 : Env) (d : Option Nat) (v : V), d ≠ some τ → putE e1 d v τ = e1 τ := by
      intro e1 d v hd
      cases d with
      | none => rfl
      | some t => simp only [putE, upd]; rw [if_neg (fun h => hd (by rw [h]))]
    by_cases hd : (l.getD k default).dst = some τ
    · simp only [envK, h k (by omega) hd]
      split
      · exact hput _ _ _ _ ih
      · exact ih
    · simp only [envK]
      split <;> split <;> (try simp only [hno _ _ _ hd]) <;> exact ih

theorem envK_insert {l : List AO} {vals : List V} {e : Env} {S : Nat → Bool} {n j : Nat} (hj : j < n) (hS : S j = false) (hlast : ∀ i, j < i → i < n → S i = true → ∀ τ, (l.getD j default).dst = some τ → (l.getD i default).dst ≠ some τ) (τ : Nat) :
    envK l vals e (fun i => S i || i == j) n τ = putE (envK l vals e S n) (l.getD j default).dst (vals.getD j uv) τ := by
  by_cases hd : (l.getD j default).dst = some τ
  · rw [hd]
    have e1 : putE (envK l vals e S n) (some τ) (vals.getD j uv) τ = vals.getD j uv := by simp [putE, upd]
    rw [e1]
    have key : ∀ k, j < k → k ≤ n → envK l vals e (fun i => S i || i == j) k τ = vals.getD j uv := by
      intro k
      induction k with
      | zero => intro h; omega
      | succ k ih =>
        intro h1 h2
        by_cases hk : k = j
        · subst hk
          simp only [envK]
          rw [if_pos (by simp), hd]
          simp [putE, upd]
        · simp only [envK]
          have ih' := ih (by omega) (by omega)
          split
          · rename_i hs
            have hs' : S k = true := by simpa [hk] using hs
            have hne := hlast k (by omega) (by omega) hs' τ hd
            cases hdk : (l.getD k default).dst with
            | none => simpa [putE] using ih'
            | some t =>
              simp only [putE, upd]
              rw [if_neg (fun h => hne (by rw [hdk, h]))]
              exact ih'
          · exact ih'
    exact key n hj (Nat.le_refl _)
  · have e1 : putE (envK l vals e S n) (l.getD j default).dst (vals.getD j uv) τ = envK l vals e S n τ := by
      cases hdk : (l.getD j default).dst with
      | none => rfl
      | some t => simp only [putE, upd]; rw [if_neg (fun h => hd (by rw [hdk, h]))]
    rw [e1]
    refine envK_agree n fun i hi hdi => ?_
    have : i ≠ j := by rintro rfl; exact hd hdi
    simp [this]

theorem envK_before {l : List AO} {vals : List V} {e : Env} {j : Nat} : ∀ (n : Nat), j ≤ n → envK l vals e (fun i => decide (i < j)) n = envK l vals e (fun _ => true) j := by
  have h1 : ∀ k, k ≤ j → envK l vals e (fun i => decide (i < j)) k = envK l vals e (fun _ => true) k := by
    intro k
    induction k with
    | zero => intro _; rfl
    | succ k ih => intro h; simp only [envK]; rw [ih (by omega), if_pos (by simp; omega), if_pos trivial]
  intro n
  induction n with
  | zero => intro h; have : j = 0 := by omega
            subst this; rfl
  | succ n ih =>
    intro h
    by_cases hn : j = n + 1
    · subst hn; exact h1 _ (Nat.le_refl _)
    · simp only [envK]; rw [if_neg (by simp; omega)]; exact ih (by omega)

theorem envK_cons {o : AO} {l : List AO} {v : V} {vals : List V} {e : Env} : ∀ k, envK (o :: l) (v :: vals) e (fun _ => true) (k + 1) = envK l vals (putE e o.dst v) (fun _ => true) k
  | 0 => by simp [envK]
  | k + 1 => by
    have := envK_cons (o := o) (l := l) (v := v) (vals := vals) (e := e) k
    simp only [envK] at this ⊢
    simp only [if_true] at this ⊢
    rw [this]; simp

def cnt (l : List AO) : Nat := (l.filter (·.eff)).length

theorem trace_spec {call : CallT} {inl : FuncId → Bool} : ∀ (l : List AO) (e : Env) (hs : List (List Ob)) (t : List (Env × Nat × V)) (hs' : List (List Ob)) (e' : Env), trace call inl l e hs = some (t, hs', e') → hs ≠ [] →
    t.length = l.length ∧ hs'.length = hs.length + cnt l ∧ (∀ i : Nat, i < hs.length → hs'[i]? = hs[i]?) ∧ e' = envK l (t.map (·.2.2)) e (fun _ => true) l.length ∧
    ∀ (j : Nat) (o : AO), l[j]? = some o → ∃ (ej : Env) (k : Nat) (vj : V) (Hj : List Ob), t[j]? = some (ej, k, vj) ∧ ej = envK l (t.map (·.2.2)) e (fun _ => true) j ∧ hs'[hs.length - 1 + cnt (l.take j)]? = some Hj ∧
      (o.eff = true → ∃ H1, hs'[hs.length + cnt (l.take j)]? = some H1 ∧ effOp call inl ej Hj o = some (vj, H1)) ∧ (o.eff = false → quietOp call inl ej Hj o = some vj)
  | [], e, hs, t, hs', e', h, _ => by
    simp [trace] at h
    obtain ⟨rfl, rfl, rfl⟩ := h
    exact ⟨rfl, by simp [cnt], fun _ _ => rfl, rfl, fun j o hj => by simp at hj⟩
  | o :: l, e, hs, t, hs', e', h, hne => by
    have hpos : 0 < hs.length := List.length_pos_iff.2 hne
    simp only [trace] at h
    split at h
    · cases h
    · rename_i H hH
      have hlast : hs[hs.length - 1]? = some H := by rw [← hH, List.getLast?_eq_getElem?]
      split at h
      · rename_i heff
        split at h
        · cases h
        · rename_i v H1 hv
          obtain ⟨⟨t2, hs2, e2⟩, ht, h⟩ := Option.map_eq_some_iff.1 h
          cases h
          obtain ⟨g1, g2, g3, g4, g5⟩ := trace_spec l _ _ t2 _ _ ht (by simp)
          have hc : cnt (o :: l) = cnt l + 1 := by simp [cnt, heff]
          refine ⟨by simp [g1], by rw [g2, hc]; simp; omega, fun i hi => ?_, ?_, fun j o' hj => ?_⟩
          · rw [g3 i (by simp; omega), List.getElem?_append_left hi]
          · simp only [List.map_cons, List.length_cons]; rw [envK_cons]; exact g4
          · cases j with
            | zero =>
              simp at hj; subst hj
              refine ⟨e, hs.length - 1, v, H, by simp, rfl, ?_, fun _ => ⟨H1, ?_, hv⟩, fun hf => (by rw [heff] at hf; cases hf)⟩
              · simp [cnt]; rw [g3 _ (by simp; omega), List.getElem?_append_left (by omega)]; exact hlast
              · simp [cnt]; rw [g3 _ (by simp), List.getElem?_append_right (Nat.le_refl _)]; simp
            | succ j =>
              obtain ⟨ej, k, vj, Hj, q1, q2, q3, q4, q5⟩ := g5 j o' (by simpa using hj)
              have hct : cnt ((o :: l).take (j + 1)) = cnt (l.take j) + 1 := by simp [cnt, heff]
              refine ⟨ej, k, vj, Hj, by simpa using q1, ?_, ?_, fun hf => ?_, q5⟩
              · simp only [List.map_cons]; rw [envK_cons]; exact q2
              · rw [hct]; rw [← q3]; congr 1; simp; omega
              · obtain ⟨H2, r1, r2⟩ := q4 hf
                refine ⟨H2, ?_, r2⟩
                rw [hct, ← r1]; congr 1; simp; omega
      · rename_i heff
        have heff : o.eff = false := by simpa using heff
        split at h
        · cases h
        · rename_i v hv
          obtain ⟨⟨t2, hs2, e2⟩, ht, h⟩ := Option.map_eq_some_iff.1 h
          cases h
          obtain ⟨g1, g2, g3, g4, g5⟩ := trace_spec l _ _ t2 _ _ ht hne
          have hc : cnt (o :: l) = cnt l := by simp [cnt, heff]
          refine ⟨by simp [g1], by rw [g2, hc], g3, ?_, fun j o' hj => ?_⟩
          · simp only [List.map_cons, List.length_cons]; rw [envK_cons]; exact g4
          · cases j with
            | zero =>
              simp at hj; subst hj
              refine ⟨e, hs.length - 1, v, H, by simp, rfl, ?_, fun hf => (by rw [heff] at hf; cases hf), fun _ => hv⟩
              simp [cnt]; rw [g3 _ (by omega)]; exact hlast
            | succ j =>
              obtain ⟨ej, k, vj, Hj, q1, q2, q3, q4, q5⟩ := g5 j o' (by simpa using hj)
              have hct : cnt ((o :: l).take (j + 1)) = cnt (l.take j) := by simp [cnt, heff]
              refine ⟨ej, k, vj, Hj, by simpa using q1, ?_, by rw [hct]; exact q3, fun hf => by rw [hct]; exact q4 hf, q5⟩
              simp only [List.map_cons]; rw [envK_cons]; exact q2

theorem steady_spec {call : CallT} {inl : FuncId → Bool} {e : Env} {v : V} {o : AO} : ∀ {hs : List (List Ob)}, steady call inl e v o hs = true → ∀ H ∈ hs, quietOp call inl e H o = some v
  | [], _, H, hH => by simp at hH
  | H0 :: r, h, H, hH => by
    simp only [steady, Bool.and_eq_true] at h
    rcases List.mem_cons.1 hH with rfl | hH
    · have := h.1
      split at this
      · rename_i u hu; rw [hu, veq_eq u v this]
      · cases this
    · exact steady_spec h.2 H hH

theorem steadyAll_spec {call : CallT} {inl : FuncId → Bool} {ops : List AO} {an : List (List Nat)} {hs : List (List Ob)} : ∀ (l : List AO) (s : Nat) (t : List (Env × Nat × V)), steadyAll call inl ops an hs (l.zipIdx s) t = true →
    ∀ (j : Nat) (o : AO) (ej : Env) (k : Nat) (vj : V), l[j]? = some o → t[j]? = some (ej, k, vj) → o.eff = false → ∀ (q : Nat) (H : List Ob), loOf ops an (s + j) ≤ q → q ≤ hiOf ops an (s + j) → hs[q]? = some H → quietOp call inl ej H o = some vj
  | [], s, t, _, j, o, ej, k, vj, hj, _, _, _, _, _, _, _ => by simp at hj
  | o0 :: l, s, [], h, _, _, _, _, _, _, _, _, _, _, _, _, _ => by simp [List.zipIdx_cons, steadyAll] at h
  | o0 :: l, s, (e0, k0, v0) :: t, h, j, o, ej, k, vj, hj, ht, hf, q, H, h1, h2, h3 => by
    simp only [List.zipIdx_cons, steadyAll, Bool.and_eq_true] at h
    cases j with
    | zero =>
      simp at hj ht
      subst hj
      obtain ⟨rfl, rfl, rfl⟩ := ht
      have hst := h.1
      rw [hf, Bool.false_or] at hst
      refine steady_spec hst H ?_
      rw [List.mem_iff_getElem?]
      refine ⟨q - loOf ops an s, ?_⟩
      rw [Nat.add_zero] at h1 h2
      rw [List.getElem?_take, if_pos (by omega), List.getElem?_drop, show loOf ops an s + (q - loOf ops an s) = q from by omega]
      exact h3
    | succ j =>
      exact steadyAll_spec l (s + 1) t h.2 j o ej k vj (by simpa using hj) (by simpa using ht) hf q H (by rwa [show s + 1 + j = s + (j + 1) from by omega]) (by rwa [show s + 1 + j = s + (j + 1) from by omega]) h3

theorem ancsGo_spec : ∀ (l : List AO) (acc : List (List Nat)), (∀ (j : Nat) (o : AO), l[j]? = some o → ∀ i ∈ o.after, i < acc.length + j) →
    (∀ i : Nat, i < acc.length → (ancsGo acc l)[i]? = acc[i]?) ∧ ∀ (j : Nat) (o : AO), l[j]? = some o → (ancsGo acc l)[acc.length + j]? = some (o.after.flatMap fun i => i :: (ancsGo acc l).getD i [])
  | [], acc, _ => ⟨fun _ _ => rfl, fun j o hj => by simp at hj⟩
  | o :: l, acc, h => by
    simp only [ancsGo]
    obtain ⟨g1, g2⟩ := ancsGo_spec l (acc ++ [o.after.flatMap fun i => i :: acc.getD i []]) fun j o' hj i hi => by
      have := h (j + 1) o' (by simpa using hj) i hi
      simp; omega
    refine ⟨fun i hi => ?_, fun j o' hj => ?_⟩
    · rw [g1 i (by simp; omega), List.getElem?_append_left hi]
    · cases j with
      | zero =>
        simp at hj; subst hj
        rw [Nat.add_zero, g1 _ (by simp), List.getElem?_append_right (Nat.le_refl _)]
        simp only [Nat.sub_self, List.getElem?_cons_zero, Option.some.injEq]
        have key : ∀ (m : List Nat), (∀ i ∈ m, i < acc.length) → (m.flatMap fun i => i :: acc.getD i []) = m.flatMap fun i => i :: (ancsGo (acc ++ [o.after.flatMap fun i => i :: acc.getD i []]) l).getD i [] := by
          intro m
          induction m with
          | nil => intro _; rfl
          | cons q m ih =>
            intro hm
            simp only [List.flatMap_cons]
            rw [ih fun i hi => hm i (by simp [hi])]
            have hq := hm q (by simp)
            have : (ancsGo (acc ++ [o.after.flatMap fun i => i :: acc.getD i []]) l).getD q [] = acc.getD q [] := by
              rw [List.getD_eq_getElem?_getD, List.getD_eq_getElem?_getD, g1 q (by simp; omega), List.getElem?_append_left hq]
            rw [this]
        exact key o.after fun i hi => by have := h 0 o (by simp) i hi; omega
      | succ j =>
        have := g2 j o' (by simpa using hj)
        rw [← this]; congr 1; simp; omega
end Fz
