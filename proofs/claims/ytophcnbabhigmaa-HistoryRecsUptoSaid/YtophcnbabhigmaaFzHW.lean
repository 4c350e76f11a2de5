import Derived.Test.YtophcnbabhigmaaFzHV
set_option maxRecDepth 100000
namespace Fz.H
open Go
structure Kept (per rec state steps : Int) (h : Hi) : Prop where
  strict : h.snaps.Pairwise fun a b => a.n < b.n
  mult : ∀ s ∈ h.snaps, per ∣ s.n
  rb : ∀ b ∈ h.recs, (b.length : Int) ≤ rec
  sb : ∀ s ∈ h.snaps, (s.b.length : Int) ≤ state
  kept : h.lo ≤ max (h.top - steps) 0

theorem total_le (rec : Int) : ∀ (l : List (List Int)), (∀ b ∈ l, (b.length : Int) ≤ rec) → total l ≤ l.length * rec
  | [], _ => by simp
  | b :: l, h => by
    have h1 := total_le rec l fun b hb => h b (List.mem_cons_of_mem _ hb)
    have h2 := h b (List.mem_cons_self ..)
    rw [total_cons, List.length_cons, Int.natCast_add, Int.add_mul]
    omega
theorem totalS_le (st : Int) (l : List Sn) (h : ∀ s ∈ l, (s.b.length : Int) ≤ st) : totalS l ≤ l.length * st := by
  have := total_le st (l.map (·.b)) fun b hb => by
    obtain ⟨s, hs, rfl⟩ := List.mem_map.1 hb; exact h s hs
  simpa [totalS] using this
/-- Few states lie between two steps. -/
theorem few (per : Int) (hp : 1 ≤ per) : ∀ (l : List Sn) (lo top : Int), l.Pairwise (fun a b => a.n < b.n) → (∀ s ∈ l, per ∣ s.n) → (∀ s ∈ l, lo ≤ s.n ∧ s.n ≤ top) → l ≠ [] → per * (l.length - 1) ≤ top - lo
  | [], _, _, _, _, _, h => absurd rfl h
  | [a], lo, top, _, _, hb, _ => by have := hb a (List.mem_cons_self ..); simp; omega
  | a :: b :: l, lo, top, hs, hm, hb, _ => by
    have h2 := List.pairwise_cons.1 hs
    have ha := hb a (List.mem_cons_self ..)
    have hab := h2.1 b (List.mem_cons_self ..)
    obtain ⟨x, hx⟩ := hm a (List.mem_cons_self ..)
    obtain ⟨y, hy⟩ := hm b (List.mem_cons_of_mem _ (List.mem_cons_self ..))
    have hxy : x + 1 ≤ y := by
      rw [hx, hy] at hab
      have := Int.lt_of_mul_lt_mul_left hab (by omega)
      omega
    have hge : a.n + per ≤ b.n := by
      rw [hx, hy]
      have := Int.mul_le_mul_of_nonneg_left hxy (show 0 ≤ per by omega)
      rw [Int.mul_add, Int.mul_one] at this
      exact this
    have ih := few per hp (b :: l) (lo + per) top h2.2 (fun s hs => hm s (List.mem_cons_of_mem _ hs)) (fun s hs' => by
      refine ⟨?_, (hb s (List.mem_cons_of_mem _ hs')).2⟩
      rcases List.mem_cons.1 hs' with rfl | hs'
      · omega
      · have := (List.pairwise_cons.1 h2.2).1 s hs'; omega) (by simp)
    simp only [List.length_cons, Int.natCast_add, Int.natCast_one] at ih ⊢
    rw [show per * ((l.length : Int) + 1 + 1 - 1) = per * ((l.length : Int) + 1 - 1) + per from by rw [Int.add_sub_cancel, Int.add_sub_cancel, Int.mul_add, Int.mul_one]]
    omega
theorem count_le (per : Int) (hp : 1 ≤ per) (steps : Int) (hst : 0 ≤ steps) (l : List Sn) (lo top : Int) (hs : l.Pairwise (fun a b => a.n < b.n)) (hm : ∀ s ∈ l, per ∣ s.n) (hb : ∀ s ∈ l, lo ≤ s.n ∧ s.n ≤ top) (ht : top - lo ≤ steps) : (l.length : Int) ≤ steps / per + 1 := by
  by_cases h0 : l = []
  · subst h0
    have := Int.ediv_nonneg hst (show 0 ≤ per by omega)
    simp; omega
  · have := few per hp l lo top hs hm hb h0
    have h2 : per * ((l.length : Int) - 1) ≤ steps := by omega
    have := Int.le_ediv_of_mul_le (show 0 < per by omega) (by rw [Int.mul_comm]; exact h2)
    omega

/-- The last steps stay. -/
theorem ev_keeps {bud per rec state steps : Int} (hp : 1 ≤ per) (hst : 0 ≤ steps) (hr0 : 0 ≤ rec) (hs0 : 0 ≤ state) (hb : steps * rec + (steps / per + 1) * state ≤ bud) (top : Int) :
    ∀ (recs : List (List Int)) (lo : Int) (snaps : List Sn), snaps.Pairwise (fun a b => a.n < b.n) → (∀ s ∈ snaps, per ∣ s.n) → (∀ s ∈ snaps, lo ≤ s.n ∧ s.n ≤ top) → (∀ b ∈ recs, (b.length : Int) ≤ rec) → (∀ s ∈ snaps, (s.b.length : Int) ≤ state) →
      lo + recs.length = top → lo ≤ max (top - steps) 0 → (evA bud lo recs snaps).1 ≤ max (top - steps) 0
  | [], lo, snaps, _, _, _, _, _, _, hk => by simpa [evA] using hk
  | b :: recs, lo, snaps, h1, h2, h3, h4, h5, h6, hk => by
    rw [evA]
    split
    · rename_i hover
      refine ev_keeps hp hst hr0 hs0 hb top recs (lo + 1) _ (h1.filter _) (fun s hs => h2 s ((List.mem_filter.1 hs).1)) (fun s hs => ⟨by simpa using (List.mem_filter.1 hs).2, (h3 s ((List.mem_filter.1 hs).1)).2⟩)
        (fun b hb => h4 b (List.mem_cons_of_mem _ hb)) (fun s hs => h5 s ((List.mem_filter.1 hs).1)) (by simp at h6; omega) ?_
      by_cases hc : top - lo ≤ steps
      · exfalso
        have c1 := count_le per hp steps hst snaps lo top h1 h2 h3 hc
        have c2 := total_le rec (b :: recs) h4
        have c3 := totalS_le state snaps h5
        have c4 : (((b :: recs).length : Nat) : Int) * rec ≤ steps * rec := Int.mul_le_mul_of_nonneg_right (by omega) hr0
        have c5 : (snaps.length : Int) * state ≤ (steps / per + 1) * state := Int.mul_le_mul_of_nonneg_right c1 hs0
        omega
      · omega
    · exact hk

theorem Kept.step {bud per rec state steps : Int} (hb0 : 0 ≤ bud) (hp : 1 ≤ per) (hst : 0 ≤ steps) (hr0 : 0 ≤ rec) (hs0 : 0 ≤ state) (hb : steps * rec + (steps / per + 1) * state ≤ bud) {i : Nat} {h : Hi} (g : Good bud per i h) (kk : Kept per rec state steps h)
    (o : Op) (n : Nat) (ho : 0 ≤ o.many ∧ o.many ≤ 255) (hr : o.snap = false → o.many ≤ rec) (hs : o.snap = true → o.many ≤ state) : Kept per rec state steps (stepR h (o, n)) := by
  have hl : ((bytesOf o n).length : Int) = o.many := by simp [bytesOf]; omega
  generalize hbs : bytesOf o n = bs at hl
  obtain ⟨k1, k2, k3, k4, k5⟩ := kk
  obtain ⟨h1, h2, _, _, _, _, h7, _, h9, h10, h11, _⟩ := g
  unfold stepR
  dsimp only
  rw [hbs]
  cases hsn : o.snap with
  | true =>
    rw [if_pos rfl]
    unfold keepR
    by_cases hc : h.top.tmod h.per ≠ 0 ∨ lastIs h.snaps h.top = true
    · rw [if_pos hc]; exact ⟨k1, k2, k3, k4, k5⟩
    · rw [if_neg hc]
      rw [not_or] at hc
      obtain ⟨hc1, hc2⟩ := hc
      have htop : 0 ≤ h.top := by omega
      have hdv : per ∣ h.top := by
        rw [← h2]
        refine Int.dvd_of_tmod_eq_zero ?_
        simpa using hc1
      have hlt : ∀ s ∈ h.snaps, s.n < h.top := by
        intro s hs'
        rcases List.eq_nil_or_concat h.snaps with he | ⟨ini, z, he⟩
        · rw [he] at hs'; cases hs'
        · rw [List.concat_eq_append] at he
          have hz : ¬ z.n = h.top := by rw [he] at hc2; simpa [lastIs] using hc2
          have hzt := (h11 z (by rw [he]; simp)).2
          rw [he] at hs' k1
          rcases List.mem_append.1 hs' with hs' | hs'
          · have := (List.pairwise_append.1 k1).2.2 s hs' z (List.mem_singleton.2 rfl); omega
          · obtain rfl := List.mem_singleton.1 hs'; omega
      have hst' : (h.snaps ++ [(⟨h.top, bs⟩ : Sn)]).Pairwise fun a b => a.n < b.n := List.pairwise_append.2 ⟨k1, by simp, fun a ha b hb' => by
        obtain rfl := List.mem_singleton.1 hb'; exact hlt a ha⟩
      have hm : ∀ s ∈ h.snaps ++ [(⟨h.top, bs⟩ : Sn)], h.lo ≤ s.n ∧ s.n ≤ h.top := fun s hs' => by
        rcases List.mem_append.1 hs' with hs' | hs'
        · exact h11 s hs'
        · obtain rfl := List.mem_singleton.1 hs'; exact ⟨by simp; omega, Int.le_refl _⟩
      have hd : ∀ s ∈ h.snaps ++ [(⟨h.top, bs⟩ : Sn)], per ∣ s.n := fun s hs' => by
        rcases List.mem_append.1 hs' with hs' | hs'
        · exact k2 s hs'
        · obtain rfl := List.mem_singleton.1 hs'; exact hdv
      have hsb : ∀ s ∈ h.snaps ++ [(⟨h.top, bs⟩ : Sn)], (s.b.length : Int) ≤ state := fun s hs' => by
        rcases List.mem_append.1 hs' with hs' | hs'
        · exact k4 s hs'
        · obtain rfl := List.mem_singleton.1 hs'; have := hs hsn; simp; omega
      obtain ⟨q1, q2, q3, q4, q5, q6⟩ := evA_inv h.bud (by omega) h.recs h.lo (h.snaps ++ [⟨h.top, bs⟩]) fun s hs' => (hm s hs').1
      have key := ev_keeps (bud := h.bud) hp hst hr0 hs0 (by omega) h.top h.recs h.lo _ hst' hd hm k3 hsb h9 k5
      exact ⟨hst'.sublist q4, fun s hs' => hd s (q4.subset hs'), fun b hb' => k3 b (List.mem_of_mem_drop (by dsimp only at hb'; rw [q3] at hb'; exact hb')), fun s hs' => hsb s (q4.subset hs'), key⟩
  | false =>
    rw [if_neg (by simp)]
    unfold addR
    have hrb : ∀ b ∈ h.recs ++ [bs], (b.length : Int) ≤ rec := fun b hb' => by
      rcases List.mem_append.1 hb' with hb' | hb'
      · exact k3 b hb'
      · obtain rfl := List.mem_singleton.1 hb'; have := hr hsn; omega
    obtain ⟨q1, q2, q3, q4, q5, q6⟩ := evA_inv h.bud (by omega) (h.recs ++ [bs]) h.lo h.snaps fun s hs' => (h11 s hs').1
    have key := ev_keeps (bud := h.bud) hp hst hr0 hs0 (by omega) (h.top + 1) (h.recs ++ [bs]) h.lo _ k1 k2 (fun s hs' => ⟨(h11 s hs').1, by have := (h11 s hs').2; omega⟩) hrb k4 (by simp; omega) (by omega)
    exact ⟨k1.sublist q4, fun s hs' => k2 s (q4.subset hs'), fun b hb' => hrb b (List.mem_of_mem_drop (by dsimp only at hb'; rw [q3] at hb'; exact hb')), fun s hs' => k4 s (q4.subset hs'), key⟩

def recM (l : List Op) : Int := l.foldl (fun a o => if o.snap then a else max a o.many) 0
def stM (l : List Op) : Int := l.foldl (fun a o => if o.snap then max a o.many else a) 0
theorem recM_succ (l : List Op) (i : Nat) (h : i < l.length) : recM (l.take (i + 1)) = if l[i].snap then recM (l.take i) else max (recM (l.take i)) l[i].many := by
  unfold recM; rw [List.take_succ_eq_append_getElem h, List.foldl_append]; rfl
theorem stM_succ (l : List Op) (i : Nat) (h : i < l.length) : stM (l.take (i + 1)) = if l[i].snap then max (stM (l.take i)) l[i].many else stM (l.take i) := by
  unfold stM; rw [List.take_succ_eq_append_getElem h, List.foldl_append]; rfl
theorem maxs (l : List Op) (h8 : ops8 l) : ∀ (i : Nat), i ≤ l.length → (0 ≤ recM (l.take i) ∧ recM (l.take i) ≤ 255 ∧ 0 ≤ stM (l.take i) ∧ stM (l.take i) ≤ 255) ∧ ∀ j, j < i → ∀ (hj : j < l.length), (l[j].snap = false → l[j].many ≤ recM (l.take i)) ∧ (l[j].snap = true → l[j].many ≤ stM (l.take i)) := by
  intro i
  induction i with
  | zero => intro _; exact ⟨by simp [recM, stM], fun j hj => by omega⟩
  | succ i ih =>
    intro h
    obtain ⟨h1, h2⟩ := ih (by omega)
    have h3 := h8 _ (List.getElem_mem (show i < l.length by omega))
    rw [recM_succ l i (by omega), stM_succ l i (by omega)]
    cases hsn : l[i].snap with
    | true =>
      refine ⟨by simp; omega, fun j hj hjl => ?_⟩
      by_cases e : j = i
      · subst e; simp [hsn]; omega
      · have := h2 j (by omega) hjl
        simp
        exact ⟨this.1, fun q => by have := this.2 q; omega⟩
    | false =>
      refine ⟨by simp; omega, fun j hj hjl => ?_⟩
      by_cases e : j = i
      · subst e; simp [hsn]; omega
      · have := h2 j (by omega) hjl
        simp
        exact ⟨fun q => by have := this.1 q; omega, this.2⟩
theorem run_keeps (bud per steps : Int) (l : List Op) (h8 : ops8 l) (hb0 : 0 ≤ bud) (hp : 1 ≤ per) (hst : 0 ≤ steps) (hb : steps * recM l + (steps / per + 1) * stM l ≤ bud) :
    (runR bud per l).lo ≤ max ((runR bud per l).top - steps) 0 := by
  have hm := maxs l h8 l.length (Nat.le_refl _)
  rw [List.take_length] at hm
  obtain ⟨⟨m1, m2, m3, m4⟩, m5⟩ := hm
  have : ∀ (i : Nat), i ≤ l.length → Kept per (recM l) (stM l) steps (runR bud per (l.take i)) := by
    intro i
    induction i with
    | zero => intro _; exact ⟨List.Pairwise.nil, fun s h => (by cases h), fun s h => (by cases h), fun s h => (by cases h), by simp [runR]; omega⟩
    | succ i ih =>
      intro h
      rw [run_take bud per l i (by omega)]
      have := m5 i (by omega) (by omega)
      exact (ih (by omega)).step hb0 hp hst m1 m3 hb (run_good bud per hb0 l h8 i (by omega)) _ _ (h8 _ (List.getElem_mem _)) this.1 this.2
  have := (this l.length (Nat.le_refl _)).kept
  rwa [List.take_length] at this
end Fz.H
