import Derived.Test.YtophcnbabhigmaaFzHN
set_option maxRecDepth 100000
namespace Fz.H
open Go

/-! ### What goes, plainly -/
def Sorted (l : List Sn) : Prop := l.Pairwise fun a b => a.n ≤ b.n

theorem evS_sub (bud : Int) (l : List Sn) : (evS bud l).Sublist l := by
  induction l with
  | nil => exact List.Sublist.refl _
  | cons a l ih =>
    rw [evS]
    split
    · exact ih.trans (List.sublist_cons_self _ _)
    · exact List.Sublist.refl _
theorem evS_le (bud : Int) (hb : 0 ≤ bud) (l : List Sn) : totalS (evS bud l) ≤ bud := by
  induction l with
  | nil => simpa [evS] using hb
  | cons a l ih =>
    rw [evS]
    split
    · exact ih
    · omega
theorem evS_id (bud : Int) (l : List Sn) (h : totalS l ≤ bud) : evS bud l = l := by
  cases l with
  | nil => rfl
  | cons a l => rw [evS, if_neg (by omega)]

theorem drop1_all (lo bud : Int) (l : List Sn) (h : ∀ s ∈ l, lo ≤ s.n) : drop1 lo bud true l = evS bud l := by
  induction l with
  | nil => rfl
  | cons a l ih =>
    have h1 := h a (List.mem_cons_self ..)
    have h2 : ¬ a.n < lo := by omega
    rw [drop1, evS, ih fun s hs => h s (List.mem_cons_of_mem _ hs)]
    simp [h2]
theorem drop1_true (lo bud : Int) (l : List Sn) (hs : Sorted l) : drop1 lo bud true l = evS bud (l.filter fun s => decide (lo ≤ s.n)) := by
  induction l with
  | nil => rfl
  | cons a l ih =>
    have h2 := (List.pairwise_cons.1 hs)
    by_cases hc : a.n < lo
    · rw [drop1, if_pos (.inl hc), ih h2.2, List.filter_cons_of_neg (by simp; omega)]
    · have : (a :: l).filter (fun s => decide (lo ≤ s.n)) = a :: l := by
        rw [List.filter_eq_self]
        intro s hs'
        rcases List.mem_cons.1 hs' with rfl | hs'
        · simp; omega
        · have := h2.1 s hs'; simp; omega
      rw [this]
      exact drop1_all lo bud (a :: l) fun s hs' => by
        rcases List.mem_cons.1 hs' with rfl | hs'
        · omega
        · have := h2.1 s hs'; omega
theorem drop1_false (lo bud : Int) (l : List Sn) (hs : Sorted l) : drop1 lo bud false l = l.filter fun s => decide (lo ≤ s.n) := by
  induction l with
  | nil => rfl
  | cons a l ih =>
    have h2 := (List.pairwise_cons.1 hs)
    by_cases hc : a.n < lo
    · rw [drop1, if_pos (.inl hc), ih h2.2, List.filter_cons_of_neg (by simp; omega)]
    · rw [drop1, if_neg (by simp [hc]), List.filter_eq_self.2]
      intro s hs'
      rcases List.mem_cons.1 hs' with rfl | hs'
      · simp; omega
      · have := h2.1 s hs'; simp; omega

theorem ev_eq (bud : Int) (hb : 0 ≤ bud) : ∀ (recs : List (List Int)) (lo : Int) (snaps : List Sn), Sorted snaps → (∀ s ∈ snaps, lo ≤ s.n) → ev bud lo recs snaps = evA bud lo recs snaps
  | [], lo, snaps, hs, hl => by
    rw [ev, evA, drop1_all lo bud snaps hl]
    split
    · rfl
    · rw [evS_id bud snaps (by omega)]
  | b :: recs, lo, snaps, hs, hl => by
    rw [ev, evA]
    split
    · cases recs with
      | nil =>
        rw [List.isEmpty_nil, drop1_true _ _ _ hs, evA, ev]
        have := evS_le bud hb (snaps.filter fun s => decide (lo + 1 ≤ s.n))
        rw [if_neg (by omega)]
      | cons c recs =>
        rw [List.isEmpty_cons, drop1_false _ _ _ hs]
        exact ev_eq bud hb _ _ _ (hs.filter _) fun s hs' => by simpa using (List.mem_filter.1 hs').2
    · rfl

/-- What holds of what is kept. -/
theorem evA_inv (bud : Int) (hb : 0 ≤ bud) : ∀ (recs : List (List Int)) (lo : Int) (snaps : List Sn), (∀ s ∈ snaps, lo ≤ s.n) →
    let r := evA bud lo recs snaps
    r.1 + r.2.1.length = lo + recs.length ∧ lo ≤ r.1 ∧ r.2.1 = recs.drop (r.1 - lo).toNat ∧ r.2.2.Sublist snaps ∧ (∀ s ∈ r.2.2, r.1 ≤ s.n) ∧ total r.2.1 + totalS r.2.2 ≤ bud
  | [], lo, snaps, hl => by
    simp only [evA]
    have := evS_le bud hb snaps
    exact ⟨by simp, Int.le_refl _, by simp, evS_sub _ _, fun s hs => hl s ((evS_sub bud snaps).subset hs), by simpa using this⟩
  | b :: recs, lo, snaps, hl => by
    simp only [evA]
    split
    · obtain ⟨h1, h2, h3, h4, h5, h6⟩ := evA_inv bud hb recs (lo + 1) (snaps.filter fun s => decide (lo + 1 ≤ s.n)) fun s hs' => by simpa using (List.mem_filter.1 hs').2
      refine ⟨by rw [h1, List.length_cons]; omega, by omega, ?_, h4.trans List.filter_sublist, h5, h6⟩
      rw [h3]
      have : ((evA bud (lo + 1) recs (snaps.filter fun s => decide (lo + 1 ≤ s.n))).1 - lo).toNat = ((evA bud (lo + 1) recs (snaps.filter fun s => decide (lo + 1 ≤ s.n))).1 - (lo + 1)).toNat + 1 := by omega
      rw [this, List.drop_succ_cons]
    · exact ⟨rfl, Int.le_refl _, by simp, List.Sublist.refl _, hl, by dsimp only; omega⟩

theorem total_drop (l : List (List Int)) (i : Nat) : total (l.drop i) ≤ total l := by
  have : total l = total (l.take i) + total (l.drop i) := by rw [← total_append, List.take_append_drop]
  have := total_nonneg (l.take i)
  omega
theorem totalS_sub {a b : List Sn} (h : a.Sublist b) : totalS a ≤ totalS b := by
  induction h with
  | slnil => simp
  | cons a _ ih => rw [totalS_cons]; omega
  | cons_cons a _ ih => rw [totalS_cons, totalS_cons]; omega

/-! ### A history behind ops -/
def stepH (h : Hi) (x : Op × Nat) : Hi := if x.1.snap then keepH h (bytesOf x.1 x.2) else addH h (bytesOf x.1 x.2)
def stepR (h : Hi) (x : Op × Nat) : Hi := if x.1.snap then keepR h (bytesOf x.1 x.2) else addR h (bytesOf x.1 x.2)
def runR (bud per : Int) (l : List Op) : Hi := l.zipIdx.foldl stepR ⟨bud, per, 0, 0, [], []⟩
def ops8 (l : List Op) : Prop := ∀ o ∈ l, 0 ≤ o.many ∧ o.many ≤ 255

def U8 (b : List Int) : Prop := ∀ x ∈ b, 0 ≤ x ∧ x < 256
theorem bytes_u8 (o : Op) (n : Int) : U8 (bytesOf o n) := by
  intro x hx
  simp only [bytesOf, List.mem_replicate] at hx
  obtain ⟨_, rfl⟩ := hx
  unfold IntKind.wrap
  simp only [IntKind.signed, IntKind.bits]
  simp
  omega

structure Good (bud per : Int) (i : Nat) (h : Hi) : Prop where
  bud : h.bud = bud
  per : h.per = per
  rt : total h.recs ≤ 255 * i
  rl : h.recs.length ≤ i
  st : totalS h.snaps ≤ 255 * i
  sl : h.snaps.length ≤ i
  lo : 0 ≤ h.lo
  top : h.top ≤ i
  lr : h.lo + h.recs.length = h.top
  sorted : Sorted h.snaps
  sn : ∀ s ∈ h.snaps, h.lo ≤ s.n ∧ s.n ≤ h.top
  rb : ∀ b ∈ h.recs, U8 b
  sb : ∀ s ∈ h.snaps, U8 s.b
theorem Good.ok {bud per : Int} {i : Nat} {h : Hi} (g : Good bud per i h) (hi : i ≤ 50) : h.ok := by
  obtain ⟨_, _, h1, h2, h3, h4, h5, h6, h7, _⟩ := g
  exact ⟨by omega, by omega, by omega, by omega, by omega, by omega, by omega, by omega⟩
theorem bytes_len (o : Op) (n : Int) (h : 0 ≤ o.many ∧ o.many ≤ 255) : ((bytesOf o n).length : Int) ≤ 255 := by
  simp [bytesOf]; omega
theorem Good.start (bud per : Int) : Good bud per 0 ⟨bud, per, 0, 0, [], []⟩ :=
  ⟨rfl, rfl, by simp, by simp, by simp, by simp, by simp, by simp, by simp, List.Pairwise.nil, fun s h => (by cases h), fun s h => (by cases h), fun s h => (by cases h)⟩
theorem Good.step {bud per : Int} (hb : 0 ≤ bud) {i : Nat} {h : Hi} (g : Good bud per i h) (o : Op) (n : Nat) (ho : 0 ≤ o.many ∧ o.many ≤ 255) : Good bud per (i + 1) (stepR h (o, n)) ∧ stepR h (o, n) = stepH h (o, n) := by
  have hl := bytes_len o n ho
  have hu := bytes_u8 o n
  generalize hbs : bytesOf o n = bs at hl hu
  obtain ⟨h1, h2, h3, h4, h5, h6, h7, h8, h9, h10, h11, h12, h13⟩ := g
  unfold stepR stepH
  dsimp only
  rw [hbs]
  cases o.snap with
  | true =>
    rw [if_pos rfl, if_pos rfl]
    unfold keepR keepH
    by_cases hc : h.top.tmod h.per ≠ 0 ∨ lastIs h.snaps h.top = true
    · rw [if_pos hc, if_pos hc]
      exact ⟨⟨h1, h2, by omega, by omega, by omega, by omega, h7, by omega, h9, h10, h11, h12, h13⟩, rfl⟩
    · rw [if_neg hc, if_neg hc]
      have hs : Sorted (h.snaps ++ [⟨h.top, bs⟩]) := List.pairwise_append.2 ⟨h10, by simp, fun a ha b hb => by
        obtain rfl := List.mem_singleton.1 hb; exact (h11 a ha).2⟩
      have hm : ∀ s ∈ h.snaps ++ [⟨h.top, bs⟩], h.lo ≤ s.n ∧ s.n ≤ h.top := fun s hs => by
        rcases List.mem_append.1 hs with hs | hs
        · exact h11 s hs
        · obtain rfl := List.mem_singleton.1 hs; exact ⟨by simp; omega, Int.le_refl _⟩
      rw [ev_eq h.bud (by omega) _ _ _ hs fun s hs => (hm s hs).1]
      refine ⟨?_, rfl⟩
      obtain ⟨q1, q2, q3, q4, q5, q6⟩ := evA_inv h.bud (by omega) h.recs h.lo (h.snaps ++ [⟨h.top, bs⟩]) fun s hs => (hm s hs).1
      have t1 := total_drop h.recs ((evA h.bud h.lo h.recs (h.snaps ++ [⟨h.top, bs⟩])).1 - h.lo).toNat
      rw [← q3] at t1
      have t2 := totalS_sub q4
      rw [totalS_append, totalS_cons] at t2
      have t3 := q4.length_le
      simp at t2 t3
      have t4 : h.lo + h.recs.length = (evA h.bud h.lo h.recs (h.snaps ++ [⟨h.top, bs⟩])).1 + (evA h.bud h.lo h.recs (h.snaps ++ [⟨h.top, bs⟩])).2.1.length := q1.symm
      exact ⟨h1, h2, by dsimp only; omega, by dsimp only; omega, by dsimp only; omega, by dsimp only; omega, by dsimp only; omega, by dsimp only; omega, by dsimp only; omega, hs.sublist q4, fun s hs => ⟨q5 s hs, (hm s (q4.subset hs)).2⟩, fun b hb => h12 b (List.mem_of_mem_drop (by dsimp only at hb; rw [q3] at hb; exact hb)), fun s hs => by
        rcases List.mem_append.1 (q4.subset hs) with hs | hs
        · exact h13 s hs
        · obtain rfl := List.mem_singleton.1 hs; exact hu⟩
  | false =>
    rw [if_neg (by simp), if_neg (by simp)]
    unfold addR addH
    dsimp only
    rw [ev_eq h.bud (by omega) _ _ _ h10 fun s hs => (h11 s hs).1]
    refine ⟨?_, rfl⟩
    obtain ⟨q1, q2, q3, q4, q5, q6⟩ := evA_inv h.bud (by omega) (h.recs ++ [bs]) h.lo h.snaps fun s hs => (h11 s hs).1
    have t1 := total_drop (h.recs ++ [bs]) ((evA h.bud h.lo (h.recs ++ [bs]) h.snaps).1 - h.lo).toNat
    rw [← q3, total_append, total_cons] at t1
    have t2 := totalS_sub q4
    have t3 := q4.length_le
    simp at t1 q1
    exact ⟨h1, h2, by dsimp only; omega, by dsimp only; omega, by dsimp only; omega, by dsimp only; omega, by dsimp only; omega, by dsimp only; omega, by dsimp only; omega, h10.sublist q4, fun s hs => ⟨q5 s hs, by have := (h11 s (q4.subset hs)).2; dsimp only; omega⟩, fun b hb => by
      have hb := List.mem_of_mem_drop (by dsimp only at hb; rw [q3] at hb; exact hb)
      rcases List.mem_append.1 hb with hb | hb
      · exact h12 b hb
      · obtain rfl := List.mem_singleton.1 hb; exact hu, fun s hs => h13 s (q4.subset hs)⟩

theorem run_take (bud per : Int) (l : List Op) (i : Nat) (h : i < l.length) : runR bud per (l.take (i + 1)) = stepR (runR bud per (l.take i)) (l[i], i) := by
  unfold runR
  rw [List.take_succ_eq_append_getElem h, List.zipIdx_append, List.foldl_append]
  simp [Nat.min_eq_left (Nat.le_of_lt h)]
theorem run_good (bud per : Int) (hb : 0 ≤ bud) (l : List Op) (h8 : ops8 l) : ∀ (i : Nat), i ≤ l.length → Good bud per i (runR bud per (l.take i)) := by
  intro i
  induction i with
  | zero => intro _; exact Good.start bud per
  | succ i ih =>
    intro h
    rw [run_take bud per l i (by omega)]
    exact ((ih (by omega)).step hb _ _ (h8 _ (List.getElem_mem _))).1
end Fz.H
