import Derived.Test.YtophcnbabhigmaaFzHR
set_option maxRecDepth 100000
namespace Fz.H
open Go
theorem step_more {bud per : Int} (hb : 0 ≤ bud) {i : Nat} {h : Hi} (g : Good bud per i h) (hz : h.size ≤ bud) (o : Op) (n : Nat) :
    h.lo ≤ (stepR h (o, n)).lo ∧ (stepR h (o, n)).size ≤ bud ∧ (stepR h (o, n)).top = h.top + (if o.snap = true then 0 else 1) := by
  generalize hbs : bytesOf o n = bs
  obtain ⟨h1, h2, h3, h4, h5, h6, h7, h8, h9, h10, h11, h12, h13⟩ := g
  unfold stepR
  dsimp only
  rw [hbs]
  cases o.snap with
  | true =>
    rw [if_pos rfl]
    unfold keepR
    by_cases hc : h.top.tmod h.per ≠ 0 ∨ lastIs h.snaps h.top = true
    · rw [if_pos hc]; exact ⟨Int.le_refl _, hz, by simp⟩
    · rw [if_neg hc]
      have hm : ∀ s ∈ h.snaps ++ [⟨h.top, bs⟩], h.lo ≤ s.n := fun s hs => by
        rcases List.mem_append.1 hs with hs | hs
        · exact (h11 s hs).1
        · obtain rfl := List.mem_singleton.1 hs; simp; omega
      obtain ⟨q1, q2, q3, q4, q5, q6⟩ := evA_inv h.bud (by omega) h.recs h.lo (h.snaps ++ [⟨h.top, bs⟩]) hm
      exact ⟨q2, by unfold Hi.size; dsimp only; omega, by simp⟩
  | false =>
    rw [if_neg (by simp)]
    unfold addR
    obtain ⟨q1, q2, q3, q4, q5, q6⟩ := evA_inv h.bud (by omega) (h.recs ++ [bs]) h.lo h.snaps fun s hs => (h11 s hs).1
    exact ⟨q2, by unfold Hi.size; dsimp only; omega, by simp⟩
theorem run_size (bud per : Int) (hb : 0 ≤ bud) (l : List Op) (h8 : ops8 l) : ∀ (i : Nat), i ≤ l.length → (runR bud per (l.take i)).size ≤ bud := by
  intro i
  induction i with
  | zero => intro _; simp [runR, Hi.size]; exact hb
  | succ i ih =>
    intro h
    rw [run_take bud per l i (by omega)]
    exact (step_more hb (run_good bud per hb l h8 i (by omega)) (ih (by omega)) _ _).2.1

theorem law4 (bud per : Int) (l : List Op) (c : Bool) (h8 : ops8 l) : WFun p 4 [.int .i64 bud, .int .i64 per, .list (l.map opV) c] [] yes := by
  refine WFun_of w4 rfl rfl k4 ?_
  have hm := lmay bud per l
  have qm : ∀ H (K : V → Prop), xQuiet p 8 [.int .i64 bud, .int .i64 per, .list (l.map opV) c] H K = K _ := fun H K => quiet_nrm rfl (by simp) (by simp; rfl) hm
  have cm : ∀ H (Q : CR → List Ob → Prop), xCall p 8 [.int .i64 bud, .int .i64 per, .list (l.map opV) c] H Q = Q (.ret _) H := fun H K => call_nrm rfl (by simp) (by simp; rfl) hm
  by_cases hc : 0 ≤ bud ∧ 1 ≤ per ∧ per ≤ 1024 ∧ l.length ≤ 40
  · simp -dsimp [w4, call_by lawake, quiet_by lawake, qm, cm, hc]
    refine xL_by (by kernel_rfl) (fun k e H => ∃ n : Nat, n ≤ l.length + 1 ∧ k = l.length + 1 - n ∧ e 0 = .int .i64 bud ∧ e 1 = .int .i64 per ∧ e 2 = .list (l.map opV) c ∧ e 7 = .bool true ∧
      e 8 = .int .i64 (runR bud per (l.take (n - 1))).lo ∧ e 9 = .int .i64 (runR bud per (l.take (n - 1))).top ∧ e 10 = .int .i64 n) (l.length + 1) ?_ ?_
    · exact ⟨0, by simp [runR]⟩
    · rintro k e H ⟨n, hn, hk, e0, e1, e2, e7, e8, e9, e10⟩
      by_cases hle : n ≤ l.length
      · have h8n : ops8 (l.take n) := fun o ho => h8 o (List.mem_of_mem_take ho)
        have c0 : ∀ (m : List Op) cc H (Q : CR → List Ob → Prop), m.length ≤ 40 → ops8 m → xCall p 9 [.int .i64 bud, .int .i64 per, .list (m.map opV) cc] H Q = Q (.ret (hiV (runR bud per m))) H :=
          fun m cc H K hm h8m => call_nrm rfl (by simp) (by simp; rfl) (lrun bud per m hc.1 ⟨hc.2.1, hc.2.2.1⟩ hm h8m)
        have c1 := fun cc H (Q : CR → List Ob → Prop) => c0 (l.take n) cc H Q (by rw [List.length_take]; omega) h8n
        simp only [List.map_take] at c1
        have g := run_good bud per hc.1 l h8 n hle
        have gz := run_size bud per hc.1 l h8 n hle
        have hz := hsize _ (g.ok (by omega))
        have hlr := g.lr
        have hlo := g.lo
        have htop := g.top
        have hstep : 0 < n → (runR bud per (l.take (n - 1))).lo ≤ (runR bud per (l.take n)).lo ∧ (runR bud per (l.take n)).top = (runR bud per (l.take (n - 1))).top + (if ((l[n - 1]?).getD default).snap = true then 0 else 1) := by
          intro h0
          have ht := run_take bud per l (n - 1) (by omega)
          rw [show n - 1 + 1 = n from by omega] at ht
          rw [ht]
          have := step_more hc.1 (run_good bud per hc.1 l h8 (n - 1) (by omega)) (run_size bud per hc.1 l h8 (n - 1) (by omega)) l[n - 1] (n - 1)
          rw [List.getElem?_eq_getElem (by omega : n - 1 < l.length)]
          exact ⟨this.1, this.2.2⟩
        have hnext : (n + 1 - 1 : Nat) = n := by omega
        rcases Nat.eq_zero_or_pos n with rfl | h0
        · simp only [hiV] at hz c1
          have hz0 : runR bud per [] = ⟨bud, per, 0, 0, [], []⟩ := by simp [runR]
          simp only [List.take_zero, hz0] at hz c1
          simp [hz0] at e8 e9
          have hb : ¬ bud < 0 := by omega
          have hw0 : IntKind.i64.wrap 0 = 0 := w64 (by omega) (by omega)
          have hw1 : IntKind.i64.wrap 1 = 1 := w64 (by omega) (by omega)
          simp [Hi.size] at hz
          simp -dsimp [e0, e1, e2, e7, e8, e9, e10, c1, call_by hz, quiet_by hz, hb, hw0, hw1]
          refine ⟨l.length, by omega, 1, by omega, by omega, ?_⟩
          simp -dsimp [e0, e1, e2, e7, e9, hz0]
        · obtain ⟨s1, s2⟩ := hstep h0
          have hgt : ((n - 1 : Nat) : Int) = (n : Int) - 1 := by omega
          have hw : IntKind.i64.wrap ((n : Int) - 1) = ((n - 1 : Nat) : Int) := by rw [hgt]; exact w64 (by omega) (by omega)
          have hlt : n - 1 < l.length := by omega
          generalize hq : runR bud per (l.take n) = h at *
          generalize runR bud per (l.take (n - 1)) = g0 at *
          simp only [hiV] at hz c1
          simp [hlt] at s2
          have hl1 : ¬ h.lo < g0.lo := by omega
          have hl2 : ¬ h.top < h.lo := by omega
          have hsz : ¬ bud < h.size := by omega
          have hw2 : IntKind.i64.wrap (h.top - h.lo) = (h.recs.length : Int) := by rw [show h.top - h.lo = (h.recs.length : Int) from by omega]; exact w64 (by omega) (by have := g.rl; omega)
          have hw3 : IntKind.i64.wrap ((n : Int) + 1) = (n : Int) + 1 := w64 (by omega) (by omega)
          cases hsn : (l[n - 1]).snap with
          | true =>
            simp [hsn] at s2
            rw [← s2] at e9
            simp -dsimp [e0, e1, e2, e7, e8, e9, e10, hle, c1, h0, hw, hlt, hsn, call_by hz, quiet_by hz, hl1, hl2, hsz, hw2, hw3]
            refine ⟨l.length + 1 - (n + 1), by omega, n + 1, by omega, rfl, ?_⟩
            simp -dsimp [e0, e1, e2, e7, e8, e9, hq]
          | false =>
            simp [hsn] at s2
            have hw4 : IntKind.i64.wrap (g0.top + 1) = h.top := by rw [s2]; exact w64 (by omega) (by omega)
            simp -dsimp [e0, e1, e2, e7, e8, e9, e10, hle, c1, h0, hw, hlt, hsn, call_by hz, quiet_by hz, hl1, hl2, hsz, hw2, hw3, hw4]
            refine ⟨l.length + 1 - (n + 1), by omega, n + 1, by omega, rfl, ?_⟩
            simp -dsimp [e0, e1, e2, e7, e8, hq]
      · simp -dsimp [e0, e1, e2, e7, e8, e9, e10, hle]
  · simp -dsimp [w4, call_by lawake, quiet_by lawake, qm, cm, hc]
end Fz.H
