import Derived.Test.YtophcnbabhigmaaFzHX
set_option maxRecDepth 100000
namespace Fz.H
open Go
/-- All records, in turn. -/
def allR (l : List Op) : List (List Int) := l.zipIdx.filterMap fun x => if x.1.snap then none else some (bytesOf x.1 x.2)
theorem allR_take (l : List Op) (i : Nat) (h : i < l.length) : allR (l.take (i + 1)) = allR (l.take i) ++ (if l[i].snap then [] else [bytesOf l[i] i]) := by
  unfold allR
  rw [List.take_succ_eq_append_getElem h, List.zipIdx_append, List.filterMap_append]
  simp only [List.zipIdx_singleton, List.length_take, Nat.min_eq_left (Nat.le_of_lt h), Nat.zero_add]
  congr 1
  cases hs : l[i].snap <;> simp [hs]
theorem allR_pre (l : List Op) (i : Nat) : ∀ (j : Nat), i + j ≤ l.length → (allR (l.take i)) <+: (allR (l.take (i + j)))
  | 0, _ => List.prefix_refl _
  | j + 1, h => by
    rw [← Nat.add_assoc, allR_take l (i + j) (by omega)]
    exact (allR_pre l i j (by omega)).trans (List.prefix_append _ _)
theorem run_recs (bud per : Int) (hb : 0 ≤ bud) (l : List Op) (h8 : ops8 l) : ∀ (i : Nat), i ≤ l.length →
    (runR bud per (l.take i)).recs = (allR (l.take i)).drop (runR bud per (l.take i)).lo.toNat ∧ (runR bud per (l.take i)).top = (allR (l.take i)).length := by
  intro i
  induction i with
  | zero => intro _; simp [runR, allR]
  | succ i ih =>
    intro hi
    obtain ⟨h1, h2⟩ := ih (by omega)
    have g := run_good bud per hb l h8 i (by omega)
    rw [run_take bud per l i (by omega), allR_take l i (by omega)]
    generalize runR bud per (l.take i) = h at h1 h2 g
    generalize allR (l.take i) = A at h1 h2
    obtain ⟨g1, g2, _, _, _, _, g7, _, g9, g10, g11, _⟩ := g
    unfold stepR
    dsimp only
    cases hsn : l[i].snap with
    | true =>
      simp only [if_true, List.append_nil]
      unfold keepR
      by_cases hc : h.top.tmod h.per ≠ 0 ∨ lastIs h.snaps h.top = true
      · rw [if_pos hc]; exact ⟨h1, h2⟩
      · rw [if_neg hc]
        have hm : ∀ s ∈ h.snaps ++ [(⟨h.top, bytesOf l[i] i⟩ : Sn)], h.lo ≤ s.n := fun s hs' => by
          rcases List.mem_append.1 hs' with hs' | hs'
          · exact (g11 s hs').1
          · obtain rfl := List.mem_singleton.1 hs'; simp; omega
        obtain ⟨q1, q2, q3, q4, q5, q6⟩ := evA_inv h.bud (by omega) h.recs h.lo (h.snaps ++ [⟨h.top, bytesOf l[i] i⟩]) hm
        refine ⟨?_, h2⟩
        dsimp only
        rw [q3, h1, List.drop_drop]
        congr 1
        rw [← h1]
        omega
    | false =>
      simp only [Bool.false_eq_true, if_false]
      unfold addR
      obtain ⟨q1, q2, q3, q4, q5, q6⟩ := evA_inv h.bud (by omega) (h.recs ++ [bytesOf l[i] i]) h.lo h.snaps fun s hs => (g11 s hs).1
      refine ⟨?_, by dsimp only; rw [h2]; simp⟩
      dsimp only
      rw [q3]
      have e : h.recs ++ [bytesOf l[i] i] = (A ++ [bytesOf l[i] i]).drop h.lo.toNat := by
        rw [h1, List.drop_append, show h.lo.toNat - A.length = 0 from by omega]
        rfl
      rw [e, List.drop_drop]
      congr 1
      rw [← e]
      omega
/-- What is told of a step that was. -/
theorem rec_of (bud per : Int) (hb : 0 ≤ bud) (l : List Op) (h8 : ops8 l) (i : Nat) (hi : i < l.length) (hs : l[i].snap = false) (h : Hi) (hh : h = runR bud per l) :
    (((allR (l.take i)).length : Int) < h.lo → recH h (allR (l.take i)).length = ([], 4)) ∧ (h.lo ≤ (allR (l.take i)).length → recH h (allR (l.take i)).length = (bytesOf l[i] i, 0)) := by
  have hr := run_recs bud per hb l h8 l.length (Nat.le_refl _)
  have g := run_good bud per hb l h8 l.length (Nat.le_refl _)
  rw [List.take_length, ← hh] at hr g
  obtain ⟨h1, h2⟩ := hr
  have hlo := g.lo
  have ht := allR_take l i hi
  rw [hs] at ht
  simp only [Bool.false_eq_true, if_false] at ht
  have hp := allR_pre l (i + 1) (l.length - (i + 1)) (by omega)
  rw [show i + 1 + (l.length - (i + 1)) = l.length from by omega, List.take_length, ht] at hp
  obtain ⟨R, hR⟩ := hp
  generalize allR (l.take i) = A at *
  have hlen : A.length + 1 ≤ (allR l).length := by rw [← hR]; simp
  refine ⟨fun hlt => by unfold recH; rw [if_pos hlt], fun hge => ?_⟩
  unfold recH
  rw [if_neg (by omega), if_neg (by omega), h1]
  congr 1
  rw [List.getD_eq_getElem?_getD, List.getElem?_drop, show h.lo.toNat + ((A.length : Int) - h.lo).toNat = A.length from by omega, ← hR]
  simp

theorem law6 (bud per n0 n1 n2 : Int) (l : List Op) (c : Bool) (h8 : ops8 l) : WFun p 6 [.agg [.int .i64 bud, .int .i64 per], .agg [.int .i64 n0, .int .i64 n1, .int .i64 n2], .list (l.map opV) c] [] yes := by
  refine WFun_of w6 rfl rfl k6 ?_
  have hm := lmay bud per l
  have qm : ∀ H (K : V → Prop), xQuiet p 8 [.int .i64 bud, .int .i64 per, .list (l.map opV) c] H K = K _ := fun H K => quiet_nrm rfl (by simp) (by simp; rfl) hm
  have cm : ∀ H (Q : CR → List Ob → Prop), xCall p 8 [.int .i64 bud, .int .i64 per, .list (l.map opV) c] H Q = Q (.ret _) H := fun H K => call_nrm rfl (by simp) (by simp; rfl) hm
  by_cases hc : 0 ≤ bud ∧ 1 ≤ per ∧ per ≤ 1024 ∧ l.length ≤ 40
  · have h1 := lrun bud per l hc.1 ⟨hc.2.1, hc.2.2.1⟩ hc.2.2.2 h8
    have h2 := rrun bud per l hc.1 ⟨hc.2.1, hc.2.2.1⟩ hc.2.2.2 h8
    have c1 : ∀ H (Q : CR → List Ob → Prop), xCall p 9 [.int .i64 bud, .int .i64 per, .list (l.map opV) c] H Q = Q (.ret _) H := fun H K => call_nrm rfl (by simp) (by simp; rfl) h1
    have c2 : ∀ H (Q : CR → List Ob → Prop), xCall p 10 [.int .i64 bud, .int .i64 per, .list (l.map opV) c] H Q = Q (.ret _) H := fun H K => call_nrm rfl (by simp) (by simp; rfl) h2
    have g := run_good bud per hc.1 l h8 l.length (Nat.le_refl _)
    have hro := rec_of bud per hc.1 l h8
    rw [List.take_length] at g
    obtain ⟨h, hh⟩ : ∃ h, h = runR bud per l := ⟨_, rfl⟩
    rw [← hh] at c1 c2 g
    have hgr : h.top - h.lo = h.recs.length := by have := g.lr; omega
    have hrc := fun n => hrec h n hgr g.lo (by have := g.top; omega)
    have rrc := fun n => rrec h n hgr g.lo (by have := g.top; omega)
    have hnr := fun n => hnear h n (by have := g.sl; omega)
    have rnr := fun n => rnear h n (by have := g.sl; omega)
    simp only [hiV] at c1 c2 hrc rrc hnr rnr
    simp -dsimp [w6, call_by lawake, quiet_by lawake, qm, cm, hc, c1, c2]
    refine xL_by (by kernel_rfl) (fun k e H => ∃ i J, i ≤ l.length ∧ k = l.length - i ∧ e 2 = .list (l.map opV) c ∧ e 4 = .ptr 1 0 ∧ e 7 = .bool true ∧ e 10 = .ptr 2 0 ∧ e 11 = .ptr 3 0 ∧ e 12 = .int .i64 (allR (l.take i)).length ∧ e 13 = .int .i64 i ∧
      H = .live [.int .i64 bud, .int .i64 per] :: .live [.int .i64 n0, .int .i64 n1, .int .i64 n2] :: .live [.int .i64 h.bud, .int .i64 h.per, .int .i64 h.lo, .int .i64 h.top, recsV h.recs, snapsV h.snaps] ::
        .live [.int .i64 h.bud, .int .i64 h.per, .int .i64 h.lo, .int .i64 h.top, recsV h.recs, snapsV h.snaps] :: J) l.length ?_ ?_
    · exact ⟨0, [], by simp [allR]⟩
    · rintro k e H ⟨i, J, hi, hk, e2, e4, e7, e10, e11, e12, e13, rfl⟩
      by_cases hlt : i < l.length
      · have hwi : IntKind.i64.wrap ((i : Int) + 1) = (i : Int) + 1 := w64 (by omega) (by omega)
        have hat := allR_take l i hlt
        have h8i := h8 _ (List.getElem_mem hlt)
        cases hsn : l[i].snap with
        | true =>
          rw [hsn] at hat
          simp at hat
          simp -dsimp [e2, e4, e7, e10, e11, e12, e13, hlt, hsn, hwi]
          refine ⟨l.length - (i + 1), by omega, i + 1, J, by omega, rfl, ?_⟩
          simp -dsimp [e2, e4, e7, e10, e11, e12, hat]
        | false =>
          have hby := rbytes l[i] i h8i
          simp only [opV] at hby
          rw [hsn] at hat hby
          simp at hat
          obtain ⟨r1, r2⟩ := hro i hlt hsn h hh
          have hu := bytes_u8 l[i] i
          have hal : (allR (l.take i)).length ≤ i := by
            unfold allR
            refine Nat.le_trans (List.length_filterMap_le _ _) (by simp; omega)
          have hws : IntKind.i64.wrap (((allR (l.take i)).length : Int) + 1) = ((allR (l.take i)).length : Int) + 1 := w64 (by omega) (by omega)
          by_cases hlo : h.lo ≤ (allR (l.take i)).length
          · have hrr := hrc (allR (l.take i)).length
            rw [r2 hlo] at hrr
            simp -dsimp [e2, e4, e7, e10, e11, e12, e13, hlt, hsn, hwi, call_by hrr, quiet_by hrr, quiet_by hby, call_by hby, hlo, hws]
            refine ⟨hu, ?_⟩
            refine ⟨l.length - (i + 1), by omega, i + 1, J, by omega, rfl, ?_⟩
            simp -dsimp [e2, e4, e7, e10, e11, hat]
          · have hrr := hrc (allR (l.take i)).length
            rw [r1 (by omega)] at hrr
            simp -dsimp [e2, e4, e7, e10, e11, e12, e13, hlt, hsn, hwi, call_by hrr, quiet_by hrr, quiet_by hby, call_by hby, hlo, hws]
            refine ⟨l.length - (i + 1), by omega, i + 1, J, by omega, rfl, ?_⟩
            simp -dsimp [e2, e4, e7, e10, e11, hat]
      · simp -dsimp [e2, e4, e7, e10, e11, e12, e13, hlt]
        refine xL_by (by kernel_rfl) (fun k e H => ∃ i J, i ≤ 3 ∧ k = 3 - i ∧ e 4 = .ptr 1 0 ∧ e 7 = .bool true ∧ e 10 = .ptr 2 0 ∧ e 11 = .ptr 3 0 ∧ e 17 = .int .i64 (i : Nat) ∧
          H = .live [.int .i64 bud, .int .i64 per] :: .live [.int .i64 n0, .int .i64 n1, .int .i64 n2] :: .live [.int .i64 h.bud, .int .i64 h.per, .int .i64 h.lo, .int .i64 h.top, recsV h.recs, snapsV h.snaps] ::
            .live [.int .i64 h.bud, .int .i64 h.per, .int .i64 h.lo, .int .i64 h.top, recsV h.recs, snapsV h.snaps] :: J) 3 ?_ ?_
        · exact ⟨0, J, by simp [e4, e7, e10, e11]⟩
        · rintro k e H ⟨i, J, hi, hk, e4, e7, e10, e11, e17, rfl⟩
          have hur : ∀ n, U8 (recH h n).1 := by
            intro n
            unfold recH
            split
            · intro x hx; cases hx
            · split
              · intro x hx; cases hx
              · intro x hx
                rw [List.getD_eq_getElem?_getD] at hx
                cases hq : h.recs[(n - h.lo).toNat]? with
                | none => rw [hq] at hx; cases hx
                | some b => rw [hq] at hx; exact g.rb b (List.mem_of_getElem? hq) x hx
          have hus : ∀ n s, nearS h.snaps n = some s → U8 s.b := by
            intro n s hs
            unfold nearS at hs
            exact g.sb s (List.mem_reverse.1 (List.mem_of_find?_eq_some hs))
          have hi' : i = 0 ∨ i = 1 ∨ i = 2 ∨ i = 3 := by omega
          have w1 : IntKind.i64.wrap 1 = 1 := w64 (by omega) (by omega)
          have w2 : IntKind.i64.wrap (1 + 1) = 2 := w64 (by omega) (by omega)
          have w3 : IntKind.i64.wrap (2 + 1) = 3 := w64 (by omega) (by omega)
          have w22 : IntKind.i64.wrap 2 = 2 := w64 (by omega) (by omega)
          have w33 : IntKind.i64.wrap 3 = 3 := w64 (by omega) (by omega)
          rcases hi' with rfl | rfl | rfl | rfl
          · have hu := hur n0
            have hu2 := hus n0
            have hn1 := hnr n0
            have hn2 := rnr n0
            have hr1 := hrc n0
            have hr2 := rrc n0
            generalize recH h n0 = rr at hu hr1 hr2
            cases hq : nearS h.snaps n0 with
            | none =>
              rw [hq] at hn1 hn2
              simp only [nearV, snV] at hn1 hn2
              simp -dsimp [e4, e7, e10, e11, e17, quiet_by hr1, quiet_by hr2, call_by hr1, call_by hr2, quiet_by hn1, quiet_by hn2, call_by hn1, call_by hn2, w1, w2, w3, w22, w33, byV]
              refine ⟨hu, rfl, 3 - 1, by omega, 1, J ++ [Ob.live [.int .i64 0, .list [] false], Ob.live [.int .i64 0, .list [] false]], by omega, rfl, ?_⟩
              simp -dsimp [e4, e7, e10, e11]
            | some s =>
              have hu3 := hu2 s hq
              rw [hq] at hn1 hn2
              simp only [nearV, snV] at hn1 hn2
              simp -dsimp [e4, e7, e10, e11, e17, quiet_by hr1, quiet_by hr2, call_by hr1, call_by hr2, quiet_by hn1, quiet_by hn2, call_by hn1, call_by hn2, w1, w2, w3, w22, w33]
              refine ⟨hu, hu3, 3 - 1, by omega, 1, J ++ [.live [.int .i64 s.n, byV s.b], .live [.int .i64 s.n, byV s.b]], by omega, rfl, ?_⟩
              simp -dsimp [e4, e7, e10, e11]
          · have hu := hur n1
            have hu2 := hus n1
            have hn1 := hnr n1
            have hn2 := rnr n1
            have hr1 := hrc n1
            have hr2 := rrc n1
            generalize recH h n1 = rr at hu hr1 hr2
            cases hq : nearS h.snaps n1 with
            | none =>
              rw [hq] at hn1 hn2
              simp only [nearV, snV] at hn1 hn2
              simp -dsimp [e4, e7, e10, e11, e17, quiet_by hr1, quiet_by hr2, call_by hr1, call_by hr2, quiet_by hn1, quiet_by hn2, call_by hn1, call_by hn2, w1, w2, w3, w22, w33, byV]
              refine ⟨hu, rfl, 3 - 2, by omega, 2, J ++ [Ob.live [.int .i64 0, .list [] false], Ob.live [.int .i64 0, .list [] false]], by omega, rfl, ?_⟩
              simp -dsimp [e4, e7, e10, e11]
            | some s =>
              have hu3 := hu2 s hq
              rw [hq] at hn1 hn2
              simp only [nearV, snV] at hn1 hn2
              simp -dsimp [e4, e7, e10, e11, e17, quiet_by hr1, quiet_by hr2, call_by hr1, call_by hr2, quiet_by hn1, quiet_by hn2, call_by hn1, call_by hn2, w1, w2, w3, w22, w33]
              refine ⟨hu, hu3, 3 - 2, by omega, 2, J ++ [.live [.int .i64 s.n, byV s.b], .live [.int .i64 s.n, byV s.b]], by omega, rfl, ?_⟩
              simp -dsimp [e4, e7, e10, e11]
          · have hu := hur n2
            have hu2 := hus n2
            have hn1 := hnr n2
            have hn2 := rnr n2
            have hr1 := hrc n2
            have hr2 := rrc n2
            generalize recH h n2 = rr at hu hr1 hr2
            cases hq : nearS h.snaps n2 with
            | none =>
              rw [hq] at hn1 hn2
              simp only [nearV, snV] at hn1 hn2
              simp -dsimp [e4, e7, e10, e11, e17, quiet_by hr1, quiet_by hr2, call_by hr1, call_by hr2, quiet_by hn1, quiet_by hn2, call_by hn1, call_by hn2, w1, w2, w3, w22, w33, byV]
              refine ⟨hu, rfl, 3 - 3, by omega, 3, J ++ [Ob.live [.int .i64 0, .list [] false], Ob.live [.int .i64 0, .list [] false]], by omega, rfl, ?_⟩
              simp -dsimp [e4, e7, e10, e11]
            | some s =>
              have hu3 := hu2 s hq
              rw [hq] at hn1 hn2
              simp only [nearV, snV] at hn1 hn2
              simp -dsimp [e4, e7, e10, e11, e17, quiet_by hr1, quiet_by hr2, call_by hr1, call_by hr2, quiet_by hn1, quiet_by hn2, call_by hn1, call_by hn2, w1, w2, w3, w22, w33]
              refine ⟨hu, hu3, 3 - 3, by omega, 3, J ++ [.live [.int .i64 s.n, byV s.b], .live [.int .i64 s.n, byV s.b]], by omega, rfl, ?_⟩
              simp -dsimp [e4, e7, e10, e11]
          · simp -dsimp [e4, e7, e10, e11, e17]
  · simp -dsimp [w6, call_by lawake, quiet_by lawake, qm, cm, hc]
end Fz.H
