import Derived.Test.YtophcnbabhigmaaFzHP
set_option maxRecDepth 100000
namespace Fz.H
open Go
instance : Inhabited Op := ⟨⟨false, 0⟩⟩
@[simp] theorem opV.gd (o : Op) : ground (opV o) = true := by simp [opV]
@[simp] theorem opV.gk (o : Op) (k : Nat) : gk (k + 2) (opV o) = true := by simp [opV]
@[simp] theorem opV.nr (o : Op) : nrm (opV o) = opV o := by simp [opV]
@[simp] theorem opV.nrc : nrm ∘ opV = opV := funext opV.nr
@[simp] theorem opV.nm (o : Op) : nm (opV o) = true := by simp [opV]
@[simp] theorem opV.any (o : Op) : isAny (opV o) = false := rfl
@[simp] theorem opV.cells (o : Op) : cellsOf (opV o) = [.bool o.snap, .int .u8 o.many] := rfl
@[simp] theorem opV.uni (l : List Op) : uni 2 (l.map opV) = true := uni_map fun _ => rfl
def opsV (l : List Op) : V := .list (l.map opV) false
@[simp] theorem opsV.gd (l : List Op) : ground (opsV l) = true := by simp [opsV]
@[simp] theorem opsV.gk (l : List Op) (k : Nat) : gk (k + 1) (opsV l) = true := by simp [opsV]
@[simp] theorem opsV.nr (l : List Op) : nrm (opsV l) = opsV l := by simp [opsV]
@[simp] theorem opsV.nrc : nrm ∘ opsV = opsV := funext fun x => opsV.nr x
@[simp] theorem opsV.nm (l : List Op) : nm (opsV l) = true := by simp [opsV]
@[simp] theorem opsV.any (l : List Op) : isAny (opsV l) = false := rfl
@[simp] theorem opsV.cells (l : List Op) : cellsOf (opsV l) = [opsV l] := rfl
@[simp] theorem opsV.st (l : List Op) : storable (opsV l) = true := rfl
@[simp] theorem opsV.lf (l : List Op) : leafy (opsV l) = true := rfl
@[simp] theorem opsV.uni (l : List (List Op)) : uni 1 (l.map opsV) = true := uni_map fun _ => rfl
@[simp] theorem opsV.flat (l : List (List Op)) : flat (l.map opsV) = l.map opsV := flat_one fun _ => rfl
@[simp] theorem opsV.sl (l : List Op) (L : List V → Bool → Prop) (O : Nat → Nat → Nat → Nat → Prop) : wSl (opsV l) L O = L (l.map opV) false := (rfl)
@[simp] theorem opsV.el (l : List Op) (H : List Ob) (n : Nat) (K : List V → Nat → Prop) : xElems H n (opsV l) K = xElems H n (.list (l.map opV) false) K := (rfl)
@[simp] theorem opsV.xs (l : List Op) (H : List Ob) (n : Nat) (lo hi mx : Option V) (K : V → Prop) : xSlice H (.sl n) (opsV l) lo hi mx K = xSlice H (.sl n) (.list (l.map opV) false) lo hi mx K := (rfl)

theorem lrun (bud per : Int) (l : List Op) (hb : 0 ≤ bud) (hp : 1 ≤ per ∧ per ≤ 1024) (hl : l.length ≤ 40) (h8 : ops8 l) : Comes p 9 [.int .i64 bud, .int .i64 per, opsV l] (hiV (runR bud per l)) := by
  have hn := hnew bud per
  rw [if_neg (by omega)] at hn
  refine Comes_of w9 rfl rfl k9 ?_ ?_ ?_ ?_
  · simp
  · simp
  · simp
  · simp -dsimp [w9, call_by hn, quiet_by hn, hiV]
    refine xL_by (by kernel_rfl) (fun k e H => ∃ i h J, i ≤ l.length ∧ k = l.length - i ∧ h = runR bud per (l.take i) ∧ e 2 = opsV l ∧ e 6 = .ptr 0 0 ∧ e 7 = .ptr 1 0 ∧ e 9 = .int .i64 i ∧
      H = .live [.int .i64 0, .int .i64 0, .int .i64 0, .int .i64 0, .list [] true, .list [] true] :: .live [.int .i64 h.bud, .int .i64 h.per, .int .i64 h.lo, .int .i64 h.top, recsV h.recs, snapsV h.snaps] :: J) l.length ?_ ?_
    · refine ⟨0, ⟨bud, per, 0, 0, [], []⟩, [], ?_⟩
      simp [runR]
    · rintro k e H ⟨i, h, J, hi, hk, hh, e2, e6, e7, e9, rfl⟩
      have g := run_good bud per hb l h8 i hi
      rw [← hh] at g
      by_cases hlt : i < l.length
      · have hs := run_take bud per l i hlt
        rw [← hh] at hs
        have h8i := h8 _ (List.getElem_mem hlt)
        obtain ⟨g1, gs⟩ := g.step hb l[i] i h8i
        have hbl := bytes_len l[i] i h8i
        have hby := rbytes l[i] i h8i
        obtain ⟨q1, q2, q3, q4, q5, q6, q7, q8, q9, _⟩ := g
        by_cases hsn : l[i].snap = true
        · have hk := hkeep h (bytesOf l[i] i) ⟨by dsimp only; omega, by dsimp only; omega, by dsimp only; rw [totalS_append, totalS_cons]; simp; omega, by simp; omega, by dsimp only; omega, by dsimp only; omega, by dsimp only; omega, by dsimp only; omega⟩ (by omega)
          simp only [hiV, opV] at hk hby
          rw [hsn] at hby
          simp -dsimp [e2, e6, e7, e9, hlt, hsn, quiet_by hby, quiet_by hk]
          refine ⟨l.length - (i + 1), by omega, i + 1, keepH h (bytesOf l[i] i), J, by omega, rfl, ?_, ?_⟩
          · rw [hs, gs]; simp [stepH, hsn]
          simp -dsimp [e2, e6, e7]
          exact w64 (by omega) (by omega)
        · have hsn : l[i].snap = false := by simpa using hsn
          have hk := hadd h (bytesOf l[i] i) ⟨by dsimp only; rw [total_append, total_cons]; simp; omega, by simp; omega, by dsimp only; omega, by dsimp only; omega, by dsimp only; omega, by dsimp only; omega, by dsimp only; omega, by dsimp only; omega⟩
          simp only [hiV, opV] at hk hby
          rw [hsn] at hby
          simp -dsimp [e2, e6, e7, e9, hlt, hsn, quiet_by hby, quiet_by hk]
          refine ⟨l.length - (i + 1), by omega, i + 1, addH h (bytesOf l[i] i), J, by omega, rfl, ?_, ?_⟩
          · rw [hs, gs]; simp [stepH, hsn]
          simp -dsimp [e2, e6, e7]
          exact w64 (by omega) (by omega)
      · have : i = l.length := by omega
        subst this
        rw [List.take_length] at hh
        subst hh
        simp -dsimp [e2, e6, e7, e9, wFix_by]

theorem rrun (bud per : Int) (l : List Op) (hb : 0 ≤ bud) (hp : 1 ≤ per ∧ per ≤ 1024) (hl : l.length ≤ 40) (h8 : ops8 l) : Comes p 10 [.int .i64 bud, .int .i64 per, opsV l] (hiV (runR bud per l)) := by
  have hn := rnew bud per
  rw [if_neg (by omega)] at hn
  refine Comes_of w10 rfl rfl k10 ?_ ?_ ?_ ?_
  · simp
  · simp
  · simp
  · simp -dsimp [w10, call_by hn, quiet_by hn, hiV]
    refine xL_by (by kernel_rfl) (fun k e H => ∃ i h J, i ≤ l.length ∧ k = l.length - i ∧ h = runR bud per (l.take i) ∧ e 2 = opsV l ∧ e 6 = .ptr 0 0 ∧ e 7 = .ptr 1 0 ∧ e 9 = .int .i64 i ∧
      H = .live [.int .i64 0, .int .i64 0, .int .i64 0, .int .i64 0, .list [] true, .list [] true] :: .live [.int .i64 h.bud, .int .i64 h.per, .int .i64 h.lo, .int .i64 h.top, recsV h.recs, snapsV h.snaps] :: J) l.length ?_ ?_
    · refine ⟨0, ⟨bud, per, 0, 0, [], []⟩, [], ?_⟩
      simp [runR]
    · rintro k e H ⟨i, h, J, hi, hk, hh, e2, e6, e7, e9, rfl⟩
      have g := run_good bud per hb l h8 i hi
      rw [← hh] at g
      by_cases hlt : i < l.length
      · have hs := run_take bud per l i hlt
        rw [← hh] at hs
        have h8i := h8 _ (List.getElem_mem hlt)
        obtain ⟨g1, gs⟩ := g.step hb l[i] i h8i
        have hbl := bytes_len l[i] i h8i
        have hby := rbytes l[i] i h8i
        obtain ⟨q1, q2, q3, q4, q5, q6, q7, q8, q9, _⟩ := g
        by_cases hsn : l[i].snap = true
        · have hk := rkeep h (bytesOf l[i] i) ⟨by dsimp only; omega, by dsimp only; omega, by dsimp only; rw [totalS_append, totalS_cons]; simp; omega, by simp; omega, by dsimp only; omega, by dsimp only; omega, by dsimp only; omega, by dsimp only; omega⟩ (by omega) (by omega)
          simp only [hiV, opV] at hk hby
          rw [hsn] at hby
          simp -dsimp [e2, e6, e7, e9, hlt, hsn, quiet_by hby, quiet_by hk]
          refine ⟨l.length - (i + 1), by omega, i + 1, keepR h (bytesOf l[i] i), J, by omega, rfl, ?_, ?_⟩
          · rw [hs]; simp [stepR, hsn]
          simp -dsimp [e2, e6, e7]
          exact w64 (by omega) (by omega)
        · have hsn : l[i].snap = false := by simpa using hsn
          have hk := radd h (bytesOf l[i] i) ⟨by dsimp only; rw [total_append, total_cons]; simp; omega, by simp; omega, by dsimp only; omega, by dsimp only; omega, by dsimp only; omega, by dsimp only; omega, by dsimp only; omega, by dsimp only; omega⟩ (by omega)
          simp only [hiV, opV] at hk hby
          rw [hsn] at hby
          simp -dsimp [e2, e6, e7, e9, hlt, hsn, quiet_by hby, quiet_by hk]
          refine ⟨l.length - (i + 1), by omega, i + 1, addR h (bytesOf l[i] i), J, by omega, rfl, ?_, ?_⟩
          · rw [hs]; simp [stepR, hsn]
          simp -dsimp [e2, e6, e7]
          exact w64 (by omega) (by omega)
      · have : i = l.length := by omega
        subst this
        rw [List.take_length] at hh
        subst hh
        simp -dsimp [e2, e6, e7, e9, wFix_by]
end Fz.H
