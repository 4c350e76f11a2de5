import Derived.Test.YtnngbniomonabaaDoorFzSn5M4
import Derived.Test.YtnngbniomonabaaDoorRows
import Derived.Test.YtnngbniomonabaaDoorCards
import Derived.Test.YtnngbniomonabaaDoorTie
import Derived.Deep.DeepWitnessRowRef
import Derived.LaidMore
import Derived.Lay
set_option linter.all false
set_option linter.unusedVariables false
set_option linter.unusedSimpArgs false
set_option linter.unnecessarySimpa false
set_option maxRecDepth 100000
namespace Fz.D
open Go
def diffD (f t : St) : De := { mem := runsF f.mem t.mem, dk := (shr inQ f.data t.data : Nat), dt := f.data.drop (shr inQ f.data t.data), rk := (shr sloQ f.ret t.ret : Nat), rt := f.ret.drop (shr sloQ f.ret t.ret), ck := (shr inQ f.ctl t.ctl : Nat), ct := f.ctl.drop (shr inQ f.ctl t.ctl), wk := (shr worQ f.words t.words : Nat), wt := f.words.drop (shr worQ f.words t.words), sk := (shr spoQ f.spots t.spots : Nat), st := f.spots.drop (shr spoQ f.spots t.spots), out := (t.out.length : Int) - f.out.length, r0 := f.ip, r1 := f.here, r2 := f.at_, r3 := f.tok, r4 := f.in_, r5 := f.err, comp := f.comp, halt := f.halt }
structure StLen (s : St) : Prop where
  mem : s.mem.length ≤ 100000
  data : s.data.length ≤ 100000
  ret : s.ret.length ≤ 100000
  ctl : s.ctl.length ≤ 100000
  words : s.words.length ≤ 100000
  spots : s.spots.length ≤ 100000
  out : s.out.length ≤ 100000000
theorem runs_s (a b : List Int) {H : List Ob} {Q : CR → List Ob → Prop} (hq : Q (.ret (.fn (.func 73) [] [.ptr H.length 0, .ptr (H.length + 1) 0])) (H ++ [.live [byV a], .live [byV b]])) : xCall p 47 [byV a, byV b] H Q := by
  have h0 : refsL [byV a, byV b] = [] := groundL_refs _ (by simp)
  refine WCall_inl (by kernel_rfl) (ids := []) (by rw [h0]; rfl) ?_
  have r0 : renL (fun i => List.idxOf i ([] : List Nat)) [byV a, byV b] = [byV a, byV b] := groundL_ren _ _ (by simp)
  rw [r0]
  refine WFun_of w47 rfl rfl k47 ?_
  simp -dsimp [w47, renL, ren]
  have ra : ∀ g, ren g (byV a) = byV a := fun g => ground_ren g _ (byV.gd a)
  have rb : ∀ g, ren g (byV b) = byV b := fun g => ground_ren g _ (byV.gd b)
  simpa [renR, ren, renL, backH, crV, refs, refsL, setAll, renOb, backK, ra, rb] using hq
theorem ids_s {o0 o1 o2 : Ob} {v : V} {rest : List V} {a b : List Int} (hr : groundL rest = true) (hv : refs v = []) :
    reach ([o0, o1, o2, .live (v :: rest), .live [byV a], .live [byV b]] ++ [Lp 3]) 1000 [6, 4, 5] [] = some [6, 4, 5, 3] := by
  have hrr : refsL rest = [] := groundL_refs rest hr
  have e1 : refsL [byV a] = [] := groundL_refs _ (by simp)
  have e2 : refsL [byV b] = [] := groundL_refs _ (by simp)
  have e1' : refs (byV a) = [] := ground_refs _ (byV.gd a)
  have e2' : refs (byV b) = [] := ground_refs _ (byV.gd b)
  refine (reach_go (k := 999) rfl rfl).trans ?_
  refine (reach_go (k := 998) rfl rfl).trans ?_
  simp only [refsOb, refsL, refs, e1, List.nil_append, List.cons_append, List.append_nil]
  refine (reach_go (k := 997) rfl rfl).trans ?_
  simp only [refsOb, refsL, refs, e2, List.nil_append, List.cons_append, List.append_nil]
  refine (reach_go (k := 996) rfl rfl).trans ?_
  simp only [refsOb, refsL, refs, hrr, hv, e1', e2', List.nil_append, List.cons_append, List.append_nil]
  exact reach_end (k := 995)
theorem range_s {o0 o1 o2 : Ob} {rest : List V} {a b : List Int} {e : Env} {Q : QX} (hb : a.length = b.length) (ha : a.length ≤ 100000) (hr : groundL rest = true) (h5 : e 5 = .ptr 3 0)
    (hq : ∀ v T, Acc 2 7 T v ((runsF a b).map runT) → Q .normal e (o0 :: o1 :: o2 :: .live (v :: rest) :: .live [byV a] :: .live [byV b] :: .dead :: T)) :
    WRange p 180 (.fn (.func 73) [] [.ptr 4 0, .ptr 5 0]) e [o0, o1, o2, .live (.list [] true :: rest), .live [byV a], .live [byV b]] Q := by
  have hre : ∀ g, renL g rest = rest := fun g => groundL_ren g rest hr
  have hrr : refsL rest = [] := groundL_refs rest hr
  have e1 : refs (byV a) = [] := ground_refs _ (byV.gd a)
  have e2 : refs (byV b) = [] := ground_refs _ (byV.gd b)
  have ra : ∀ g, ren g (byV a) = byV a := fun g => ground_ren g _ (byV.gd a)
  have rb : ∀ g, ren g (byV b) = byV b := fun g => ground_ren g _ (byV.gd b)
  refine WRange_of (ab := bd180) (ids := [6, 4, 5, 3]) rfl (by decide) rfl rfl ?_ ?_
  · have : refsL ([] ++ [V.yld 6] ++ [V.ptr 4 0, V.ptr 5 0]) = [6, 4, 5] := by simp [refsL, refs]
    show reach _ 1000 (refsL ([] ++ [V.yld 6] ++ [V.ptr 4 0, V.ptr 5 0])) [] = _
    rw [this]
    have hk : bd180.keep.map e = [.ptr 3 0] := by show [e 5] = _; rw [h5]
    rw [hk]
    exact ids_s hr (by simp [refs, refsL])
  · have hk : bd180.keep.map e = [.ptr 3 0] := by show [e 5] = _; rw [h5]
    rw [hk]
    have i6 : List.idxOf 6 [6, 4, 5, 3] = 0 := rfl
    have i4 : List.idxOf 4 [6, 4, 5, 3] = 1 := rfl
    have i5 : List.idxOf 5 [6, 4, 5, 3] = 2 := rfl
    have i3 : List.idxOf 3 [6, 4, 5, 3] = 3 := rfl
    have ka : bd180.keep = [5] := rfl
    simp [renL, ren, renOb, i6, i4, i5, i3, hre, ra, rb, ka]
    refine runs1_s hb ha hr fun v T hac => ⟨by simp, ?_⟩
    obtain ⟨u1, u2, u3⟩ := hac
    rcases u3 with ⟨u3, rfl⟩ | ⟨j, rfl, hj⟩
    · refine ⟨.normal, e, _, ?_, hq (.list [] true) [] ⟨u1, u2, .inl ⟨u3, rfl⟩⟩⟩
      have k0 : backK [6, 4, 5, 3] 7 3 = 3 := rfl
      simp [backH, setAll, renOb, ren, renL, renR, hre, crV, refs, refsL, refsOb, hrr, e1, e2, ra, rb, k0, endRange]
    · have k0 : backK [6, 4, 5, 3] 7 3 = 3 := rfl
      have k1 : backK [6, 4, 5, 3] 7 (4 + j) = 7 + j := by simp [backK]; omega
      refine ⟨.normal, e, _, ?_, hq (.own (7 + j) 0 ((runsF a b).map runT).length 2) (T.map (renOb (backK [6, 4, 5, 3] 7))) ⟨u1, u2, .inr ⟨j, rfl, ?_⟩⟩⟩
      · simp [backH, setAll, renOb, ren, renL, renR, hre, crV, refs, refsL, refsOb, hrr, e1, e2, ra, rb, k0, k1, endRange]
      · rw [List.getElem?_map, hj]
        simp only [Option.map_some, renOb]
        rw [groundL_ren _ _ (by simp)]
theorem diff_s {f t : St} (hf : StLen f) (ht : StLen t) (hm : f.mem.length = t.mem.length) : Comes p 18 [stV f, stV t] (deV (diffD f t)) := by
  have c1 := shareInt_s (a := f.data) (b := t.data) (by have := hf.data; omega) (by have := ht.data; omega)
  have c2 := shareSlo_s (a := f.ret) (b := t.ret) (by have := hf.ret; omega) (by have := ht.ret; omega)
  have c3 := shareInt_s (a := f.ctl) (b := t.ctl) (by have := hf.ctl; omega) (by have := ht.ctl; omega)
  have c4 := shareWor_s (a := f.words) (b := t.words) (by have := hf.words; omega) (by have := ht.words; omega)
  have c5 := shareSpo_s (a := f.spots) (b := t.spots) (by have := hf.spots; omega) (by have := ht.spots; omega)
  have w : IntKind.i64.wrap ((t.out.length : Int) - f.out.length) = (t.out.length : Int) - f.out.length := Fz.w64 (by have := hf.out; omega) (by have := ht.out; omega)
  refine Comes_of w18 rfl rfl k18 ?_ ?_ ?_ ?_
  · simp
  · simp
  · simp
  · simp -dsimp [w18, wFix_by, isInl, w]
    refine runs_s _ _ ?_
    simp -dsimp [isInl]
    refine range_s hm hf.mem (by simp) rfl fun v T hac => ?_
    have hst : storable v = true := by
      obtain ⟨_, _, h3⟩ := hac
      rcases h3 with ⟨_, rfl⟩ | ⟨j, rfl, _⟩ <;> rfl
    simp -dsimp [-List.map_drop, drop_map, map_tail2, wFix_by, isInl, call_by c1, call_by c2, call_by c3, call_by c4, call_by c5]
    refine ⟨(shr_le _ _).1, (shr_le _ _).1, (shr_le _ _).1, (shr_le _ _).1, (shr_le _ _).1, hst, ?_⟩
    refine frz_acc 7 (k := 10) hac (by simp [byT]) (by simp; exact fun x _ => ⟨_, rfl⟩) (fun H' _ _ => ?_)
    simp -dsimp [-List.map_drop, drop_map, diffD]
    try rfl
end Fz.D
set_option maxRecDepth 100000
namespace Fz.D
open Go
def by8 (b : List Int) : Prop := ∀ x ∈ b, 0 ≤ x ∧ x < 256
def bstr (b : List Int) : ByteArray := bytesV (b.map (V.int .u8))
theorem all8 {b : List Int} (h : by8 b) : allU8 (b.map (V.int .u8)) = true := by
  unfold allU8
  rw [List.all_map, List.all_eq_true]
  intro x hx
  have := h x hx
  simp [this.1, this.2]
def u8f (x : Int) : UInt8 := x.toNat.toUInt8
theorem bstr_eq (b : List Int) : bstr b = ⟨(b.map u8f).toArray⟩ := by
  unfold bstr bytesV
  rw [List.map_map]; rfl
theorem bstr_inj {a b : List Int} (ha : by8 a) (hb : by8 b) (h : bstr a = bstr b) : a = b := by
  rw [bstr_eq, bstr_eq] at h
  have h1 : a.map u8f = b.map u8f := by
    have := congrArg (fun x => x.data.toList) h
    simpa using this
  have key : ∀ (l : List Int), by8 l → (l.map u8f).map (fun u => (u.toNat : Int)) = l := by
    intro l hl
    rw [List.map_map]
    conv => rhs; rw [← List.map_id l]
    refine List.map_congr_left fun x hx => ?_
    have := hl x hx
    have e : (u8f x).toNat = x.toNat := by
      show x.toNat % 256 = _
      omega
    simp only [Function.comp_apply, id_eq, e]
    omega
  rw [← key a ha, ← key b hb, h1]
theorem nmB_len (s : ByteArray) : (nmB s).length = s.size := by
  unfold nmB
  rw [List.length_map, Array.length_toList]; rfl
def fewB (s : St) : Bool := (s.words.take 41).all (fun w => decide (w.name.size ≤ 60)) && (decide (s.mem.length ≤ 600) && (decide (s.data.length ≤ 40) && (decide (s.ret.length ≤ 40) && (decide (s.ctl.length ≤ 200) && (decide (s.words.length ≤ 40) && (decide (s.spots.length ≤ 100) && decide (s.out.length ≤ 200)))))))
theorem all_take {α : Type} {f : α → Bool} {l : List α} {i : Nat} (h : i < l.length) : (l.take (i + 1)).all f = ((l.take i).all f && f l[i]) := by
  rw [List.take_succ_eq_append_getElem h, List.all_append, List.all_cons, List.all_nil, Bool.and_true]
theorem all_false {α : Type} {f : α → Bool} {l : List α} {i n : Nat} (h : i < l.length) (hn : i < n) (hf : f l[i] = false) : (l.take n).all f = false := by
  rw [List.all_eq_false]
  exact ⟨l[i], List.mem_take_iff_getElem.2 ⟨i, by omega, rfl⟩, by simp [hf]⟩
theorem few_s (s : St) : Comes p 10 [stV s] (.bool (fewB s)) := by
  refine Comes_of w10 rfl rfl k10 ?_ ?_ ?_ ?_
  · simp
  · simp
  · simp
  · simp -dsimp [w10, wFix_by, isInl]
    refine xL_by (by kernel_rfl) (fun k e H => ∃ i : Nat, i ≤ 41 ∧ k = 41 - i ∧ e 1 = .ptr 0 0 ∧ e 3 = .int .i64 i ∧ H = [.live (cellsOf (stV s))] ∧ (s.words.take i).all (fun w => decide (w.name.size ≤ 60)) = true) 41 ?_ ?_
    · refine ⟨0, by omega, rfl, ?_⟩
      simp -dsimp
    rintro k e H ⟨i, hi, hk, h1, h3, rfl, hall⟩
    by_cases c1 : i < s.words.length
    · by_cases c2 : i < 41
      · have w2 : IntKind.i64.wrap ((i : Int) + 1) = ((i + 1 : Nat) : Int) := by rw [Fz.w64 (by omega) (by omega)]; omega
        have c2' : (i : Int) < 41 := by omega
        have q := all_take (f := (fun w => decide (w.name.size ≤ 60))) c1
        by_cases c3 : s.words[i].name.size ≤ 60
        · have c3' : ¬ ((s.words[i].name.size : Nat) : Int) > 60 := by omega
          have c3'' : ¬ (60 < ((s.words[i].name.size : Nat) : Int)) := by omega
          simp -dsimp [h1, h3, c1, c2, c2', c3', c3'', w2]
          refine ⟨41 - (i + 1), by omega, i + 1, by omega, rfl, ?_⟩
          rw [q, hall]
          simp -dsimp [h1, h3, c3]
        · have c3' : ((s.words[i].name.size : Nat) : Int) > 60 := by omega
          have c3'' : 60 < ((s.words[i].name.size : Nat) : Int) := by omega
          have z : fewB s = false := by
            have := all_false (f := (fun w => decide (w.name.size ≤ 60))) (n := 41) c1 c2 (by simp; omega)
            unfold fewB
            rw [this]; simp
          simp -dsimp [h1, h3, c1, c2, c2', c3', c3'', wFix_by, isInl, z]
      have hi' : i = 41 := by omega
      have c2' : ¬ (i : Int) < 41 := by omega
      have a0 : (s.words.take 41).all (fun w => decide (w.name.size ≤ 60)) = true := by rw [← hi']; exact hall
      have f0 : ¬ (i < s.words.length ∧ i < 41) := by omega
      by_cases d0 : ¬ s.mem.length ≤ 600
      · have d0' : ¬ (((s.mem.length : Nat) : Int) ≤ 600) := by omega
        simp -dsimp [h1, h3, wFix_by, isInl, c1, c2, c2', d0, d0', fewB]
      rw [Classical.not_not] at d0
      have d0' : (((s.mem.length : Nat) : Int) ≤ 600) := by omega
      by_cases d1 : ¬ s.data.length ≤ 40
      · have d1' : ¬ (((s.data.length : Nat) : Int) ≤ 40) := by omega
        simp -dsimp [h1, h3, wFix_by, isInl, c1, c2, c2', d0, d0', d1, d1', fewB]
      rw [Classical.not_not] at d1
      have d1' : (((s.data.length : Nat) : Int) ≤ 40) := by omega
      by_cases d2 : ¬ s.ret.length ≤ 40
      · have d2' : ¬ (((s.ret.length : Nat) : Int) ≤ 40) := by omega
        simp -dsimp [h1, h3, wFix_by, isInl, c1, c2, c2', d0, d0', d1, d1', d2, d2', fewB]
      rw [Classical.not_not] at d2
      have d2' : (((s.ret.length : Nat) : Int) ≤ 40) := by omega
      by_cases d3 : ¬ s.ctl.length ≤ 200
      · have d3' : ¬ (((s.ctl.length : Nat) : Int) ≤ 200) := by omega
        simp -dsimp [h1, h3, wFix_by, isInl, c1, c2, c2', d0, d0', d1, d1', d2, d2', d3, d3', fewB]
      rw [Classical.not_not] at d3
      have d3' : (((s.ctl.length : Nat) : Int) ≤ 200) := by omega
      by_cases d4 : ¬ s.words.length ≤ 40
      · have d4' : ¬ (((s.words.length : Nat) : Int) ≤ 40) := by omega
        simp -dsimp [h1, h3, wFix_by, isInl, c1, c2, c2', d0, d0', d1, d1', d2, d2', d3, d3', d4, d4', fewB]
      rw [Classical.not_not] at d4
      have d4' : (((s.words.length : Nat) : Int) ≤ 40) := by omega
      by_cases d5 : ¬ s.spots.length ≤ 100
      · have d5' : ¬ (((s.spots.length : Nat) : Int) ≤ 100) := by omega
        simp -dsimp [h1, h3, wFix_by, isInl, c1, c2, c2', d0, d0', d1, d1', d2, d2', d3, d3', d4, d4', d5, d5', fewB]
      rw [Classical.not_not] at d5
      have d5' : (((s.spots.length : Nat) : Int) ≤ 100) := by omega
      by_cases d6 : ¬ s.out.length ≤ 200
      · have d6' : ¬ (((s.out.length : Nat) : Int) ≤ 200) := by omega
        simp -dsimp [h1, h3, wFix_by, isInl, c1, c2, c2', d0, d0', d1, d1', d2, d2', d3, d3', d4, d4', d5, d5', d6, d6', fewB]
      rw [Classical.not_not] at d6
      have d6' : (((s.out.length : Nat) : Int) ≤ 200) := by omega
      simp -dsimp [h1, h3, wFix_by, isInl, c1, c2, c2', d0, d0', d1, d1', d2, d2', d3, d3', d4, d4', d5, d5', d6, d6', a0, fewB]
    have a0 : (s.words.take 41).all (fun w => decide (w.name.size ≤ 60)) = true := by
      rw [List.take_of_length_le (by omega)]
      rw [List.take_of_length_le (by omega)] at hall
      exact hall
    by_cases d0 : ¬ s.mem.length ≤ 600
    · have d0' : ¬ (((s.mem.length : Nat) : Int) ≤ 600) := by omega
      simp -dsimp [h1, h3, wFix_by, isInl, c1, d0, d0', fewB]
    rw [Classical.not_not] at d0
    have d0' : (((s.mem.length : Nat) : Int) ≤ 600) := by omega
    by_cases d1 : ¬ s.data.length ≤ 40
    · have d1' : ¬ (((s.data.length : Nat) : Int) ≤ 40) := by omega
      simp -dsimp [h1, h3, wFix_by, isInl, c1, d0, d0', d1, d1', fewB]
    rw [Classical.not_not] at d1
    have d1' : (((s.data.length : Nat) : Int) ≤ 40) := by omega
    by_cases d2 : ¬ s.ret.length ≤ 40
    · have d2' : ¬ (((s.ret.length : Nat) : Int) ≤ 40) := by omega
      simp -dsimp [h1, h3, wFix_by, isInl, c1, d0, d0', d1, d1', d2, d2', fewB]
    rw [Classical.not_not] at d2
    have d2' : (((s.ret.length : Nat) : Int) ≤ 40) := by omega
    by_cases d3 : ¬ s.ctl.length ≤ 200
    · have d3' : ¬ (((s.ctl.length : Nat) : Int) ≤ 200) := by omega
      simp -dsimp [h1, h3, wFix_by, isInl, c1, d0, d0', d1, d1', d2, d2', d3, d3', fewB]
    rw [Classical.not_not] at d3
    have d3' : (((s.ctl.length : Nat) : Int) ≤ 200) := by omega
    by_cases d4 : ¬ s.words.length ≤ 40
    · have d4' : ¬ (((s.words.length : Nat) : Int) ≤ 40) := by omega
      simp -dsimp [h1, h3, wFix_by, isInl, c1, d0, d0', d1, d1', d2, d2', d3, d3', d4, d4', fewB]
    rw [Classical.not_not] at d4
    have d4' : (((s.words.length : Nat) : Int) ≤ 40) := by omega
    by_cases d5 : ¬ s.spots.length ≤ 100
    · have d5' : ¬ (((s.spots.length : Nat) : Int) ≤ 100) := by omega
      simp -dsimp [h1, h3, wFix_by, isInl, c1, d0, d0', d1, d1', d2, d2', d3, d3', d4, d4', d5, d5', fewB]
    rw [Classical.not_not] at d5
    have d5' : (((s.spots.length : Nat) : Int) ≤ 100) := by omega
    by_cases d6 : ¬ s.out.length ≤ 200
    · have d6' : ¬ (((s.out.length : Nat) : Int) ≤ 200) := by omega
      simp -dsimp [h1, h3, wFix_by, isInl, c1, d0, d0', d1, d1', d2, d2', d3, d3', d4, d4', d5, d5', d6, d6', fewB]
    rw [Classical.not_not] at d6
    have d6' : (((s.out.length : Nat) : Int) ≤ 200) := by omega
    simp -dsimp [h1, h3, wFix_by, isInl, c1, d0, d0', d1, d1', d2, d2', d3, d3', d4, d4', d5, d5', d6, d6', a0, fewB]
def fewD (d : De) : Bool := (d.mem.take 21).all (fun w => decide (w.b.length ≤ 100)) && ((d.wt.take 21).all (fun w => decide (w.name.size ≤ 60)) && (decide (d.mem.length ≤ 20) && (decide (d.dt.length ≤ 20) && (decide (d.rt.length ≤ 20) && (decide (d.ct.length ≤ 20) && (decide (d.wt.length ≤ 20) && decide (d.st.length ≤ 20)))))))
end Fz.D
set_option maxRecDepth 100000
namespace Fz.D
open Go
theorem by8_app {a b : List Int} (ha : by8 a) (hb : by8 b) : by8 (a ++ b) := fun x hx => by
  rcases List.mem_append.1 hx with h | h
  · exact ha x h
  · exact hb x h
theorem by8_nil : by8 [] := fun x hx => by cases hx
theorem by8_cat {ls : List (List Int)} (h : ∀ l ∈ ls, by8 l) : by8 (cat ls) := fun x hx => by
  obtain ⟨l, hl, hx⟩ := List.mem_flatten.1 hx
  exact h l hl x hx
theorem by8_numC : ∀ (k x : Nat), x < 2 ^ k → by8 (numC x)
  | 0, x, h => by
    have : x = 0 := by simpa using h
    subst this; rw [numC_zero]; exact by8_nil
  | k + 1, x, h => by
    by_cases h0 : x = 0
    · subst h0; rw [numC_zero]; exact by8_nil
    · rw [numC_pos h0]
      refine by8_app (by8_numC k (x / 128) (by rw [Nat.pow_succ] at h; omega)) fun y hy => ?_
      simp only [List.mem_cons, List.not_mem_nil, or_false] at hy
      omega
theorem by8_numB (x : Nat) : by8 (numB x) := by
  unfold numB
  refine by8_app (by8_numC (x / 128) (x / 128) Nat.lt_two_pow_self) fun y hy => ?_
  simp only [List.mem_cons, List.not_mem_nil, or_false] at hy
  omega
theorem by8_encN (n : Int) : by8 (encN n) := by8_numB _
theorem by8_encs (l : List Int) : by8 (encs l) := by8_cat fun x hx => by
  obtain ⟨n, _, rfl⟩ := List.mem_map.1 hx
  exact by8_encN n
theorem by8_encL {α : Type} {f : α → List Int} {l : List α} (h : ∀ a ∈ l, by8 (f a)) : by8 (encL f l) := by8_cat fun x hx => by
  obtain ⟨a, ha, rfl⟩ := List.mem_map.1 hx
  exact h a ha
theorem by8_nmB (s : ByteArray) : by8 (nmB s) := fun x hx => by
  obtain ⟨b, _, rfl⟩ := List.mem_map.1 hx
  have := b.toNat_lt
  omega
theorem by8_txt {b : List Int} (h : by8 b) : by8 (txt b) := by8_app (by8_encN _) h
theorem by8_encD {d : De} (h : ∀ r ∈ d.mem, by8 r.b) : by8 (encD d) := by
  unfold encD
  have h1 : by8 (encL encRun d.mem) := by8_encL fun r hr => by8_app (by8_encN _) (by8_txt (h r hr))
  have h2 : by8 (encL encSlo d.rt) := by8_encL fun r _ => by8_encs _
  have h3 : by8 (encL encWor d.wt) := by8_encL fun r _ => by8_app (by8_txt (by8_nmB _)) (by8_encs _)
  have h4 : by8 (encL encSpo d.st) := by8_encL fun r _ => by8_encs _
  exact by8_app (by8_app (by8_app (by8_app (by8_app (by8_app (by8_app (by8_app (by8_app (by8_encN _) h1) (by8_app (by8_app (by8_encN _) (by8_encN _)) (by8_encs _))) (by8_app (by8_app (by8_encN _) (by8_encN _)) h2)) (by8_app (by8_app (by8_encN _) (by8_encN _)) (by8_encs _)))
    (by8_app (by8_app (by8_encN _) (by8_encN _)) h3)) (by8_app (by8_app (by8_encN _) (by8_encN _)) h4)) (by8_encs _)) (by8_encs _)) (by8_encs _)
theorem bstr_fold (b : List Int) : bytesV (b.map (V.int .u8)) = bstr b := rfl
theorem tk_map {α β : Type} (f : α → β) (l : List α) (n : Nat) : List.take n (List.map f l) = (l.take n).map f := List.map_take.symm
def nearB (f t : St) : Bool := decide (f.mem.length = t.mem.length) && (decide (f.out.length ≤ t.out.length) && decide (bstr (t.out.take f.out.length) = bstr f.out))
theorem ints_self {a : List Int} (ha : a.length ≤ 1000000) : Comes p 29 [inV a, inV a] (.bool true) := by
  refine Comes_of w29 rfl rfl k29 ?_ ?_ ?_ ?_
  · simp
  · simp
  · simp
  · simp -dsimp [w29, wFix_by, isInl]
    refine xL_by (by kernel_rfl) (fun k e H => ∃ i : Nat, i ≤ a.length ∧ k = a.length - i ∧ e 0 = inV a ∧ e 1 = inV a ∧ e 5 = .int .i64 i) a.length ?_ ?_
    · refine ⟨0, by omega, rfl, ?_⟩
      simp -dsimp
    · rintro k e H ⟨i, hi, hk, h0, h1, h5⟩
      by_cases c1 : i < a.length
      · have g1 : a[i]?.getD default = a[i] := by simp [c1]
        have w2 : IntKind.i64.wrap ((i : Int) + 1) = ((i + 1 : Nat) : Int) := by rw [Fz.w64 (by omega) (by omega)]; omega
        have z : inQ a[i] a[i] = true := by simp [inQ]
        simp -dsimp [h0, h1, h5, wFix_by, isInl, inV, c1, g1, wOpt, w2, z]
        refine ⟨a.length - (i + 1), by omega, i + 1, by omega, rfl, ?_⟩
        simp -dsimp [h0, h1, inV]
      · simp -dsimp [h0, h1, h5, wFix_by, isInl, c1]
theorem slots_self {a : List Slo} (ha : a.length ≤ 1000000) : Comes p 30 [slosV a, slosV a] (.bool true) := by
  refine Comes_of w30 rfl rfl k30 ?_ ?_ ?_ ?_
  · simp
  · simp
  · simp
  · simp -dsimp [w30, wFix_by, isInl]
    refine xL_by (by kernel_rfl) (fun k e H => ∃ i : Nat, i ≤ a.length ∧ k = a.length - i ∧ e 0 = slosV a ∧ e 1 = slosV a ∧ e 5 = .int .i64 i) a.length ?_ ?_
    · refine ⟨0, by omega, rfl, ?_⟩
      simp -dsimp
    · rintro k e H ⟨i, hi, hk, h0, h1, h5⟩
      by_cases c1 : i < a.length
      · have g1 : a[i]?.getD default = a[i] := by simp [c1]
        have w2 : IntKind.i64.wrap ((i : Int) + 1) = ((i + 1 : Nat) : Int) := by rw [Fz.w64 (by omega) (by omega)]; omega
        have z : sloQ a[i] a[i] = true := by simp [sloQ]
        simp -dsimp [h0, h1, h5, wFix_by, isInl, slosV, c1, g1, wOpt, w2, slo_leaves, z]
        refine ⟨a.length - (i + 1), by omega, i + 1, by omega, rfl, ?_⟩
        simp -dsimp [h0, h1, slosV]
      · simp -dsimp [h0, h1, h5, wFix_by, isInl, c1]
theorem words_self {a : List Wor} (ha : a.length ≤ 1000000) : Comes p 31 [worsV a, worsV a] (.bool true) := by
  refine Comes_of w31 rfl rfl k31 ?_ ?_ ?_ ?_
  · simp
  · simp
  · simp
  · simp -dsimp [w31, wFix_by, isInl]
    refine xL_by (by kernel_rfl) (fun k e H => ∃ i : Nat, i ≤ a.length ∧ k = a.length - i ∧ e 0 = worsV a ∧ e 1 = worsV a ∧ e 5 = .int .i64 i) a.length ?_ ?_
    · refine ⟨0, by omega, rfl, ?_⟩
      simp -dsimp
    · rintro k e H ⟨i, hi, hk, h0, h1, h5⟩
      by_cases c1 : i < a.length
      · have g1 : a[i]?.getD default = a[i] := by simp [c1]
        have w2 : IntKind.i64.wrap ((i : Int) + 1) = ((i + 1 : Nat) : Int) := by rw [Fz.w64 (by omega) (by omega)]; omega
        have z : worQ a[i] a[i] = true := by simp [worQ]
        simp -dsimp [h0, h1, h5, wFix_by, isInl, worsV, c1, g1, wOpt, w2, wor_leaves, z]
        refine ⟨a.length - (i + 1), by omega, i + 1, by omega, rfl, ?_⟩
        simp -dsimp [h0, h1, worsV]
      · simp -dsimp [h0, h1, h5, wFix_by, isInl, c1]
theorem spots_self {a : List Spo} (ha : a.length ≤ 1000000) : Comes p 32 [sposV a, sposV a] (.bool true) := by
  refine Comes_of w32 rfl rfl k32 ?_ ?_ ?_ ?_
  · simp
  · simp
  · simp
  · simp -dsimp [w32, wFix_by, isInl]
    refine xL_by (by kernel_rfl) (fun k e H => ∃ i : Nat, i ≤ a.length ∧ k = a.length - i ∧ e 0 = sposV a ∧ e 1 = sposV a ∧ e 5 = .int .i64 i) a.length ?_ ?_
    · refine ⟨0, by omega, rfl, ?_⟩
      simp -dsimp
    · rintro k e H ⟨i, hi, hk, h0, h1, h5⟩
      by_cases c1 : i < a.length
      · have g1 : a[i]?.getD default = a[i] := by simp [c1]
        have w2 : IntKind.i64.wrap ((i : Int) + 1) = ((i + 1 : Nat) : Int) := by rw [Fz.w64 (by omega) (by omega)]; omega
        have z : spoQ a[i] a[i] = true := by simp [spoQ]
        simp -dsimp [h0, h1, h5, wFix_by, isInl, sposV, c1, g1, wOpt, w2, spo_leaves, z]
        refine ⟨a.length - (i + 1), by omega, i + 1, by omega, rfl, ?_⟩
        simp -dsimp [h0, h1, sposV]
      · simp -dsimp [h0, h1, h5, wFix_by, isInl, c1]
theorem same_self {s : St} (hs : StLen s) (hm : by8 s.mem) (ho : by8 s.out) : Comes p 9 [stV s, stV s] (.bool true) := by
  have c1 := ints_self (a := s.data) (by have := hs.data; omega)
  have c2 := slots_self (a := s.ret) (by have := hs.ret; omega)
  have c3 := ints_self (a := s.ctl) (by have := hs.ctl; omega)
  have c4 := words_self (a := s.words) (by have := hs.words; omega)
  have c5 := spots_self (a := s.spots) (by have := hs.spots; omega)
  refine Comes_of w9 rfl rfl k9 ?_ ?_ ?_ ?_
  · simp
  · simp
  · simp
  · simp -dsimp [w9, wFix_by, isInl, call_by c1, call_by c2, call_by c3, call_by c4, call_by c5]
    simp -dsimp [byV, all8 hm, all8 ho]
end Fz.D
set_option maxRecDepth 100000
namespace Fz.D
open Go
structure StTy (s : St) : Prop where
  mem : by8 s.mem
  data : ∀ n ∈ s.data, i64 n
  ret : ∀ x ∈ s.ret, i64 x.v
  ctl : ∀ n ∈ s.ctl, i64 n
  words : ∀ x ∈ s.words, i64 x.code
  spots : ∀ x ∈ s.spots, i64 x.addr ∧ i64 x.at_
  out : by8 s.out
  regs : ∀ n ∈ [s.ip, s.here, s.at_, s.tok, s.in_, s.err], i64 n
structure DeTy (d : De) : Prop where
  mem : ∀ r ∈ d.mem, i64 r.at_ ∧ by8 r.b
  dk : i64 d.dk
  dt : ∀ n ∈ d.dt, i64 n
  rk : i64 d.rk
  rt : ∀ s ∈ d.rt, i64 s.v
  ck : i64 d.ck
  ct : ∀ n ∈ d.ct, i64 n
  wk : i64 d.wk
  wt : ∀ s ∈ d.wt, i64 s.code
  sk : i64 d.sk
  st : ∀ s ∈ d.st, i64 s.addr ∧ i64 s.at_
  out : i64 d.out
  regs : ∀ n ∈ [d.r0, d.r1, d.r2, d.r3, d.r4, d.r5], i64 n
def SloT : Ty := .agg [.int .i64, .bool]
def WorT : Ty := .agg [.str, .int .i64, .bool, .bool]
def SpoT : Ty := .agg [.int .i64, .int .i64]
def RnT : Ty := .agg [.int .i64, .sl (.int .u8)]
def StT : Ty := .agg [.sl (.int .u8), .sl (.int .i64), .sl SloT, .sl (.int .i64), .sl WorT, .sl SpoT, .sl (.int .u8), .int .i64, .int .i64, .int .i64, .int .i64, .int .i64, .int .i64, .bool, .bool]
def DeT : Ty := .agg [.sl RnT, .agg [.int .i64, .sl (.int .i64)], .agg [.int .i64, .sl SloT], .agg [.int .i64, .sl (.int .i64)], .agg [.int .i64, .sl WorT], .agg [.int .i64, .sl SpoT], .int .i64,
  .agg [.int .i64, .int .i64, .int .i64, .int .i64, .int .i64, .int .i64], .bool, .bool]
theorem list_of {α : Type} {T : Ty} {f : α → V} {P : α → Prop} (h : ∀ v, HasT T v → ∃ a, v = f a ∧ P a) {v : V} (hv : HasT (.sl T) v) : ∃ l : List α, v = .list (l.map f) false ∧ ∀ a ∈ l, P a := by
  obtain ⟨vs, rfl, hh⟩ := hv
  have : ∃ l : List α, vs = l.map f ∧ ∀ a ∈ l, P a := by
    induction vs with
    | nil => exact ⟨[], rfl, fun a h => by cases h⟩
    | cons v vs ih =>
      obtain ⟨l, rfl, hl⟩ := ih fun x hx => hh x (List.mem_cons_of_mem _ hx)
      obtain ⟨a, rfl, ha⟩ := h v (hh v (List.mem_cons_self ..))
      refine ⟨a :: l, rfl, fun x hx => ?_⟩
      rcases List.mem_cons.1 hx with rfl | hx
      · exact ha
      · exact hl x hx
  obtain ⟨l, rfl, hl⟩ := this
  exact ⟨l, rfl, hl⟩
theorem u8_of {v : V} (h : HasT (.int .u8) v) : ∃ n, v = V.int .u8 n ∧ (0 ≤ n ∧ n < 256) := by
  obtain ⟨n, rfl, h1, h2⟩ := h
  have h1 : 0 ≤ n := h1
  have h2 : n ≤ 255 := h2
  exact ⟨n, rfl, by omega⟩
theorem i64_of {v : V} (h : HasT (.int .i64) v) : ∃ n, v = V.int .i64 n ∧ i64 n := by
  obtain ⟨n, rfl, h1, h2⟩ := h
  exact ⟨n, rfl, h1, h2⟩
theorem slo_of {v : V} (h : HasT SloT v) : ∃ s, v = sloV s ∧ i64 s.v := by
  obtain ⟨l, rfl, v1, r1, rfl, h1, v2, r2, rfl, ⟨b, rfl⟩, rfl⟩ := h
  obtain ⟨n, rfl, h1'⟩ := i64_of h1
  exact ⟨⟨n, b⟩, rfl, h1'⟩
theorem wor_of {v : V} (h : HasT WorT v) : ∃ s, v = worV s ∧ i64 s.code := by
  obtain ⟨l, rfl, v0, r0, rfl, ⟨s, rfl⟩, v1, r1, rfl, h1, v2, r2, rfl, ⟨b, rfl⟩, v3, r3, rfl, ⟨c, rfl⟩, rfl⟩ := h
  obtain ⟨n, rfl, h1'⟩ := i64_of h1
  exact ⟨⟨s, n, b, c⟩, rfl, h1'⟩
theorem spo_of {v : V} (h : HasT SpoT v) : ∃ s, v = spoV s ∧ (i64 s.addr ∧ i64 s.at_) := by
  obtain ⟨l, rfl, v1, r1, rfl, h1, v2, r2, rfl, h2, rfl⟩ := h
  obtain ⟨n, rfl, h1'⟩ := i64_of h1
  obtain ⟨m, rfl, h2'⟩ := i64_of h2
  exact ⟨⟨n, m⟩, rfl, h1', h2'⟩
theorem by_of {v : V} (h : HasT (.sl (.int .u8)) v) : ∃ b, v = byV b ∧ by8 b := list_of (fun _ h => u8_of h) h
theorem in_of {v : V} (h : HasT (.sl (.int .i64)) v) : ∃ b, v = inV b ∧ ∀ n ∈ b, i64 n := list_of (fun _ h => i64_of h) h
theorem st_of {v : V} (h : HasT StT v) : ∃ s, v = stV s ∧ StTy s := by
  obtain ⟨l, rfl, v1, r1, rfl, h1, v2, r2, rfl, h2, v3, r3, rfl, h3, v4, r4, rfl, h4, v5, r5, rfl, h5, v6, r6, rfl, h6, v7, r7, rfl, h7, v8, r8, rfl, h8, v9, r9, rfl, h9, v10, r10, rfl, h10, v11, r11, rfl, h11, v12, r12, rfl, h12, v13, r13, rfl, h13, v14, r14, rfl, ⟨b1, rfl⟩, v15, r15, rfl, ⟨b2, rfl⟩, rfl⟩ := h
  obtain ⟨a1, rfl, h1'⟩ := by_of h1
  obtain ⟨a2, rfl, h2'⟩ := in_of h2
  obtain ⟨a3, rfl, h3'⟩ := list_of (fun _ h => slo_of h) h3
  obtain ⟨a4, rfl, h4'⟩ := in_of h4
  obtain ⟨a5, rfl, h5'⟩ := list_of (fun _ h => wor_of h) h5
  obtain ⟨a6, rfl, h6'⟩ := list_of (fun _ h => spo_of h) h6
  obtain ⟨a7, rfl, h7'⟩ := by_of h7
  obtain ⟨n8, rfl, h8'⟩ := i64_of h8
  obtain ⟨n9, rfl, h9'⟩ := i64_of h9
  obtain ⟨n10, rfl, h10'⟩ := i64_of h10
  obtain ⟨n11, rfl, h11'⟩ := i64_of h11
  obtain ⟨n12, rfl, h12'⟩ := i64_of h12
  obtain ⟨n13, rfl, h13'⟩ := i64_of h13
  refine ⟨⟨a1, a2, a3, a4, a5, a6, a7, n8, n9, n10, n11, n12, n13, b1, b2⟩, rfl, ⟨h1', h2', h3', h4', h5', h6', h7', ?_⟩⟩
  intro n hn
  simp only [List.mem_cons, List.not_mem_nil, or_false] at hn
  rcases hn with rfl | rfl | rfl | rfl | rfl | rfl <;> assumption
end Fz.D
set_option maxRecDepth 100000
namespace Fz.D
open Go Go.Proofs Go.Proofs.YtnngbniomonabaaDoor Go.ChangeShapes Go.WideShapes Go.ChangeAt Go.RowKit
def nr (af : AFun) : Bool := !hasR af.code && match af.dfr with
  | some (pre, _, _, r) => pre.all (fun c => !hasR c) && !hasR r
  | none => true
theorem rOkF_of {q : AP} {af : AFun} (h : nr af = true) : rOkF q af := by
  unfold nr at h
  rw [Bool.and_eq_true, Bool.not_eq_true'] at h
  refine ⟨rOk_of _ h.1, fun x hx => ?_⟩
  obtain ⟨pre, a, b, r⟩ := x
  rw [hx] at h
  simp only [Bool.and_eq_true, List.all_eq_true, Bool.not_eq_true'] at h
  exact ⟨fun c hc => rOk_of _ (h.2.1 c hc), rOk_of _ h.2.2⟩
theorem tab_nr : tab.all (fun x => x.1 == 18 || (x.1 == 16 || (x.1 == 7 || (x.1 == 22 || nr x.2)))) = true := by kernel_rfl
theorem rng_ok (f : FuncId) (af : AFun) (h : p.fn f = some af) : rOkF p af := by
  by_cases hf : f = 18
  · subst hf
    have e : p.fn 18 = some w18.toA := rfl
    rw [e] at h
    cases h
    refine ⟨?_, fun x hx => by cases hx⟩
    simp only [WF.toA, w18, toA, rOk, true_and, and_true]
    exact ⟨bd180, rfl, rfl, rfl, rfl⟩
  have hdeltaDiff := hf
  clear hf
  by_cases hf : f = 16
  · subst hf
    have e : p.fn 16 = some w16.toA := rfl
    rw [e] at h
    cases h
    refine ⟨?_, fun x hx => by cases hx⟩
    simp only [WF.toA, w16, toA, rOk, true_and, and_true]
    exact ⟨bd160, rfl, rfl, rfl, rfl⟩
  have hrlePut := hf
  clear hf
  by_cases hf : f = 7
  · subst hf
    have e : p.fn 7 = some w7.toA := rfl
    rw [e] at h
    cases h
    refine ⟨?_, fun x hx => by cases hx⟩
    simp only [WF.toA, w7, toA, rOk, true_and, and_true]
    exact ⟨bd70, rfl, rfl, rfl, rfl⟩
  have hsnapPut := hf
  clear hf
  by_cases hf : f = 22
  · subst hf
    have e : p.fn 22 = some w22.toA := rfl
    rw [e] at h
    cases h
    refine ⟨?_, fun x hx => by cases hx⟩
    simp only [WF.toA, w22, toA, rOk, true_and, and_true]
    exact ⟨bd220, rfl, rfl, rfl, rfl⟩
  have hsnapmemory := hf
  clear hf
  have := List.all_eq_true.1 tab_nr _ (lk_mem _ _ _ h)
  simp only [Bool.or_eq_true, beq_iff_eq] at this
  rcases this with h1 | h1 | h1 | h1 | h1
  · exact absurd h1 hdeltaDiff
  · exact absurd h1 hrlePut
  · exact absurd h1 hsnapPut
  · exact absurd h1 hsnapmemory
  · exact rOkF_of h1
theorem apOk : APOk Tryd.prog p where
  mixed := by kernel_rfl
  fn f af h := tab_ok _ (lk_mem _ _ _ h)
  prim f g h args H v H' hv K β w cargs _ hI ha := by
    have h : (if f = 89 then some rowP else none) = some g := h
    split at h
    · rename_i e; subst e; cases h
      exact row_ok (t := 22) (e := 5) Tryd.func89 (by kernel_rfl) (by kernel_rfl) (by kernel_rfl) Tryd.underlying22 (fun a => ⟨Tryd.f89.params, by kernel_rfl⟩) args H v H' hv K β w cargs hI ha (by decide)
    · cases h
  rng := rng_ok
  bods := bods_ok
theorem bulkOk : Bulk (fun {_} => Rows.uptoBulk) (fun {_} => Rows.uptoBulkAll) where
  lit b := by simp [Rows.uptoBulk]
  pos d := by
    cases d with
    | lit l => cases l <;> simp [Rows.uptoBulk]
    | _ => simp [Rows.uptoBulk]
  agg l := by simp [Rows.uptoBulk]
  slice l m := by simp [Rows.uptoBulk]
  nil := by simp [Rows.uptoBulkAll]
  cons d l := by simp [Rows.uptoBulkAll]
theorem own : ownKnob Tryd.prog.godebug = none := by kernel_rfl
theorem laidOut : laidOutB Tryd.prog = true := by kernel_rfl
theorem frz_bool {k : Nat} {u u' : V} {b : Bool} {H H' : List Ob} (h : freezeV k u H = some (u', H')) (hn : nrm u' = .bool b) : u = .bool b := by
  cases k with
  | zero => cases h
  | succ k =>
    have hu : ∀ x, nrm x = .bool b → x = .bool b := by
      intro x hx
      cases x <;> first | (rw [nr_bool] at hx; exact hx) | (simp [nrm] at hx)
    have := hu u' hn
    subst this
    cases u with
    | bool c => simp [freezeV] at h; rw [h.1]
    | own a b c d => exfalso; simp only [freezeV] at h; repeat' split at h
                     all_goals first | (cases h; done) | simp at h
    | mref a => exfalso; simp only [freezeV] at h; repeat' split at h
                all_goals first | (cases h; done) | simp at h
    | agg l => simp only [freezeV] at h; obtain ⟨x, _, h⟩ := Option.map_eq_some_iff.1 h; simp at h
    | tuple l => simp only [freezeV] at h; obtain ⟨x, _, h⟩ := Option.map_eq_some_iff.1 h; simp at h
    | _ => simp [freezeV] at h
theorem done {f : FuncId} {args : List V} (h : Comes p f args (.bool true)) (hi : p.inlY f = false) : ∃ n H', acall p n f args [] = some (.ret (.bool true), H') := by
  obtain ⟨_, _, _, n, u, H', h3, h4⟩ := h
  rcases h4 with ⟨h4, rfl⟩ | ⟨_, u', H'', h5, h6⟩
  · rw [hi] at h4; cases h4
  · exact ⟨n, H', by rw [h3, frz_bool h5 h6]⟩
end Fz.D
set_option maxRecDepth 100000
namespace Go.Proofs.YtnngbniomonabaaDoor
open Fz Fz.D Go.ChangeShapes Go.WideShapes Go.ChangeAt Go.RowKit
def seatLaid : List (String × DataW Unit) := [("unicode/utf8.acceptRanges", Rows.laid_unicode_utf8_acceptRanges), ("unicode/utf8.first", Rows.laid_unicode_utf8_first)]
theorem glob_seat {W : World} (_ : laidMetH Tryd.prog seatLaid W) : GlobW W := by intro g l h; cases h
theorem door_met (os : Os) (args : Array Value) : laidMetH Tryd.prog seatLaid ((World.laidAll Tryd.prog os seatLaid).forCall (fun _ _ => 0) ⟨#[], args, []⟩).memory := by
  rw [MakeChecks.laidMetH_plain _ _ _ (by kernel_rfl)]
  exact laidMet_laidAll _ (by kernel_rfl) (by kernel_rfl)
end Go.Proofs.YtnngbniomonabaaDoor
set_option maxRecDepth 100000
namespace Fz.D
open Go
def rcount (c : Int) : List Int → Nat
  | [] => 0
  | x :: r => if x = c then rcount c r + 1 else 0
theorem rcount_le (c : Int) : ∀ l : List Int, rcount c l ≤ l.length
  | [] => Nat.le_refl _
  | x :: r => by
    have := rcount_le c r
    unfold rcount
    split <;> simp <;> omega
theorem rcount_at {b : List Int} {c : Int} {j : Nat} (h : j < b.length) : rcount c (b.drop j) = if b[j] = c then rcount c (b.drop (j + 1)) + 1 else 0 := by
  rw [List.drop_eq_getElem_cons h, rcount]
theorem rcount_end {b : List Int} {c : Int} {j : Nat} (h : ¬ j < b.length) : rcount c (b.drop j) = 0 := by
  rw [List.drop_eq_nil_of_le (by omega)]; rfl
def rleK : Nat → List Int → List Int
  | 0, _ => []
  | _ + 1, [] => []
  | k + 1, c :: r => encN (rcount c (c :: r) : Nat) ++ c :: rleK k ((c :: r).drop (rcount c (c :: r)))
def rleF (b : List Int) : List Int := rleK b.length b
theorem rleK_nil (k : Nat) : rleK k [] = [] := by cases k <;> rfl
theorem encN_le {n : Nat} (h : n ≤ 1000000) : (encN (n : Int)).length ≤ 65 := encN_len (by unfold i64; omega)
end Fz.D
set_option maxRecDepth 100000
namespace Fz.D
open Go
theorem trimB_s {b : List Int} {c : Int} (hb : b.length ≤ 100000) : Comes p 84 [byV b, .int .u8 c] (byV (b.drop (rcount c b))) := by
  refine Comes_of w84 rfl rfl k84 ?_ ?_ ?_ ?_
  · simp
  · simp
  · simp
  · simp -dsimp [w84, wFix_by, isInl]
    refine xL_by (by kernel_rfl) (fun k e H => ∃ (i : Nat) (l : List Int), i ≤ b.length ∧ k = b.length - i ∧ l = b.drop i ∧ e 0 = .list (l.map (V.int .u8)) false ∧ e 1 = .int .u8 c ∧ H = [] ∧ i + rcount c l = rcount c b) b.length ?_ ?_
    · refine ⟨0, b, by omega, rfl, by simp, ?_⟩
      simp -dsimp [byV]
    rintro k e H ⟨i, l, hi, hk, hl, h0, h1, rfl, hr⟩
    cases l with
    | nil =>
      simp -dsimp [h0, h1]
      have e1 : b.drop (rcount c b) = [] := by rw [← hr, ← List.drop_drop, ← hl]; rfl
      rw [e1, wFix_by (by simp [isInl])]
      simp -dsimp [byV]
    | cons x l =>
      have hlen : i < b.length := by
        have := congrArg List.length hl
        simp at this; omega
      have hl1 : l = b.drop (i + 1) := by rw [← List.drop_drop, ← hl]; rfl
      by_cases hx : x = c
      · rw [rcount, if_pos hx] at hr
        simp -dsimp [h0, h1, hx]
        refine ⟨b.length - (i + 1), by omega, i + 1, l, by omega, rfl, hl1, ?_⟩
        simp -dsimp [h0, h1, hx]
        omega
      · rw [rcount, if_neg hx] at hr
        simp -dsimp [h0, h1, hx]
        have hi' : rcount c b = i := by omega
        rw [if_neg (by omega), wFix_by (by simp [isInl]), hi', ← hl]
        simp -dsimp [byV]
theorem trim_s {b : List Int} (hb : b.length ≤ 100000) : Comes p 72 [byV b, .str ⟨#[0]⟩] (byV (b.drop (rcount 0 b))) := by
  have c := trimB_s (c := 0) hb
  refine Comes_of w72 rfl rfl k72 ?_ ?_ ?_ ?_
  · simp
  · simp
  · simp
  · cases b with
    | nil =>
      simp -dsimp [w72, wFix_by, isInl, byV]
    | cons x l =>
      generalize (x :: l).drop (rcount 0 (x :: l)) = L at *
      unfold byV at c
      rw [List.map_cons] at c
      have h3 : (ByteArray.mk #[0]).size = 1 := rfl
      have h1 : ¬ ((l.length : Int) + 1 = 0) := by omega
      have h2 : (ByteArray.mk #[0] == ByteArray.mk #[]) = false := by decide
      simp -dsimp [w72, wFix_by, isInl, byV, h1, h3, call_by c]
end Fz.D
set_option maxRecDepth 100000
namespace Fz.D
open Go
theorem mul64_s {n : Nat} (hn : n ≤ 100000) : Comes p 98 [.int .u64 1, .int .u64 n] (.tuple [.int .u64 0, .int .u64 n]) := by
  refine Comes_of w98 rfl rfl k98 ?_ ?_ ?_ ?_
  · simp
  · simp
  · simp
  · simp -dsimp [w98, wFix_by, isInl]
    have f0 : (2 ^ min 32 IntKind.u64.bits : Int) = 4294967296 := rfl
    have f1 : Int.fdiv 1 4294967296 = 0 := rfl
    have f2 : Int.fdiv (n : Int) 4294967296 = 0 := by rw [Int.fdiv_eq_ediv_of_nonneg _ (by omega)]; omega
    have f3 : n % 2 ^ IntKind.u64.bits &&& 4294967295 % 2 ^ IntKind.u64.bits = n := by
      show n % 18446744073709551616 &&& 4294967295 = n
      rw [Nat.mod_eq_of_lt (by omega), show 4294967295 = 2 ^ 32 - 1 from rfl, Nat.and_two_pow_sub_one_eq_mod]
      omega
    have f4 : 1 % 2 ^ IntKind.u64.bits &&& 4294967295 % 2 ^ IntKind.u64.bits = 1 := by decide
    have f5 : IntKind.u64.wrap (n : Int) = n := IntWalk.u64_in n ⟨by omega, by omega⟩
    have f6 : IntKind.u64.wrap 0 = 0 := rfl
    have f7 : IntKind.u64.wrap ((1 : Nat) : Int) = 1 := rfl
    have f8 : Int.fdiv 0 4294967296 = 0 := rfl
    have f9 : (0 % 2 ^ IntKind.u64.bits : Int).toNat = 0 := rfl
    rw [f0, f1, f2, f3, f4, f5, f7]
    simp only [Int.zero_mul, Int.one_mul, Int.mul_zero, f6, f5, f2, Int.zero_add, Int.add_zero, f8, f9, Nat.zero_and, Int.natCast_zero, Int.ofNat_zero, and_self]
theorem mul_s {n : Nat} (hn : n ≤ 100000) : Comes p 88 [.int .u64 1, .int .u64 n] (.tuple [.int .u64 0, .int .u64 n]) := by
  have c := mul64_s hn
  have f5 : IntKind.u64.wrap (n : Int) = n := IntWalk.u64_in n ⟨by omega, by omega⟩
  have f6 : IntKind.u64.wrap 0 = 0 := rfl
  refine Comes_of w88 rfl rfl k88 ?_ ?_ ?_ ?_
  · simp
  · simp
  · simp
  · simp -dsimp [w88, wFix_by, isInl, call_by c, f5, f6]
theorem ren_any (g : Nat → Nat) : ∀ n, renL g (List.replicate n V.any) = List.replicate n V.any
  | 0 => rfl
  | n + 1 => by rw [List.replicate_succ, renL, ren_any g n]; rfl
theorem refs_any : ∀ n, refsL (List.replicate n V.any) = []
  | 0 => rfl
  | n + 1 => by rw [List.replicate_succ, refsL, refs_any n]; rfl
theorem row_call {n : Nat} (hn : n ≤ 100000) {H : List Ob} {Q : CR → List Ob → Prop} (hq : Q (.ret (.own H.length 0 n 1)) (H ++ [.live (List.replicate n .any)])) : xCall p 89 [.int .i64 n] H Q := by
  refine WCall_inl (ids := []) rfl rfl ?_
  have e : acall p 1 89 [.int .i64 n] [] = some (.ret (.own 0 0 n 1), [.live (List.replicate n .any)]) := by
    have h1 : p.prim 89 = some rowP := rfl
    have h2 : rowP [.int .i64 (n : Int)] [] = some (.own 0 0 n 1, [.live (List.replicate n .any)]) := by
      show (if (0 : Int) ≤ n ∧ (n : Int) ≤ 281474976710656 then some (V.own 0 0 (n : Int).toNat 1, ([] : List Ob) ++ [Ob.live (List.replicate (n : Int).toNat V.any)]) else none) = _
      rw [if_pos (by omega)]
      rfl
    simp only [acall, callW, if_neg (show 89 ≠ YF by decide), h1, h2, Option.map_some]
  refine ⟨1, _, _, e, by simp, ?_⟩
  have k0 : backK [] H.length 0 = H.length := by simp [backK]
  simp [backH, setAll, renOb, ren, renR, crV, refs, refsL, k0, ren_any, refs_any]
  exact hq
end Fz.D
set_option maxRecDepth 100000
namespace Fz.D
open Go
theorem rep_s {c : Int} {n : Nat} (h1 : 1 ≤ n) (hn : n ≤ 8192) : Comes p 78 [byV [c], .int .i64 n] (byV (List.replicate n c)) := by
  have m := mul_s (n := n) (by omega)
  have f1 : ¬ (n : Int) = 0 := by omega
  have f2 : ¬ (n : Int) < 0 := by omega
  have f3 : ¬ (9223372036854775807 : Int) < n := by omega
  have f4 : ¬ (8192 : Int) < n := by omega
  have f5 : IntKind.u64.wrap (n : Int) = n := IntWalk.u64_in n ⟨by omega, by omega⟩
  have f6 : IntKind.i64.wrap (n : Int) = n := Fz.w64 (by omega) (by omega)
  have f7 : IntKind.u64.wrap 1 = 1 := rfl
  refine Comes_of w78 rfl rfl k78 ?_ ?_ ?_ ?_
  · simp
  · simp
  · simp
  · simp -dsimp [w78, wFix_by, isInl, byV, f1, f2, f3, f4, f5, f6, f7, call_by m]
    intro _
    refine row_call (n := n) (by omega) ?_
    have f8 : ¬ n = 0 := by omega
    simp -dsimp [f1, f2, f3, f4, f8]
    refine ⟨by intro x hx; have := List.mem_of_mem_take hx; simp at this; subst this; rfl, ?_⟩
    refine xL_by (by kernel_rfl) (fun k e H => ∃ bp : Nat, 1 ≤ bp ∧ bp ≤ n ∧ k = n - bp ∧ e 7 = .int .i64 n ∧ e 8 = .int .i64 n ∧ e 9 = .own 0 0 n 1 ∧ e 10 = .int .i64 bp ∧ H = [.live (List.replicate bp (.int .u8 c) ++ List.replicate (n - bp) .any)]) (n - 1) ?_ ?_
    · refine ⟨1, by omega, by omega, rfl, ?_⟩
      have f9 : Nat.min 1 n = 1 := Nat.min_eq_left h1
      simp -dsimp [f9]
    rintro k e H ⟨bp, b1, b2, hk, h7, h8, h9, h10, rfl⟩
    by_cases c1 : bp < n
    · have c2 : ¬ n < bp := by omega
      have c3 : ¬ n = bp := by omega
      simp -dsimp [h7, h8, h9, h10, c1, c2, c3]
      obtain ⟨q, hq⟩ : ∃ q, q = min (n - bp) bp := ⟨_, rfl⟩
      refine ⟨by omega, n - (bp + q), by omega, bp + q, by omega, by omega, rfl, ?_⟩
      simp -dsimp [h7, h8, h9, h10, c1, c2, c3]
      have hq2 : bp.min (n - bp) = q := by rw [hq]; exact Nat.min_comm _ _
      have hq3 : min bp (n - bp) = q := by rw [hq]; exact Nat.min_comm _ _
      rw [hq2, hq3]
      refine ⟨by rw [Fz.w64 (by omega) (by omega)], ?_⟩
      rw [List.drop_append, List.drop_eq_nil_of_le (by simp), List.nil_append, List.length_replicate, List.drop_replicate, show n - bp - (bp + q - bp) = n - (bp + q) from by omega]
    · have hb : bp = n := by omega
      subst hb
      simp -dsimp [h7, h8, h9, h10, c1, wFix_by, isInl]
end Fz.D
set_option maxRecDepth 100000
namespace Fz.D
open Go
theorem few_len {s : St} (h : fewB s = true) : s.mem.length ≤ 600 ∧ s.data.length ≤ 40 ∧ s.ret.length ≤ 40 ∧ s.ctl.length ≤ 200 ∧ s.words.length ≤ 40 ∧ s.spots.length ≤ 100 ∧ s.out.length ≤ 200 ∧ ∀ w ∈ s.words, w.name.size ≤ 60 := by
  unfold fewB at h
  simp only [Bool.and_eq_true, decide_eq_true_eq, List.all_eq_true] at h
  obtain ⟨h0, h1, h2, h3, h4, h5, h6, h7⟩ := h
  exact ⟨h1, h2, h3, h4, h5, h6, h7, fun w hw => h0 w (by rw [List.take_of_length_le (by omega)]; exact hw)⟩
theorem few_st {s : St} (h : fewB s = true) : StLen s := by
  obtain ⟨h1, h2, h3, h4, h5, h6, h7, _⟩ := few_len h
  constructor <;> omega
theorem rn_ok {a : List Int} (ha : by8 a) {s i : Nat} (hs : s ≤ a.length) : (0 ≤ (rn a s i).at_ ∧ (rn a s i).at_ ≤ a.length) ∧ (rn a s i).b.length ≤ a.length ∧ by8 (rn a s i).b := by
  refine ⟨⟨by simp [rn], by simp [rn]; omega⟩, ?_, fun x hx => ha x (List.mem_of_mem_drop (List.mem_of_mem_take hx))⟩
  simp [rn]; omega
theorem fin_ok {a b : List Int} (ha : by8 a) : ∀ i, i ≤ a.length → ∀ r ∈ fin a (G a b i) i, (0 ≤ r.at_ ∧ r.at_ ≤ a.length) ∧ r.b.length ≤ a.length ∧ by8 r.b
  | 0, _, r, hr => by simp [fin, G] at hr
  | i + 1, hi, r, hr => by
    have ih := fin_ok ha (b := b) i (by omega)
    have hle := G_le a b i
    by_cases h : gt a i = gt b i
    · rw [fin_same h] at hr; exact ih r hr
    · rw [fin_more h] at hr
      rcases List.mem_append.1 hr with hr | hr
      · exact ih r (by unfold fin; split <;> simp [hr])
      · rw [List.mem_singleton.1 hr]; exact rn_ok ha (by omega)
theorem runs_ok {a b : List Int} (ha : by8 a) : ∀ r ∈ runsF a b, (0 ≤ r.at_ ∧ r.at_ ≤ a.length) ∧ r.b.length ≤ a.length ∧ by8 r.b := fin_ok ha a.length (Nat.le_refl _)
theorem diff_ok {f t : St} (tf : StTy f) (hf : fewB f = true) (ht : fewB t = true) : DeOk (diffD f t) := by
  obtain ⟨f1, f2, f3, f4, f5, f6, f7, f8⟩ := few_len hf
  obtain ⟨t1, t2, t3, t4, t5, t6, t7, _⟩ := few_len ht
  have l1 := (shr_le (q := inQ) f.data t.data).1
  have l2 := (shr_le (q := sloQ) f.ret t.ret).1
  have l3 := (shr_le (q := inQ) f.ctl t.ctl).1
  have l4 := (shr_le (q := worQ) f.words t.words).1
  have l5 := (shr_le (q := spoQ) f.spots t.spots).1
  have ll : (runsF f.mem t.mem).length ≤ f.mem.length := fin_len _ _ _
  constructor
  · intro r hr
    have := runs_ok tf.mem r hr
    unfold i64
    omega
  · exact Nat.le_trans ll (by omega)
  · show i64 (shr inQ f.data t.data : Nat); unfold i64; omega
  · exact fun n hn => tf.data n (List.mem_of_mem_drop hn)
  · show (f.data.drop _).length ≤ _; simp; omega
  · show i64 (shr sloQ f.ret t.ret : Nat); unfold i64; omega
  · exact fun n hn => tf.ret n (List.mem_of_mem_drop hn)
  · show (f.ret.drop _).length ≤ _; simp; omega
  · show i64 (shr inQ f.ctl t.ctl : Nat); unfold i64; omega
  · exact fun n hn => tf.ctl n (List.mem_of_mem_drop hn)
  · show (f.ctl.drop _).length ≤ _; simp; omega
  · show i64 (shr worQ f.words t.words : Nat); unfold i64; omega
  · exact fun n hn => ⟨tf.words n (List.mem_of_mem_drop hn), by rw [nmB_len]; have := f8 n (List.mem_of_mem_drop hn); omega⟩
  · show (f.words.drop _).length ≤ _; simp; omega
  · show i64 (shr spoQ f.spots t.spots : Nat); unfold i64; omega
  · exact fun n hn => tf.spots n (List.mem_of_mem_drop hn)
  · show (f.spots.drop _).length ≤ _; simp; omega
  · show i64 ((t.out.length : Int) - f.out.length); unfold i64; omega
  · exact tf.regs
theorem diff_by {f t : St} (tf : StTy f) : ∀ r ∈ (diffD f t).mem, by8 r.b := fun r hr => (runs_ok tf.mem r hr).2.2
theorem stF (s : St) : V.agg (cellsOf (stV s)) = stV s := rfl
theorem deF (d : De) : V.agg (cellsOf (deV d)) = deV d := rfl
end Fz.D
set_option maxRecDepth 100000
namespace Fz.D
open Go
theorem zeros_gd {z : List V} (h : groundL z = true) : ∀ k, groundL (zeros z k) = true
  | 0 => rfl
  | k + 1 => by
    rw [zeros, groundL_eq, List.all_append, ← groundL_eq, ← groundL_eq, h, zeros_gd h k]; rfl
theorem zeros_len {z : List V} : ∀ k, (zeros z k).length = k * z.length
  | 0 => by simp [zeros]
  | k + 1 => by rw [zeros, List.length_append, zeros_len k, Nat.succ_mul]; omega
def totA {α : Type} (ls : List (List α)) : Nat := (ls.map List.length).sum
theorem totA_take {α : Type} (ls : List (List α)) (i : Nat) : totA (ls.take i) ≤ totA ls := by
  unfold totA
  conv => rhs; rw [← List.take_append_drop i ls]
  rw [List.map_append, List.sum_append]; omega
theorem totA_succ {α : Type} (ls : List (List α)) (i : Nat) (h : i < ls.length) : totA (ls.take (i + 1)) = totA (ls.take i) + ls[i].length := by
  unfold totA
  rw [List.take_succ_eq_append_getElem h, List.map_append, List.sum_append]; simp
def catA {α : Type} (ls : List (List α)) : List α := ls.flatten
@[simp] theorem catA_nil {α : Type} : catA ([] : List (List α)) = [] := rfl
theorem catA_len {α : Type} (ls : List (List α)) : (catA ls).length = totA ls := by
  unfold totA catA; rw [List.length_flatten]
theorem catA_succ {α : Type} (ls : List (List α)) (i : Nat) (h : i < ls.length) : catA (ls.take (i + 1)) = catA (ls.take i) ++ ls[i] := by
  unfold catA
  rw [List.take_succ_eq_append_getElem h, List.flatten_append]; simp
theorem frz_acg (b : Nat) {H : List Ob} {n k : Nat} {v : V} {l : List V} {K : V → List Ob → Prop} (ha : Ac n b (H.drop b) v l) (hg : (flat l).all (gk k) = true)
    (hl : (n = 1 ∧ l.all leafy = true) ∨ (n ≠ 1 ∧ ∀ v ∈ l, ∃ c, v = .agg c)) (hK : ∀ H', H'.take b = H.take b → H'.length = H.length → K (.list (l.map nrm) false) H') : xFrz (k + 1) v H K := by
  obtain ⟨h1, h2, h3⟩ := ha
  rcases h3 with ⟨rfl, rfl⟩ | ⟨j, cells, rfl, h4, h5, h6⟩
  · rw [frz_gk (by rw [gk_list]; rfl)]
    exact hK H rfl rfl
  · rw [List.getElem?_drop] at h4
    rw [frz_own, wOb_at h4]
    refine ⟨⟨by omega, h2⟩, ?_⟩
    rw [wVal_eq, wSetOb_eq]
    have e1 : (cells.drop 0).take (l.length * n) = flat l := by rw [List.drop_zero, h6]
    rw [e1, frzL_gk hg, wVal_eq]
    have e3 : ∀ H', (H.set (b + j) (.fixed cells)) = H' → H'.take b = H.take b ∧ H'.length = H.length := by
      rintro H' rfl
      refine ⟨?_, by simp⟩
      rw [List.take_set_of_le (by omega)]
    obtain ⟨q1, q2⟩ := e3 _ rfl
    generalize H.set (b + j) (.fixed cells) = H' at q1 q2 ⊢
    rcases hl with ⟨rfl, hl⟩ | ⟨hn, hl⟩
    · rw [wChunk_one]
      obtain ⟨f1, _⟩ := flat_leafy hl
      rw [f1]
      refine ⟨by rw [leafy_nrm]; exact hl, ?_⟩
      show K _ _
      rw [List.take_of_length_le (by simp)]
      exact hK _ q1 q2
    · refine ⟨.inl hn, ?_⟩
      have : chunk n l.length ((flat l).map nrm) = l.map nrm := by
        rw [← chunk_nrm]
        unfold chunk
        rw [if_neg hn, chunk_of h1 hn hl]
      rw [this]
      exact hK _ q1 q2
theorem acg_back {b m n : Nat} {g : Nat → Nat} {J : List Ob} {id len : Nat} {l : List V} (hg : ∀ j, g (b + j) = m + j) (hl : groundL (flat l) = true) (h : Ac n b J (.own id 0 len n) l) : Ac n m (J.map (renOb g)) (.own (g id) 0 len n) l := by
  obtain ⟨h1, h2, h3⟩ := h
  refine ⟨h1, h2, ?_⟩
  rcases h3 with ⟨_, h3⟩ | ⟨j, cells, h3, h4, h5, h6⟩
  · cases h3
  · cases h3
    refine .inr ⟨j, renL g cells, by rw [hg], by rw [List.getElem?_map, h4]; rfl, by rw [renL_eq, List.length_map (f := ren g)]; exact h5, ?_⟩
    rw [renL_eq, ← List.map_take, h6, ← renL_eq, groundL_ren g _ hl]
theorem grow_int {n : Int} {H : List Ob} {Q : CR → List Ob → Prop} (h0 : 0 ≤ n) (h1 : n ≤ 10000000) (hq : ∀ v J, Ac 1 H.length J v [] → Q (.ret v) (H ++ J)) : WCall p 90 [.list [] true, .int .i64 n] H Q := by
  have hr : reach H 1000 (refsL [.list [] true, .int .i64 n]) [] = some [] := rfl
  refine WCall_inl (by kernel_rfl) hr ?_
  refine WFun_of w90 rfl rfl k90 ?_
  have e0 : IntKind.i64.wrap n = n := Fz.w64 (by omega) (by omega)
  have z0 : IntKind.i64.wrap 0 = 0 := Fz.w64 (by omega) (by omega)
  have none : Q (renR (backK [] H.length) (CR.ret (V.list [] true))) (backH [] (CR.ret (V.list [] true)) [] H) := by
    have := hq (.list [] true) [] (ac_nil (by decide))
    simpa [renR, ren, renL, backH, crV, refs, refsL, setAll] using this
  by_cases hn : n = 0
  · subst hn
    simp -dsimp [w90, renL, ren]
    have e1 : IntKind.i64.wrap (-IntKind.i64.wrap 0) = 0 := by rw [z0]; exact z0
    rw [e1, if_neg (by omega)]
    exact none
  · have hp : 0 < n := by omega
    have hz : ¬ n < 0 := by omega
    simp -dsimp [w90, renL, ren, e0, hp, hz]
    have e1 : IntKind.i64.wrap (n - IntKind.i64.wrap 0) = n := by rw [z0, Int.sub_zero]; exact e0
    rw [e1, if_pos hp]
    have hl : (zeros [V.int .i64 0] n.toNat).length = n.toNat * 1 := zeros_len _
    first
    | (refine ⟨⟨h0, by omega, by omega⟩, ?_⟩
       rw [if_neg (by omega)]
       refine ⟨⟨hl, by simp [capOk]; omega⟩, ?_⟩)
    | (rw [if_neg (by omega)]
       refine ⟨⟨h0, by omega, by omega⟩, by simp [capOk]; omega, ?_⟩)
    | (refine ⟨⟨h0, by omega, by omega⟩, ?_⟩
       rw [if_neg (by omega)]
       refine ⟨by simp [capOk]; omega, ?_⟩)
    have := hq (.own H.length 0 0 1) [.live (zeros [V.int .i64 0] n.toNat)] ⟨rfl, by decide, .inr ⟨0, _, rfl, rfl, by simp, by simp [flat]⟩⟩
    have e2 : renOb (backK [] H.length) (.live (zeros [V.int .i64 0] n.toNat)) = .live (zeros [V.int .i64 0] n.toNat) := by
      rw [renOb, groundL_ren _ _ (zeros_gd (by simp) _)]
    try rw [show List.replicate n.toNat (V.int .i64 0) = zeros [V.int .i64 0] n.toNat from by simp]
    simp only [renR, ren, renL, backH, crV, refs, refsL, setAll, List.take_zero, List.flatMap_nil, List.append_nil, List.length_nil, List.any_cons, List.map_nil, List.drop_zero, List.map_cons, e2, List.any_nil]
    simpa [backK] using this
theorem concat_own_int {ls : List (List Int)} (ht : totA ls ≤ 10000000) (hl : ls.length ≤ 1000000) {Q : CR → List Ob → Prop} (hq : ∀ v J, Ac 1 1 J v ((catA ls).map (V.int .i64)) → Q (.ret v) (.live (ls.map inV) :: J)) :
    WFun p 79 [.own 0 0 ls.length 1] [.live (ls.map inV)] Q := by
  refine WFun_of w79 rfl rfl k79 ?_
  simp -dsimp [w79]
  refine xL_by (by kernel_rfl) (fun k e H => ∃ i : Nat, i ≤ ls.length ∧ k = ls.length - i ∧ e 0 = .own 0 0 ls.length 1 ∧ e 9 = .own 0 0 ls.length 1 ∧ e 10 = .int .i64 ls.length ∧ e 11 = .int .i64 i ∧ e 3 = .int .i64 (totA (ls.take i)) ∧ H = [.live (ls.map inV)]) ls.length ?_ ?_
  · exact ⟨0, by simp [totA]⟩
  · rintro k e H ⟨i, hi, hk, h0, h9, h10, h11, h3, rfl⟩
    have t1 := totA_take ls i
    simp -dsimp [h0, h9, h10, h11, h3]
    split
    · rename_i hlt
      have t2 := totA_succ ls i hlt
      have t3 := totA_take ls (i + 1)
      have d1 : List.take 1 (List.drop i (ls.map inV)) = [inV ls[i]] := by
        rw [List.drop_eq_getElem_cons (by simpa using hlt)]; simp
      have w1 : IntKind.i64.wrap (((totA (ls.take i) : Nat) : Int) + ((ls[i].length : Nat) : Int)) = ((totA (ls.take (i + 1)) : Nat) : Int) := by rw [Fz.w64 (by omega) (by omega)]; omega
      have w2 : IntKind.i64.wrap ((i : Int) + 1) = ((i + 1 : Nat) : Int) := by rw [Fz.w64 (by omega) (by omega)]; omega
      refine ⟨hlt, by omega, ?_⟩
      rw [d1]
      simp -dsimp [h0, h9, h10, h11, h3, w1, w2]
      refine ⟨ls.length - (i + 1), by omega, i + 1, by omega, rfl, ?_⟩
      simp -dsimp [h0, h9, h10]
    · rename_i hge
      have hii : i = ls.length := by omega
      subst hii
      rw [List.take_length] at h3 ⊢
      refine grow_int (by omega) (by omega) fun v J hac => ?_
      simp -dsimp [h0, h9, h10, h11, h3]
      refine xL_by (by kernel_rfl) (fun k e H => ∃ (i : Nat) (v : V) (J : List Ob), i ≤ ls.length ∧ k = ls.length - i ∧ e 25 = .own 0 0 ls.length 1 ∧ e 26 = .int .i64 ls.length ∧ e 27 = .int .i64 i ∧ e 6 = v ∧ Ac 1 1 J v ((catA (ls.take i)).map (V.int .i64)) ∧ H = .live (ls.map inV) :: J) ls.length ?_ ?_
      · exact ⟨0, v, J, by simp [h0]; exact hac⟩
      · rintro k e H ⟨i, v, J, hi, hk, h25, h26, h27, h6, hac, rfl⟩
        simp -dsimp [h25, h26, h27, h6]
        split
        · rename_i hlt
          have d1 : List.take 1 (List.drop i (ls.map inV)) = [inV ls[i]] := by
            rw [List.drop_eq_getElem_cons (by simpa using hlt)]; simp
          refine ⟨hlt, by omega, ?_⟩
          rw [d1]
          simp -dsimp [h25, h26, h27, h6]
          have t2 := totA_succ ls i hlt
          have t3 := totA_take ls (i + 1)
          have t4 : (catA (ls.take i)).length = totA (ls.take i) := catA_len _
          have e1 := catA_succ ls i hlt
          refine app_ac 1 (m := ls[i].map (V.int .i64)) (l := (catA (ls.take i)).map (V.int .i64)) (by simpa using hac) (by simp) (by simp) (by simp) (by simp) (by simp) (by rw [List.length_map, List.length_map, t4]; simp [capOk]; omega) fun v' J' hac' => ?_
          have w2 : IntKind.i64.wrap ((i : Int) + 1) = ((i + 1 : Nat) : Int) := by rw [Fz.w64 (by omega) (by omega)]; omega
          simp -dsimp [h25, h26, h27, w2]
          refine ⟨ls.length - (i + 1), by omega, i + 1, v', J', by omega, rfl, ?_⟩
          simp -dsimp [h25, h26]
          rw [e1, List.map_append]
          exact hac'
        · rename_i hge
          have hii : i = ls.length := by omega
          subst hii
          rw [List.take_length] at hac
          exact hq _ _ hac
theorem concat_call_int {H : List Ob} {id : Nat} {ls : List (List Int)} (hid : H[id]? = some (.live (ls.map inV))) (ht : totA ls ≤ 10000000) (hl : ls.length ≤ 1000000) {Q : CR → List Ob → Prop}
    (hq : ∀ v J, Ac 1 H.length J v ((catA ls).map (V.int .i64)) → Q (.ret v) (H ++ J)) : WCall p 79 [.own id 0 ls.length 1] H Q := by
  have hgl : groundL (ls.map inV) = true := by simp
  have hr : reach H 1000 (refsL [.own id 0 ls.length 1]) [] = some [id] := reach_one hid (groundL_refs _ hgl)
  refine WCall_inl (by kernel_rfl) hr ?_
  have e1 : renL (fun i => ([id] : List Nat).idxOf i) [.own id 0 ls.length 1] = [.own 0 0 ls.length 1] := by simp [renL, ren]
  have e2 : (([id] : List Nat).map fun i => renOb (fun i => ([id] : List Nat).idxOf i) (H[i]?.getD .dead)) = [.live (ls.map inV)] := by
    simp only [List.map_cons, List.map_nil, hid, Option.getD_some, renOb, groundL_ren _ _ hgl]
  rw [e1, e2]
  refine concat_own_int ht hl fun v J hac => ⟨by simp, ?_⟩
  have e3 : (refsOb (.live (ls.map inV))) = [] := groundL_refs _ hgl
  rcases ac_cases hac with ⟨rfl, h0⟩ | ⟨j, len, rfl, _⟩
  · have e4 : backH [id] (.ret (.list [] true)) (.live (ls.map inV) :: J) H = H := by
      unfold backH
      rw [if_neg (by simp [crV, refs, refsL, e3])]
      simp [setAll, renOb, groundL_ren _ _ hgl, set_same hid]
    rw [e4]
    have := hq (.list [] true) [] ⟨by rw [h0]; rfl, by decide, .inl ⟨h0, rfl⟩⟩
    simpa [renR, ren, renL] using this
  · have hg : ∀ j, backK [id] H.length (1 + j) = H.length + j := fun j => by rw [Nat.add_comm]; exact back_s
    have e4 : backH [id] (.ret (.own (1 + j) 0 len 1)) (.live (ls.map inV) :: J) H = H ++ J.map (renOb (backK [id] H.length)) := by
      unfold backH
      rw [if_pos (by simp [crV, refs])]
      simp [setAll, renOb, groundL_ren _ _ hgl, set_same hid]
    rw [e4]
    have := hq _ _ (acg_back hg (by simp) hac)
    simpa [renR, ren] using this
theorem joined_int {l tail : List Int} {keep : Int} (hl : l.length ≤ 1000000) (ht : tail.length ≤ 1000000) : Comes p 66 [inV l, .int .i64 keep, inV tail]
    (if 0 ≤ keep ∧ keep ≤ l.length then .tuple [inV (l.take keep.toNat ++ tail), .bool true] else .tuple [inV [], .bool false]) := by
  refine Comes_of w66 rfl rfl k66 ?_ ?_ ?_ ?_
  · simp
  · simp
  · split <;> simp
  · by_cases c1 : keep < 0
    · have c3 : ¬ (0 ≤ keep ∧ keep ≤ l.length) := by omega
      simp -dsimp [w66, wFix_by, isInl, c1, c3]
      try simp [inV]
    · by_cases c2 : keep ≤ l.length
      · have c3 : 0 ≤ keep ∧ keep ≤ l.length := by omega
        have c4 : ¬ (l.length : Int) < keep := by omega
        simp -dsimp [-List.map_take, tk_map, w66, wFix_by, isInl, c1, c3, c4]
        try refine ⟨by omega, ?_⟩
        refine concat_call_int (ls := [l.take keep.toNat, tail]) rfl (by simp [totA]; omega) (by simp) fun v J hac => ?_
        have hac : Ac 1 1 J v ((l.take keep.toNat ++ tail).map (V.int .i64)) := by
          have e : catA [l.take keep.toNat, tail] = l.take keep.toNat ++ tail := by simp [catA]
          rw [e] at hac; exact hac
        generalize l.take keep.toNat ++ tail = m at hac ⊢
        simp -dsimp [wFix_by, isInl]
        refine frz_acg 1 (k := 10) hac (by simp) (.inl ⟨rfl, by simp⟩) fun H' _ _ => ?_
        simp -dsimp [inV]
      · have c3 : ¬ (0 ≤ keep ∧ keep ≤ l.length) := by omega
        have c4 : (l.length : Int) < keep := by omega
        simp -dsimp [w66, wFix_by, isInl, c1, c3, c4]
        try simp [inV]
theorem grow_slo {n : Int} {H : List Ob} {Q : CR → List Ob → Prop} (h0 : 0 ≤ n) (h1 : n ≤ 10000000) (hq : ∀ v J, Ac 2 H.length J v [] → Q (.ret v) (H ++ J)) : WCall p 91 [.list [] true, .int .i64 n] H Q := by
  have hr : reach H 1000 (refsL [.list [] true, .int .i64 n]) [] = some [] := rfl
  refine WCall_inl (by kernel_rfl) hr ?_
  refine WFun_of w91 rfl rfl k91 ?_
  have e0 : IntKind.i64.wrap n = n := Fz.w64 (by omega) (by omega)
  have z0 : IntKind.i64.wrap 0 = 0 := Fz.w64 (by omega) (by omega)
  have none : Q (renR (backK [] H.length) (CR.ret (V.list [] true))) (backH [] (CR.ret (V.list [] true)) [] H) := by
    have := hq (.list [] true) [] (ac_nil (by decide))
    simpa [renR, ren, renL, backH, crV, refs, refsL, setAll] using this
  by_cases hn : n = 0
  · subst hn
    simp -dsimp [w91, renL, ren]
    have e1 : IntKind.i64.wrap (-IntKind.i64.wrap 0) = 0 := by rw [z0]; exact z0
    rw [e1, if_neg (by omega)]
    exact none
  · have hp : 0 < n := by omega
    have hz : ¬ n < 0 := by omega
    simp -dsimp [w91, renL, ren, e0, hp, hz]
    have e1 : IntKind.i64.wrap (n - IntKind.i64.wrap 0) = n := by rw [z0, Int.sub_zero]; exact e0
    rw [e1, if_pos hp]
    have hl : (zeros [V.int .i64 0, V.bool false] n.toNat).length = n.toNat * 2 := zeros_len _
    first
    | (refine ⟨⟨h0, by omega, by omega⟩, ?_⟩
       rw [if_neg (by omega)]
       refine ⟨⟨hl, by simp [capOk]; omega⟩, ?_⟩)
    | (rw [if_neg (by omega)]
       refine ⟨⟨h0, by omega, by omega⟩, by simp [capOk]; omega, ?_⟩)
    | (refine ⟨⟨h0, by omega, by omega⟩, ?_⟩
       rw [if_neg (by omega)]
       refine ⟨by simp [capOk]; omega, ?_⟩)
    have := hq (.own H.length 0 0 2) [.live (zeros [V.int .i64 0, V.bool false] n.toNat)] ⟨rfl, by decide, .inr ⟨0, _, rfl, rfl, by simp, by simp [flat]⟩⟩
    have e2 : renOb (backK [] H.length) (.live (zeros [V.int .i64 0, V.bool false] n.toNat)) = .live (zeros [V.int .i64 0, V.bool false] n.toNat) := by
      rw [renOb, groundL_ren _ _ (zeros_gd (by simp) _)]
    try rw [show List.replicate n.toNat (V.int .i64 0) = zeros [V.int .i64 0, V.bool false] n.toNat from by simp]
    simp only [renR, ren, renL, backH, crV, refs, refsL, setAll, List.take_zero, List.flatMap_nil, List.append_nil, List.length_nil, List.any_cons, List.map_nil, List.drop_zero, List.map_cons, e2, List.any_nil]
    simpa [backK] using this
theorem concat_own_slo {ls : List (List Slo)} (ht : totA ls ≤ 10000000) (hl : ls.length ≤ 1000000) {Q : CR → List Ob → Prop} (hq : ∀ v J, Ac 2 1 J v ((catA ls).map sloV) → Q (.ret v) (.live (ls.map slosV) :: J)) :
    WFun p 80 [.own 0 0 ls.length 1] [.live (ls.map slosV)] Q := by
  refine WFun_of w80 rfl rfl k80 ?_
  simp -dsimp [w80]
  refine xL_by (by kernel_rfl) (fun k e H => ∃ i : Nat, i ≤ ls.length ∧ k = ls.length - i ∧ e 0 = .own 0 0 ls.length 1 ∧ e 9 = .own 0 0 ls.length 1 ∧ e 10 = .int .i64 ls.length ∧ e 11 = .int .i64 i ∧ e 3 = .int .i64 (totA (ls.take i)) ∧ H = [.live (ls.map slosV)]) ls.length ?_ ?_
  · exact ⟨0, by simp [totA]⟩
  · rintro k e H ⟨i, hi, hk, h0, h9, h10, h11, h3, rfl⟩
    have t1 := totA_take ls i
    simp -dsimp [h0, h9, h10, h11, h3]
    split
    · rename_i hlt
      have t2 := totA_succ ls i hlt
      have t3 := totA_take ls (i + 1)
      have d1 : List.take 1 (List.drop i (ls.map slosV)) = [slosV ls[i]] := by
        rw [List.drop_eq_getElem_cons (by simpa using hlt)]; simp
      have w1 : IntKind.i64.wrap (((totA (ls.take i) : Nat) : Int) + ((ls[i].length : Nat) : Int)) = ((totA (ls.take (i + 1)) : Nat) : Int) := by rw [Fz.w64 (by omega) (by omega)]; omega
      have w2 : IntKind.i64.wrap ((i : Int) + 1) = ((i + 1 : Nat) : Int) := by rw [Fz.w64 (by omega) (by omega)]; omega
      refine ⟨hlt, by omega, ?_⟩
      rw [d1]
      simp -dsimp [h0, h9, h10, h11, h3, w1, w2]
      refine ⟨ls.length - (i + 1), by omega, i + 1, by omega, rfl, ?_⟩
      simp -dsimp [h0, h9, h10]
    · rename_i hge
      have hii : i = ls.length := by omega
      subst hii
      rw [List.take_length] at h3 ⊢
      refine grow_slo (by omega) (by omega) fun v J hac => ?_
      simp -dsimp [h0, h9, h10, h11, h3]
      refine xL_by (by kernel_rfl) (fun k e H => ∃ (i : Nat) (v : V) (J : List Ob), i ≤ ls.length ∧ k = ls.length - i ∧ e 25 = .own 0 0 ls.length 1 ∧ e 26 = .int .i64 ls.length ∧ e 27 = .int .i64 i ∧ e 6 = v ∧ Ac 2 1 J v ((catA (ls.take i)).map sloV) ∧ H = .live (ls.map slosV) :: J) ls.length ?_ ?_
      · exact ⟨0, v, J, by simp [h0]; exact hac⟩
      · rintro k e H ⟨i, v, J, hi, hk, h25, h26, h27, h6, hac, rfl⟩
        simp -dsimp [h25, h26, h27, h6]
        split
        · rename_i hlt
          have d1 : List.take 1 (List.drop i (ls.map slosV)) = [slosV ls[i]] := by
            rw [List.drop_eq_getElem_cons (by simpa using hlt)]; simp
          refine ⟨hlt, by omega, ?_⟩
          rw [d1]
          simp -dsimp [h25, h26, h27, h6]
          have t2 := totA_succ ls i hlt
          have t3 := totA_take ls (i + 1)
          have t4 : (catA (ls.take i)).length = totA (ls.take i) := catA_len _
          have e1 := catA_succ ls i hlt
          refine app_ac 1 (m := ls[i].map sloV) (l := (catA (ls.take i)).map sloV) (by simpa using hac) (by simp) (by simp) (by simp) (by simp) (by simp) (by rw [List.length_map, List.length_map, t4]; simp [capOk]; omega) fun v' J' hac' => ?_
          have w2 : IntKind.i64.wrap ((i : Int) + 1) = ((i + 1 : Nat) : Int) := by rw [Fz.w64 (by omega) (by omega)]; omega
          simp -dsimp [h25, h26, h27, w2]
          refine ⟨ls.length - (i + 1), by omega, i + 1, v', J', by omega, rfl, ?_⟩
          simp -dsimp [h25, h26]
          rw [e1, List.map_append]
          exact hac'
        · rename_i hge
          have hii : i = ls.length := by omega
          subst hii
          rw [List.take_length] at hac
          exact hq _ _ hac
theorem concat_call_slo {H : List Ob} {id : Nat} {ls : List (List Slo)} (hid : H[id]? = some (.live (ls.map slosV))) (ht : totA ls ≤ 10000000) (hl : ls.length ≤ 1000000) {Q : CR → List Ob → Prop}
    (hq : ∀ v J, Ac 2 H.length J v ((catA ls).map sloV) → Q (.ret v) (H ++ J)) : WCall p 80 [.own id 0 ls.length 1] H Q := by
  have hgl : groundL (ls.map slosV) = true := by simp
  have hr : reach H 1000 (refsL [.own id 0 ls.length 1]) [] = some [id] := reach_one hid (groundL_refs _ hgl)
  refine WCall_inl (by kernel_rfl) hr ?_
  have e1 : renL (fun i => ([id] : List Nat).idxOf i) [.own id 0 ls.length 1] = [.own 0 0 ls.length 1] := by simp [renL, ren]
  have e2 : (([id] : List Nat).map fun i => renOb (fun i => ([id] : List Nat).idxOf i) (H[i]?.getD .dead)) = [.live (ls.map slosV)] := by
    simp only [List.map_cons, List.map_nil, hid, Option.getD_some, renOb, groundL_ren _ _ hgl]
  rw [e1, e2]
  refine concat_own_slo ht hl fun v J hac => ⟨by simp, ?_⟩
  have e3 : (refsOb (.live (ls.map slosV))) = [] := groundL_refs _ hgl
  rcases ac_cases hac with ⟨rfl, h0⟩ | ⟨j, len, rfl, _⟩
  · have e4 : backH [id] (.ret (.list [] true)) (.live (ls.map slosV) :: J) H = H := by
      unfold backH
      rw [if_neg (by simp [crV, refs, refsL, e3])]
      simp [setAll, renOb, groundL_ren _ _ hgl, set_same hid]
    rw [e4]
    have := hq (.list [] true) [] ⟨by rw [h0]; rfl, by decide, .inl ⟨h0, rfl⟩⟩
    simpa [renR, ren, renL] using this
  · have hg : ∀ j, backK [id] H.length (1 + j) = H.length + j := fun j => by rw [Nat.add_comm]; exact back_s
    have e4 : backH [id] (.ret (.own (1 + j) 0 len 2)) (.live (ls.map slosV) :: J) H = H ++ J.map (renOb (backK [id] H.length)) := by
      unfold backH
      rw [if_pos (by simp [crV, refs])]
      simp [setAll, renOb, groundL_ren _ _ hgl, set_same hid]
    rw [e4]
    have := hq _ _ (acg_back hg (by simp) hac)
    simpa [renR, ren] using this
theorem joined_slo {l tail : List Slo} {keep : Int} (hl : l.length ≤ 1000000) (ht : tail.length ≤ 1000000) : Comes p 67 [slosV l, .int .i64 keep, slosV tail]
    (if 0 ≤ keep ∧ keep ≤ l.length then .tuple [slosV (l.take keep.toNat ++ tail), .bool true] else .tuple [slosV [], .bool false]) := by
  refine Comes_of w67 rfl rfl k67 ?_ ?_ ?_ ?_
  · simp
  · simp
  · split <;> simp
  · by_cases c1 : keep < 0
    · have c3 : ¬ (0 ≤ keep ∧ keep ≤ l.length) := by omega
      simp -dsimp [w67, wFix_by, isInl, c1, c3]
      try simp [slosV]
    · by_cases c2 : keep ≤ l.length
      · have c3 : 0 ≤ keep ∧ keep ≤ l.length := by omega
        have c4 : ¬ (l.length : Int) < keep := by omega
        simp -dsimp [-List.map_take, tk_map, w67, wFix_by, isInl, c1, c3, c4]
        try refine ⟨by omega, ?_⟩
        refine concat_call_slo (ls := [l.take keep.toNat, tail]) rfl (by simp [totA]; omega) (by simp) fun v J hac => ?_
        have hac : Ac 2 1 J v ((l.take keep.toNat ++ tail).map sloV) := by
          have e : catA [l.take keep.toNat, tail] = l.take keep.toNat ++ tail := by simp [catA]
          rw [e] at hac; exact hac
        generalize l.take keep.toNat ++ tail = m at hac ⊢
        simp -dsimp [wFix_by, isInl]
        refine frz_acg 1 (k := 10) hac (by simp) (.inr ⟨by decide, by simp; exact fun x _ => ⟨_, rfl⟩⟩) fun H' _ _ => ?_
        simp -dsimp [slosV]
      · have c3 : ¬ (0 ≤ keep ∧ keep ≤ l.length) := by omega
        have c4 : (l.length : Int) < keep := by omega
        simp -dsimp [w67, wFix_by, isInl, c1, c3, c4]
        try simp [slosV]
theorem grow_wor {n : Int} {H : List Ob} {Q : CR → List Ob → Prop} (h0 : 0 ≤ n) (h1 : n ≤ 10000000) (hq : ∀ v J, Ac 4 H.length J v [] → Q (.ret v) (H ++ J)) : WCall p 92 [.list [] true, .int .i64 n] H Q := by
  have hr : reach H 1000 (refsL [.list [] true, .int .i64 n]) [] = some [] := rfl
  refine WCall_inl (by kernel_rfl) hr ?_
  refine WFun_of w92 rfl rfl k92 ?_
  have e0 : IntKind.i64.wrap n = n := Fz.w64 (by omega) (by omega)
  have z0 : IntKind.i64.wrap 0 = 0 := Fz.w64 (by omega) (by omega)
  have none : Q (renR (backK [] H.length) (CR.ret (V.list [] true))) (backH [] (CR.ret (V.list [] true)) [] H) := by
    have := hq (.list [] true) [] (ac_nil (by decide))
    simpa [renR, ren, renL, backH, crV, refs, refsL, setAll] using this
  by_cases hn : n = 0
  · subst hn
    simp -dsimp [w92, renL, ren]
    have e1 : IntKind.i64.wrap (-IntKind.i64.wrap 0) = 0 := by rw [z0]; exact z0
    rw [e1, if_neg (by omega)]
    exact none
  · have hp : 0 < n := by omega
    have hz : ¬ n < 0 := by omega
    simp -dsimp [w92, renL, ren, e0, hp, hz]
    have e1 : IntKind.i64.wrap (n - IntKind.i64.wrap 0) = n := by rw [z0, Int.sub_zero]; exact e0
    rw [e1, if_pos hp]
    have hl : (zeros [V.str ⟨#[]⟩, V.int .i64 0, V.bool false, V.bool false] n.toNat).length = n.toNat * 4 := zeros_len _
    first
    | (refine ⟨⟨h0, by omega, by omega⟩, ?_⟩
       rw [if_neg (by omega)]
       refine ⟨⟨hl, by simp [capOk]; omega⟩, ?_⟩)
    | (rw [if_neg (by omega)]
       refine ⟨⟨h0, by omega, by omega⟩, by simp [capOk]; omega, ?_⟩)
    | (refine ⟨⟨h0, by omega, by omega⟩, ?_⟩
       rw [if_neg (by omega)]
       refine ⟨by simp [capOk]; omega, ?_⟩)
    have := hq (.own H.length 0 0 4) [.live (zeros [V.str ⟨#[]⟩, V.int .i64 0, V.bool false, V.bool false] n.toNat)] ⟨rfl, by decide, .inr ⟨0, _, rfl, rfl, by simp, by simp [flat]⟩⟩
    have e2 : renOb (backK [] H.length) (.live (zeros [V.str ⟨#[]⟩, V.int .i64 0, V.bool false, V.bool false] n.toNat)) = .live (zeros [V.str ⟨#[]⟩, V.int .i64 0, V.bool false, V.bool false] n.toNat) := by
      rw [renOb, groundL_ren _ _ (zeros_gd (by simp) _)]
    try rw [show List.replicate n.toNat (V.int .i64 0) = zeros [V.str ⟨#[]⟩, V.int .i64 0, V.bool false, V.bool false] n.toNat from by simp]
    simp only [renR, ren, renL, backH, crV, refs, refsL, setAll, List.take_zero, List.flatMap_nil, List.append_nil, List.length_nil, List.any_cons, List.map_nil, List.drop_zero, List.map_cons, e2, List.any_nil]
    simpa [backK] using this
theorem concat_own_wor {ls : List (List Wor)} (ht : totA ls ≤ 10000000) (hl : ls.length ≤ 1000000) {Q : CR → List Ob → Prop} (hq : ∀ v J, Ac 4 1 J v ((catA ls).map worV) → Q (.ret v) (.live (ls.map worsV) :: J)) :
    WFun p 81 [.own 0 0 ls.length 1] [.live (ls.map worsV)] Q := by
  refine WFun_of w81 rfl rfl k81 ?_
  simp -dsimp [w81]
  refine xL_by (by kernel_rfl) (fun k e H => ∃ i : Nat, i ≤ ls.length ∧ k = ls.length - i ∧ e 0 = .own 0 0 ls.length 1 ∧ e 9 = .own 0 0 ls.length 1 ∧ e 10 = .int .i64 ls.length ∧ e 11 = .int .i64 i ∧ e 3 = .int .i64 (totA (ls.take i)) ∧ H = [.live (ls.map worsV)]) ls.length ?_ ?_
  · exact ⟨0, by simp [totA]⟩
  · rintro k e H ⟨i, hi, hk, h0, h9, h10, h11, h3, rfl⟩
    have t1 := totA_take ls i
    simp -dsimp [h0, h9, h10, h11, h3]
    split
    · rename_i hlt
      have t2 := totA_succ ls i hlt
      have t3 := totA_take ls (i + 1)
      have d1 : List.take 1 (List.drop i (ls.map worsV)) = [worsV ls[i]] := by
        rw [List.drop_eq_getElem_cons (by simpa using hlt)]; simp
      have w1 : IntKind.i64.wrap (((totA (ls.take i) : Nat) : Int) + ((ls[i].length : Nat) : Int)) = ((totA (ls.take (i + 1)) : Nat) : Int) := by rw [Fz.w64 (by omega) (by omega)]; omega
      have w2 : IntKind.i64.wrap ((i : Int) + 1) = ((i + 1 : Nat) : Int) := by rw [Fz.w64 (by omega) (by omega)]; omega
      refine ⟨hlt, by omega, ?_⟩
      rw [d1]
      simp -dsimp [h0, h9, h10, h11, h3, w1, w2]
      refine ⟨ls.length - (i + 1), by omega, i + 1, by omega, rfl, ?_⟩
      simp -dsimp [h0, h9, h10]
    · rename_i hge
      have hii : i = ls.length := by omega
      subst hii
      rw [List.take_length] at h3 ⊢
      refine grow_wor (by omega) (by omega) fun v J hac => ?_
      simp -dsimp [h0, h9, h10, h11, h3]
      refine xL_by (by kernel_rfl) (fun k e H => ∃ (i : Nat) (v : V) (J : List Ob), i ≤ ls.length ∧ k = ls.length - i ∧ e 25 = .own 0 0 ls.length 1 ∧ e 26 = .int .i64 ls.length ∧ e 27 = .int .i64 i ∧ e 6 = v ∧ Ac 4 1 J v ((catA (ls.take i)).map worV) ∧ H = .live (ls.map worsV) :: J) ls.length ?_ ?_
      · exact ⟨0, v, J, by simp [h0]; exact hac⟩
      · rintro k e H ⟨i, v, J, hi, hk, h25, h26, h27, h6, hac, rfl⟩
        simp -dsimp [h25, h26, h27, h6]
        split
        · rename_i hlt
          have d1 : List.take 1 (List.drop i (ls.map worsV)) = [worsV ls[i]] := by
            rw [List.drop_eq_getElem_cons (by simpa using hlt)]; simp
          refine ⟨hlt, by omega, ?_⟩
          rw [d1]
          simp -dsimp [h25, h26, h27, h6]
          have t2 := totA_succ ls i hlt
          have t3 := totA_take ls (i + 1)
          have t4 : (catA (ls.take i)).length = totA (ls.take i) := catA_len _
          have e1 := catA_succ ls i hlt
          refine app_ac 1 (m := ls[i].map worV) (l := (catA (ls.take i)).map worV) (by simpa using hac) (by simp) (by simp) (by simp) (by simp) (by simp) (by rw [List.length_map, List.length_map, t4]; simp [capOk]; omega) fun v' J' hac' => ?_
          have w2 : IntKind.i64.wrap ((i : Int) + 1) = ((i + 1 : Nat) : Int) := by rw [Fz.w64 (by omega) (by omega)]; omega
          simp -dsimp [h25, h26, h27, w2]
          refine ⟨ls.length - (i + 1), by omega, i + 1, v', J', by omega, rfl, ?_⟩
          simp -dsimp [h25, h26]
          rw [e1, List.map_append]
          exact hac'
        · rename_i hge
          have hii : i = ls.length := by omega
          subst hii
          rw [List.take_length] at hac
          exact hq _ _ hac
theorem concat_call_wor {H : List Ob} {id : Nat} {ls : List (List Wor)} (hid : H[id]? = some (.live (ls.map worsV))) (ht : totA ls ≤ 10000000) (hl : ls.length ≤ 1000000) {Q : CR → List Ob → Prop}
    (hq : ∀ v J, Ac 4 H.length J v ((catA ls).map worV) → Q (.ret v) (H ++ J)) : WCall p 81 [.own id 0 ls.length 1] H Q := by
  have hgl : groundL (ls.map worsV) = true := by simp
  have hr : reach H 1000 (refsL [.own id 0 ls.length 1]) [] = some [id] := reach_one hid (groundL_refs _ hgl)
  refine WCall_inl (by kernel_rfl) hr ?_
  have e1 : renL (fun i => ([id] : List Nat).idxOf i) [.own id 0 ls.length 1] = [.own 0 0 ls.length 1] := by simp [renL, ren]
  have e2 : (([id] : List Nat).map fun i => renOb (fun i => ([id] : List Nat).idxOf i) (H[i]?.getD .dead)) = [.live (ls.map worsV)] := by
    simp only [List.map_cons, List.map_nil, hid, Option.getD_some, renOb, groundL_ren _ _ hgl]
  rw [e1, e2]
  refine concat_own_wor ht hl fun v J hac => ⟨by simp, ?_⟩
  have e3 : (refsOb (.live (ls.map worsV))) = [] := groundL_refs _ hgl
  rcases ac_cases hac with ⟨rfl, h0⟩ | ⟨j, len, rfl, _⟩
  · have e4 : backH [id] (.ret (.list [] true)) (.live (ls.map worsV) :: J) H = H := by
      unfold backH
      rw [if_neg (by simp [crV, refs, refsL, e3])]
      simp [setAll, renOb, groundL_ren _ _ hgl, set_same hid]
    rw [e4]
    have := hq (.list [] true) [] ⟨by rw [h0]; rfl, by decide, .inl ⟨h0, rfl⟩⟩
    simpa [renR, ren, renL] using this
  · have hg : ∀ j, backK [id] H.length (1 + j) = H.length + j := fun j => by rw [Nat.add_comm]; exact back_s
    have e4 : backH [id] (.ret (.own (1 + j) 0 len 4)) (.live (ls.map worsV) :: J) H = H ++ J.map (renOb (backK [id] H.length)) := by
      unfold backH
      rw [if_pos (by simp [crV, refs])]
      simp [setAll, renOb, groundL_ren _ _ hgl, set_same hid]
    rw [e4]
    have := hq _ _ (acg_back hg (by simp) hac)
    simpa [renR, ren] using this
theorem joined_wor {l tail : List Wor} {keep : Int} (hl : l.length ≤ 1000000) (ht : tail.length ≤ 1000000) : Comes p 68 [worsV l, .int .i64 keep, worsV tail]
    (if 0 ≤ keep ∧ keep ≤ l.length then .tuple [worsV (l.take keep.toNat ++ tail), .bool true] else .tuple [worsV [], .bool false]) := by
  refine Comes_of w68 rfl rfl k68 ?_ ?_ ?_ ?_
  · simp
  · simp
  · split <;> simp
  · by_cases c1 : keep < 0
    · have c3 : ¬ (0 ≤ keep ∧ keep ≤ l.length) := by omega
      simp -dsimp [w68, wFix_by, isInl, c1, c3]
      try simp [worsV]
    · by_cases c2 : keep ≤ l.length
      · have c3 : 0 ≤ keep ∧ keep ≤ l.length := by omega
        have c4 : ¬ (l.length : Int) < keep := by omega
        simp -dsimp [-List.map_take, tk_map, w68, wFix_by, isInl, c1, c3, c4]
        try refine ⟨by omega, ?_⟩
        refine concat_call_wor (ls := [l.take keep.toNat, tail]) rfl (by simp [totA]; omega) (by simp) fun v J hac => ?_
        have hac : Ac 4 1 J v ((l.take keep.toNat ++ tail).map worV) := by
          have e : catA [l.take keep.toNat, tail] = l.take keep.toNat ++ tail := by simp [catA]
          rw [e] at hac; exact hac
        generalize l.take keep.toNat ++ tail = m at hac ⊢
        simp -dsimp [wFix_by, isInl]
        refine frz_acg 1 (k := 10) hac (by simp) (.inr ⟨by decide, by simp; exact fun x _ => ⟨_, rfl⟩⟩) fun H' _ _ => ?_
        simp -dsimp [worsV]
      · have c3 : ¬ (0 ≤ keep ∧ keep ≤ l.length) := by omega
        have c4 : (l.length : Int) < keep := by omega
        simp -dsimp [w68, wFix_by, isInl, c1, c3, c4]
        try simp [worsV]
theorem grow_spo {n : Int} {H : List Ob} {Q : CR → List Ob → Prop} (h0 : 0 ≤ n) (h1 : n ≤ 10000000) (hq : ∀ v J, Ac 2 H.length J v [] → Q (.ret v) (H ++ J)) : WCall p 93 [.list [] true, .int .i64 n] H Q := by
  have hr : reach H 1000 (refsL [.list [] true, .int .i64 n]) [] = some [] := rfl
  refine WCall_inl (by kernel_rfl) hr ?_
  refine WFun_of w93 rfl rfl k93 ?_
  have e0 : IntKind.i64.wrap n = n := Fz.w64 (by omega) (by omega)
  have z0 : IntKind.i64.wrap 0 = 0 := Fz.w64 (by omega) (by omega)
  have none : Q (renR (backK [] H.length) (CR.ret (V.list [] true))) (backH [] (CR.ret (V.list [] true)) [] H) := by
    have := hq (.list [] true) [] (ac_nil (by decide))
    simpa [renR, ren, renL, backH, crV, refs, refsL, setAll] using this
  by_cases hn : n = 0
  · subst hn
    simp -dsimp [w93, renL, ren]
    have e1 : IntKind.i64.wrap (-IntKind.i64.wrap 0) = 0 := by rw [z0]; exact z0
    rw [e1, if_neg (by omega)]
    exact none
  · have hp : 0 < n := by omega
    have hz : ¬ n < 0 := by omega
    simp -dsimp [w93, renL, ren, e0, hp, hz]
    have e1 : IntKind.i64.wrap (n - IntKind.i64.wrap 0) = n := by rw [z0, Int.sub_zero]; exact e0
    rw [e1, if_pos hp]
    have hl : (zeros [V.int .i64 0, V.int .i64 0] n.toNat).length = n.toNat * 2 := zeros_len _
    first
    | (refine ⟨⟨h0, by omega, by omega⟩, ?_⟩
       rw [if_neg (by omega)]
       refine ⟨⟨hl, by simp [capOk]; omega⟩, ?_⟩)
    | (rw [if_neg (by omega)]
       refine ⟨⟨h0, by omega, by omega⟩, by simp [capOk]; omega, ?_⟩)
    | (refine ⟨⟨h0, by omega, by omega⟩, ?_⟩
       rw [if_neg (by omega)]
       refine ⟨by simp [capOk]; omega, ?_⟩)
    have := hq (.own H.length 0 0 2) [.live (zeros [V.int .i64 0, V.int .i64 0] n.toNat)] ⟨rfl, by decide, .inr ⟨0, _, rfl, rfl, by simp, by simp [flat]⟩⟩
    have e2 : renOb (backK [] H.length) (.live (zeros [V.int .i64 0, V.int .i64 0] n.toNat)) = .live (zeros [V.int .i64 0, V.int .i64 0] n.toNat) := by
      rw [renOb, groundL_ren _ _ (zeros_gd (by simp) _)]
    try rw [show List.replicate n.toNat (V.int .i64 0) = zeros [V.int .i64 0, V.int .i64 0] n.toNat from by simp]
    simp only [renR, ren, renL, backH, crV, refs, refsL, setAll, List.take_zero, List.flatMap_nil, List.append_nil, List.length_nil, List.any_cons, List.map_nil, List.drop_zero, List.map_cons, e2, List.any_nil]
    simpa [backK] using this
theorem concat_own_spo {ls : List (List Spo)} (ht : totA ls ≤ 10000000) (hl : ls.length ≤ 1000000) {Q : CR → List Ob → Prop} (hq : ∀ v J, Ac 2 1 J v ((catA ls).map spoV) → Q (.ret v) (.live (ls.map sposV) :: J)) :
    WFun p 82 [.own 0 0 ls.length 1] [.live (ls.map sposV)] Q := by
  refine WFun_of w82 rfl rfl k82 ?_
  simp -dsimp [w82]
  refine xL_by (by kernel_rfl) (fun k e H => ∃ i : Nat, i ≤ ls.length ∧ k = ls.length - i ∧ e 0 = .own 0 0 ls.length 1 ∧ e 9 = .own 0 0 ls.length 1 ∧ e 10 = .int .i64 ls.length ∧ e 11 = .int .i64 i ∧ e 3 = .int .i64 (totA (ls.take i)) ∧ H = [.live (ls.map sposV)]) ls.length ?_ ?_
  · exact ⟨0, by simp [totA]⟩
  · rintro k e H ⟨i, hi, hk, h0, h9, h10, h11, h3, rfl⟩
    have t1 := totA_take ls i
    simp -dsimp [h0, h9, h10, h11, h3]
    split
    · rename_i hlt
      have t2 := totA_succ ls i hlt
      have t3 := totA_take ls (i + 1)
      have d1 : List.take 1 (List.drop i (ls.map sposV)) = [sposV ls[i]] := by
        rw [List.drop_eq_getElem_cons (by simpa using hlt)]; simp
      have w1 : IntKind.i64.wrap (((totA (ls.take i) : Nat) : Int) + ((ls[i].length : Nat) : Int)) = ((totA (ls.take (i + 1)) : Nat) : Int) := by rw [Fz.w64 (by omega) (by omega)]; omega
      have w2 : IntKind.i64.wrap ((i : Int) + 1) = ((i + 1 : Nat) : Int) := by rw [Fz.w64 (by omega) (by omega)]; omega
      refine ⟨hlt, by omega, ?_⟩
      rw [d1]
      simp -dsimp [h0, h9, h10, h11, h3, w1, w2]
      refine ⟨ls.length - (i + 1), by omega, i + 1, by omega, rfl, ?_⟩
      simp -dsimp [h0, h9, h10]
    · rename_i hge
      have hii : i = ls.length := by omega
      subst hii
      rw [List.take_length] at h3 ⊢
      refine grow_spo (by omega) (by omega) fun v J hac => ?_
      simp -dsimp [h0, h9, h10, h11, h3]
      refine xL_by (by kernel_rfl) (fun k e H => ∃ (i : Nat) (v : V) (J : List Ob), i ≤ ls.length ∧ k = ls.length - i ∧ e 25 = .own 0 0 ls.length 1 ∧ e 26 = .int .i64 ls.length ∧ e 27 = .int .i64 i ∧ e 6 = v ∧ Ac 2 1 J v ((catA (ls.take i)).map spoV) ∧ H = .live (ls.map sposV) :: J) ls.length ?_ ?_
      · exact ⟨0, v, J, by simp [h0]; exact hac⟩
      · rintro k e H ⟨i, v, J, hi, hk, h25, h26, h27, h6, hac, rfl⟩
        simp -dsimp [h25, h26, h27, h6]
        split
        · rename_i hlt
          have d1 : List.take 1 (List.drop i (ls.map sposV)) = [sposV ls[i]] := by
            rw [List.drop_eq_getElem_cons (by simpa using hlt)]; simp
          refine ⟨hlt, by omega, ?_⟩
          rw [d1]
          simp -dsimp [h25, h26, h27, h6]
          have t2 := totA_succ ls i hlt
          have t3 := totA_take ls (i + 1)
          have t4 : (catA (ls.take i)).length = totA (ls.take i) := catA_len _
          have e1 := catA_succ ls i hlt
          refine app_ac 1 (m := ls[i].map spoV) (l := (catA (ls.take i)).map spoV) (by simpa using hac) (by simp) (by simp) (by simp) (by simp) (by simp) (by rw [List.length_map, List.length_map, t4]; simp [capOk]; omega) fun v' J' hac' => ?_
          have w2 : IntKind.i64.wrap ((i : Int) + 1) = ((i + 1 : Nat) : Int) := by rw [Fz.w64 (by omega) (by omega)]; omega
          simp -dsimp [h25, h26, h27, w2]
          refine ⟨ls.length - (i + 1), by omega, i + 1, v', J', by omega, rfl, ?_⟩
          simp -dsimp [h25, h26]
          rw [e1, List.map_append]
          exact hac'
        · rename_i hge
          have hii : i = ls.length := by omega
          subst hii
          rw [List.take_length] at hac
          exact hq _ _ hac
theorem concat_call_spo {H : List Ob} {id : Nat} {ls : List (List Spo)} (hid : H[id]? = some (.live (ls.map sposV))) (ht : totA ls ≤ 10000000) (hl : ls.length ≤ 1000000) {Q : CR → List Ob → Prop}
    (hq : ∀ v J, Ac 2 H.length J v ((catA ls).map spoV) → Q (.ret v) (H ++ J)) : WCall p 82 [.own id 0 ls.length 1] H Q := by
  have hgl : groundL (ls.map sposV) = true := by simp
  have hr : reach H 1000 (refsL [.own id 0 ls.length 1]) [] = some [id] := reach_one hid (groundL_refs _ hgl)
  refine WCall_inl (by kernel_rfl) hr ?_
  have e1 : renL (fun i => ([id] : List Nat).idxOf i) [.own id 0 ls.length 1] = [.own 0 0 ls.length 1] := by simp [renL, ren]
  have e2 : (([id] : List Nat).map fun i => renOb (fun i => ([id] : List Nat).idxOf i) (H[i]?.getD .dead)) = [.live (ls.map sposV)] := by
    simp only [List.map_cons, List.map_nil, hid, Option.getD_some, renOb, groundL_ren _ _ hgl]
  rw [e1, e2]
  refine concat_own_spo ht hl fun v J hac => ⟨by simp, ?_⟩
  have e3 : (refsOb (.live (ls.map sposV))) = [] := groundL_refs _ hgl
  rcases ac_cases hac with ⟨rfl, h0⟩ | ⟨j, len, rfl, _⟩
  · have e4 : backH [id] (.ret (.list [] true)) (.live (ls.map sposV) :: J) H = H := by
      unfold backH
      rw [if_neg (by simp [crV, refs, refsL, e3])]
      simp [setAll, renOb, groundL_ren _ _ hgl, set_same hid]
    rw [e4]
    have := hq (.list [] true) [] ⟨by rw [h0]; rfl, by decide, .inl ⟨h0, rfl⟩⟩
    simpa [renR, ren, renL] using this
  · have hg : ∀ j, backK [id] H.length (1 + j) = H.length + j := fun j => by rw [Nat.add_comm]; exact back_s
    have e4 : backH [id] (.ret (.own (1 + j) 0 len 2)) (.live (ls.map sposV) :: J) H = H ++ J.map (renOb (backK [id] H.length)) := by
      unfold backH
      rw [if_pos (by simp [crV, refs])]
      simp [setAll, renOb, groundL_ren _ _ hgl, set_same hid]
    rw [e4]
    have := hq _ _ (acg_back hg (by simp) hac)
    simpa [renR, ren] using this
theorem joined_spo {l tail : List Spo} {keep : Int} (hl : l.length ≤ 1000000) (ht : tail.length ≤ 1000000) : Comes p 69 [sposV l, .int .i64 keep, sposV tail]
    (if 0 ≤ keep ∧ keep ≤ l.length then .tuple [sposV (l.take keep.toNat ++ tail), .bool true] else .tuple [sposV [], .bool false]) := by
  refine Comes_of w69 rfl rfl k69 ?_ ?_ ?_ ?_
  · simp
  · simp
  · split <;> simp
  · by_cases c1 : keep < 0
    · have c3 : ¬ (0 ≤ keep ∧ keep ≤ l.length) := by omega
      simp -dsimp [w69, wFix_by, isInl, c1, c3]
      try simp [sposV]
    · by_cases c2 : keep ≤ l.length
      · have c3 : 0 ≤ keep ∧ keep ≤ l.length := by omega
        have c4 : ¬ (l.length : Int) < keep := by omega
        simp -dsimp [-List.map_take, tk_map, w69, wFix_by, isInl, c1, c3, c4]
        try refine ⟨by omega, ?_⟩
        refine concat_call_spo (ls := [l.take keep.toNat, tail]) rfl (by simp [totA]; omega) (by simp) fun v J hac => ?_
        have hac : Ac 2 1 J v ((l.take keep.toNat ++ tail).map spoV) := by
          have e : catA [l.take keep.toNat, tail] = l.take keep.toNat ++ tail := by simp [catA]
          rw [e] at hac; exact hac
        generalize l.take keep.toNat ++ tail = m at hac ⊢
        simp -dsimp [wFix_by, isInl]
        refine frz_acg 1 (k := 10) hac (by simp) (.inr ⟨by decide, by simp; exact fun x _ => ⟨_, rfl⟩⟩) fun H' _ _ => ?_
        simp -dsimp [sposV]
      · have c3 : ¬ (0 ≤ keep ∧ keep ≤ l.length) := by omega
        have c4 : (l.length : Int) < keep := by omega
        simp -dsimp [w69, wFix_by, isInl, c1, c3, c4]
        try simp [sposV]
end Fz.D
set_option maxRecDepth 100000
namespace Fz.D
open Go
theorem clone_list {H : List Ob} {b : List Int} {Q : CR → List Ob → Prop} (hb : b.length ≤ 1000000) (hq : ∀ v J, Acc 1 H.length J v (b.map (V.int .u8)) → Q (.ret v) (H ++ J)) : WCall p 35 [byV b] H Q := by
  have h0 : refsL [byV b] = [] := groundL_refs _ (by simp)
  refine WCall_inl (by kernel_rfl) (ids := []) (by rw [h0]; rfl) ?_
  rw [groundL_ren _ [byV b] (by simp)]
  by_cases hb0 : b = []
  · subst hb0
    have e : acall p 20 35 [.list [] false] [] = some (.ret (.list [] true), []) := by kernel_rfl
    have := hq (.list [] true) [] (acc_nil (by decide))
    exact ⟨20, _, _, e, by simp, by simpa [renR, ren, renL, backH, crV, refs, refsL, setAll, renOb, backK] using this⟩
  · have := hq (.own H.length 0 b.length 1) [.live (b.map (V.int .u8))] ⟨by simp, by decide, .inr ⟨0, by simp, by simp⟩⟩
    have hne : b.map (V.int .u8) ≠ [] := by simpa using hb0
    refine WFun_of w35 rfl rfl k35 ?_
    simp -dsimp [w35, byV, xPur_isNilNe hne, hb0]
    refine ⟨by simp [capOk]; omega, ?_⟩
    simpa [renR, ren, renL, backH, crV, refs, refsL, setAll, renOb, backK] using this
theorem index_own {l : List Bool} (hl : l.length ≤ 100000) {Q : CR → List Ob → Prop} (hq : ∀ n : Int, (0 ≤ n ↔ l.all id = false) → Q (.ret (.int .i64 n)) [.live (l.map V.bool)]) : WFun p 83 [.own 0 0 l.length 1, .bool false] [.live (l.map V.bool)] Q := by
  refine WFun_of w83 rfl rfl k83 ?_
  simp -dsimp [w83]
  refine xL_by (by kernel_rfl) (fun k e H => ∃ i : Nat, i ≤ l.length ∧ k = l.length - i ∧ e 0 = .own 0 0 l.length 1 ∧ e 1 = .bool false ∧ e 7 = .int .i64 l.length ∧ e 8 = .int .i64 i ∧ H = [.live (l.map V.bool)] ∧ (l.take i).all id = true) l.length ?_ ?_
  · refine ⟨0, by omega, rfl, ?_⟩
    simp -dsimp
  · rintro k e H ⟨i, hi, hk, h0, h1, h7, h8, rfl, hall⟩
    by_cases c1 : i < l.length
    · have d1 : List.take 1 (List.drop i (l.map V.bool)) = [.bool l[i]] := by
        rw [List.drop_eq_getElem_cons (by simpa using c1)]; simp
      have w2 : IntKind.i64.wrap ((i : Int) + 1) = ((i + 1 : Nat) : Int) := by rw [Fz.w64 (by omega) (by omega)]; omega
      have q := all_take (f := id) c1
      cases c2 : l[i] with
      | true =>
        rw [c2] at d1
        simp -dsimp [h0, h1, h7, h8, c1, d1, w2]
        refine ⟨by omega, ?_⟩
        refine ⟨l.length - (i + 1), by omega, i + 1, by omega, rfl, ?_⟩
        rw [q, hall]
        simp -dsimp [h0, h1, h7, c2]
      | false =>
        rw [c2] at d1
        simp -dsimp [h0, h1, h7, h8, c1, d1, w2]
        refine ⟨by omega, hq i ⟨fun _ => ?_, fun _ => by omega⟩⟩
        rw [List.all_eq_false]
        exact ⟨l[i], List.getElem_mem c1, by simp [c2]⟩
    · have hii : i = l.length := by omega
      subst hii
      rw [List.take_length] at hall
      simp -dsimp [h0, h1, h7, h8, c1]
      exact hq (-1) ⟨fun h => by omega, fun h => by rw [hall] at h; cases h⟩
theorem contains_own {l : List Bool} (hl : l.length ≤ 100000) {Q : CR → List Ob → Prop} (hq : Q (.ret (.bool (!l.all id))) [.live (l.map V.bool)]) : WFun p 70 [.own 0 0 l.length 1, .bool false] [.live (l.map V.bool)] Q := by
  refine WFun_of w70 rfl rfl k70 ?_
  simp -dsimp [w70]
  have gl : groundL (l.map V.bool) = true := by simp
  have hr : reach [.live (l.map V.bool)] 1000 (refsL [.own 0 0 l.length 1, .bool false]) [] = some [0] := reach_one (i := 0) rfl (groundL_refs _ gl)
  refine WCall_inl (by kernel_rfl) hr ?_
  have e1 : renL (fun i => ([0] : List Nat).idxOf i) [.own 0 0 l.length 1, .bool false] = [.own 0 0 l.length 1, .bool false] := by simp [renL, ren]
  have e2 : (([0] : List Nat).map fun i => renOb (fun i => ([0] : List Nat).idxOf i) (([.live (l.map V.bool)] : List Ob)[i]?.getD .dead)) = [.live (l.map V.bool)] := by
    simp only [List.map_cons, List.map_nil, List.getElem?_cons_zero, Option.getD_some, renOb, groundL_ren _ _ gl]
  rw [e1, e2]
  refine index_own hl fun n hn => ⟨by simp, ?_⟩
  have e4 : backH [0] (.ret (.int .i64 n)) [.live (l.map V.bool)] [.live (l.map V.bool)] = [.live (l.map V.bool)] := by
    unfold backH
    rw [if_neg (by simp [crV, refs, refsOb, groundL_refs _ gl])]
    simp [setAll, renOb, groundL_ren _ _ gl]
  rw [e4]
  have e5 : (decide (0 ≤ n)) = !l.all id := by
    cases h : l.all id with
    | true => rw [h] at hn; simp at hn; simp; omega
    | false => rw [h] at hn; simp at hn; simp [hn]
  simp -dsimp [renR, ren, e5]
  exact hq
theorem contains_call {H : List Ob} {id : Nat} {l : List Bool} (hid : H[id]? = some (.live (l.map V.bool))) (hl : l.length ≤ 100000) {Q : CR → List Ob → Prop} (hq : Q (.ret (.bool (!l.all _root_.id))) H) : WCall p 70 [.own id 0 l.length 1, .bool false] H Q := by
  have gl : groundL (l.map V.bool) = true := by simp
  have hr : reach H 1000 (refsL [.own id 0 l.length 1, .bool false]) [] = some [id] := reach_one hid (groundL_refs _ gl)
  refine WCall_inl (by kernel_rfl) hr ?_
  have e1 : renL (fun i => ([id] : List Nat).idxOf i) [.own id 0 l.length 1, .bool false] = [.own 0 0 l.length 1, .bool false] := by simp [renL, ren]
  have e2 : (([id] : List Nat).map fun i => renOb (fun i => ([id] : List Nat).idxOf i) (H[i]?.getD .dead)) = [.live (l.map V.bool)] := by
    simp only [List.map_cons, List.map_nil, hid, Option.getD_some, renOb, groundL_ren _ _ gl]
  rw [e1, e2]
  refine contains_own hl ⟨by simp, ?_⟩
  have e4 : backH [id] (.ret (.bool (!l.all _root_.id))) [.live (l.map V.bool)] H = H := by
    unfold backH
    rw [if_neg (by simp [crV, refs, refsOb, groundL_refs _ gl])]
    simp [setAll, renOb, groundL_ren _ _ gl, set_same hid]
  rw [e4]
  simpa [renR, ren] using hq
end Fz.D
set_option maxRecDepth 100000
namespace Fz.D
open Go
def wi (a : Int) (n : Nat) : Bool := decide (0 ≤ a ∧ a ≤ (n : Int))
def runOk (n : Nat) (r : Rn) : Bool := wi r.at_ n && decide (r.at_ + r.b.length ≤ n)
def restOk (t : St) (d : De) : Bool := wi d.dk t.data.length && (wi d.rk t.ret.length && (wi d.ck t.ctl.length && (wi d.wk t.words.length && (wi d.sk t.spots.length && wi d.out t.out.length))))
def fitsB (t : St) (d : De) : Bool := d.mem.all (runOk t.mem.length) && restOk t d
def patch (m : List Int) (r : Rn) : List Int := m.take r.at_.toNat ++ r.b ++ m.drop (r.at_.toNat + r.b.length)
theorem patch_len {m : List Int} {r : Rn} (h : runOk m.length r = true) : (patch m r).length = m.length := by
  unfold runOk wi at h
  simp only [Bool.and_eq_true, decide_eq_true_eq] at h
  unfold patch
  simp only [List.length_append, List.length_take, List.length_drop]
  omega
def backS (t : St) (d : De) : St := { mem := d.mem.foldl patch t.mem, data := t.data.take d.dk.toNat ++ d.dt, ret := t.ret.take d.rk.toNat ++ d.rt, ctl := t.ctl.take d.ck.toNat ++ d.ct, words := t.words.take d.wk.toNat ++ d.wt, spots := t.spots.take d.sk.toNat ++ d.st, out := t.out.take (t.out.length - d.out.toNat), ip := d.r0, here := d.r1, at_ := d.r2, tok := d.r3, in_ := d.r4, err := d.r5, comp := d.comp, halt := d.halt }
def St0 : St := { mem := [], data := [], ret := [], ctl := [], words := [], spots := [], out := [], ip := 0, here := 0, at_ := 0, tok := 0, in_ := 0, err := 0, comp := false, halt := false }
def backV (t : St) (d : De) : V := if fitsB t d = true then .tuple [stV (backS t d), .int .i64 0] else .tuple [stV St0, .int .i64 1]
end Fz.D
set_option maxRecDepth 100000
namespace Fz.D
open Go
def patchK (m : List Int) (r : Rn) (k : Nat) : List Int := m.take r.at_.toNat ++ r.b.take k ++ m.drop (r.at_.toNat + k)
theorem fold_len {n : Nat} : ∀ (rs : List Rn) (m : List Int), m.length = n → rs.all (runOk n) = true → (rs.foldl patch m).length = n
  | [], m, h, _ => h
  | r :: rs, m, h, ha => by
    rw [List.all_cons, Bool.and_eq_true] at ha
    rw [List.foldl_cons]
    exact fold_len rs _ (by rw [patch_len (by rw [h]; exact ha.1), h]) ha.2
theorem acc_val {n b : Nat} {J : List Ob} {v : V} {l : List V} (h : Acc n b J v l) : cellsOf v = [v] ∧ isAny v = false ∧ storable v = true := by
  obtain ⟨_, _, h3⟩ := h
  rcases h3 with ⟨_, rfl⟩ | ⟨j, rfl, _⟩ <;> exact ⟨rfl, rfl, rfl⟩
def Z15 : List V := [.list [] true, .list [] true, .list [] true, .list [] true, .list [] true, .list [] true, .list [] true, .int .i64 0, .int .i64 0, .int .i64 0, .int .i64 0, .int .i64 0, .int .i64 0, .bool false, .bool false]
structure BkOk (t : St) (d : De) : Prop where
  tm : t.mem.length ≤ 100000
  to : t.out.length ≤ 100000
  dm : d.mem.length ≤ 100000
  db : ∀ r ∈ d.mem, r.b.length ≤ 100000
  l1 : t.data.length ≤ 100000 ∧ d.dt.length ≤ 100000
  l2 : t.ret.length ≤ 100000 ∧ d.rt.length ≤ 100000
  l3 : t.ctl.length ≤ 100000 ∧ d.ct.length ≤ 100000
  l4 : t.words.length ≤ 100000 ∧ d.wt.length ≤ 100000
  l5 : t.spots.length ≤ 100000 ∧ d.st.length ≤ 100000
abbrev R2 (t : St) (d : De) : List Ob := [.live (cellsOf (stV t)), .live (cellsOf (deV d))]
end Fz.D
set_option maxRecDepth 100000
namespace Fz.D
open Go
def jn {α : Type} (l : List α) (keep : Int) (tail : List α) : List α := if wi keep l.length = true then l.take keep.toNat ++ tail else []
theorem jn_ok {α : Type} {l : List α} {keep : Int} {tail : List α} (h : wi keep l.length = true) : jn l keep tail = l.take keep.toNat ++ tail := if_pos h
theorem jn_int {l tail : List Int} {keep : Int} (h : l.length ≤ 100000 ∧ tail.length ≤ 100000) : Comes p 66 [inV l, .int .i64 keep, inV tail] (.tuple [inV (jn l keep tail), .bool (wi keep l.length)]) := by
  have := joined_int (l := l) (tail := tail) (keep := keep) (by omega) (by omega)
  by_cases hc : 0 ≤ keep ∧ keep ≤ l.length
  · have hw : wi keep l.length = true := by unfold wi; exact decide_eq_true hc
    rw [if_pos hc] at this
    rw [jn_ok hw, hw]; exact this
  · have hw : wi keep l.length = false := by unfold wi; exact decide_eq_false hc
    rw [if_neg hc] at this
    unfold jn
    rw [hw]; exact this
theorem jn_slo {l tail : List Slo} {keep : Int} (h : l.length ≤ 100000 ∧ tail.length ≤ 100000) : Comes p 67 [slosV l, .int .i64 keep, slosV tail] (.tuple [slosV (jn l keep tail), .bool (wi keep l.length)]) := by
  have := joined_slo (l := l) (tail := tail) (keep := keep) (by omega) (by omega)
  by_cases hc : 0 ≤ keep ∧ keep ≤ l.length
  · have hw : wi keep l.length = true := by unfold wi; exact decide_eq_true hc
    rw [if_pos hc] at this
    rw [jn_ok hw, hw]; exact this
  · have hw : wi keep l.length = false := by unfold wi; exact decide_eq_false hc
    rw [if_neg hc] at this
    unfold jn
    rw [hw]; exact this
theorem jn_wor {l tail : List Wor} {keep : Int} (h : l.length ≤ 100000 ∧ tail.length ≤ 100000) : Comes p 68 [worsV l, .int .i64 keep, worsV tail] (.tuple [worsV (jn l keep tail), .bool (wi keep l.length)]) := by
  have := joined_wor (l := l) (tail := tail) (keep := keep) (by omega) (by omega)
  by_cases hc : 0 ≤ keep ∧ keep ≤ l.length
  · have hw : wi keep l.length = true := by unfold wi; exact decide_eq_true hc
    rw [if_pos hc] at this
    rw [jn_ok hw, hw]; exact this
  · have hw : wi keep l.length = false := by unfold wi; exact decide_eq_false hc
    rw [if_neg hc] at this
    unfold jn
    rw [hw]; exact this
theorem jn_spo {l tail : List Spo} {keep : Int} (h : l.length ≤ 100000 ∧ tail.length ≤ 100000) : Comes p 69 [sposV l, .int .i64 keep, sposV tail] (.tuple [sposV (jn l keep tail), .bool (wi keep l.length)]) := by
  have := joined_spo (l := l) (tail := tail) (keep := keep) (by omega) (by omega)
  by_cases hc : 0 ≤ keep ∧ keep ≤ l.length
  · have hw : wi keep l.length = true := by unfold wi; exact decide_eq_true hc
    rw [if_pos hc] at this
    rw [jn_ok hw, hw]; exact this
  · have hw : wi keep l.length = false := by unfold wi; exact decide_eq_false hc
    rw [if_neg hc] at this
    unfold jn
    rw [hw]; exact this
def BS (t : St) (d : De) (v : V) : List V := [v, inV (jn t.data d.dk d.dt), slosV (jn t.ret d.rk d.rt), inV (jn t.ctl d.ck d.ct), worsV (jn t.words d.wk d.wt), sposV (jn t.spots d.sk d.st), byV t.out, .int .i64 t.ip, .int .i64 t.here, .int .i64 t.at_, .int .i64 t.tok, .int .i64 t.in_, .int .i64 t.err, .bool t.comp, .bool t.halt]
def BH (t : St) (d : De) (v : V) (T : List Ob) : List Ob := .live (cellsOf (stV t)) :: .live (cellsOf (deV d)) :: .live Z15 :: .live [.bool true, .bool true, .bool true, .bool true, .bool true, .bool true] :: .live (BS t d v) :: T
theorem applied_s {t : St} {d : De} (ok : BkOk t d) : Comes p 28 [stV t, deV d] (backV t d) := by
  have tm := ok.tm
  have dm := ok.dm
  have c1 := jn_int (keep := d.dk) ok.l1
  have c2 := jn_slo (keep := d.rk) ok.l2
  have c3 := jn_int (keep := d.ck) ok.l3
  have c4 := jn_wor (keep := d.wk) ok.l4
  have c5 := jn_spo (keep := d.sk) ok.l5
  refine Comes_of w28 rfl rfl k28 ?_ ?_ ?_ ?_
  · simp
  · simp
  · unfold backV; split <;> simp
  · simp -dsimp [-wAppend_list, w28, wFix_by, isInl]
    refine clone_list (by omega) fun v T ha => ?_
    obtain ⟨xv, yv, sv⟩ := acc_val ha
    by_cases o1 : ¬ 0 ≤ d.out
    · have w5 : wi d.out t.out.length = false := by unfold wi; exact decide_eq_false (by omega)
      have hf : fitsB t d = false := by unfold fitsB restOk; rw [w5]; simp
      simp -dsimp [-wAppend_list, xv, yv, sv, call_by c1, call_by c2, call_by c3, call_by c4, call_by c5, o1]
      refine contains_call (l := [wi d.dk t.data.length, wi d.rk t.ret.length, wi d.ck t.ctl.length, wi d.wk t.words.length, wi d.sk t.spots.length, false]) (by rfl) (by simp) ?_
      simp -dsimp [wFix_by, isInl, backV, hf]
      rfl
    rw [Classical.not_not] at o1
    have w5 : decide (d.out ≤ (t.out.length : Int)) = wi d.out t.out.length := by unfold wi; simp [o1]
    simp -dsimp [-wAppend_list, xv, yv, sv, call_by c1, call_by c2, call_by c3, call_by c4, call_by c5, o1, w5]
    refine contains_call (l := [wi d.dk t.data.length, wi d.rk t.ret.length, wi d.ck t.ctl.length, wi d.wk t.words.length, wi d.sk t.spots.length, wi d.out t.out.length]) (by rfl) (by simp) ?_
    cases hrest : restOk t d with
    | false =>
      have hf : fitsB t d = false := by unfold fitsB; rw [hrest]; simp
      have ha : [wi d.dk t.data.length, wi d.rk t.ret.length, wi d.ck t.ctl.length, wi d.wk t.words.length, wi d.sk t.spots.length, wi d.out t.out.length].all id = false := by
        unfold restOk at hrest
        simpa using hrest
      rw [ha]
      simp -dsimp [wFix_by, isInl, backV, hf]
      rfl
    | true =>
      have hal : [wi d.dk t.data.length, wi d.rk t.ret.length, wi d.ck t.ctl.length, wi d.wk t.words.length, wi d.sk t.spots.length, wi d.out t.out.length].all id = true := by
        unfold restOk at hrest
        simpa using hrest
      have hrest' := hrest
      unfold restOk at hrest'
      simp only [Bool.and_eq_true] at hrest'
      obtain ⟨k1, k2, k3, k4, k5, k6⟩ := hrest'
      rw [hal]
      simp -dsimp [-wAppend_list, k1, k2, k3, k4, k5, k6]
      refine xL_by (by kernel_rfl) (fun k e H => ∃ (i : Nat) (T : List Ob), i ≤ d.mem.length ∧ k = d.mem.length - i ∧ e 2 = .ptr 0 0 ∧ e 3 = .ptr 1 0 ∧ e 4 = .ptr 2 0 ∧ e 7 = .ptr 4 0 ∧ e 102 = runsV d.mem ∧ e 103 = .int .i64 d.mem.length ∧ e 104 = .int .i64 i ∧ H = BH t d v T ∧ Acc 1 5 T v (((d.mem.take i).foldl patch t.mem).map (V.int .u8)) ∧ (d.mem.take i).all (runOk t.mem.length) = true) d.mem.length ?_ ?_
      · refine ⟨0, T, by omega, rfl, ?_⟩
        simp -dsimp [BH, BS, Z15, k1, k2, k3, k4, k5, k6]
        exact ha
      clear ha T
      rintro k e H ⟨i, T, hi, hk, h2, h3, h4, h7, h102, h103, h104, rfl, ha, hall⟩
      have hml : ((d.mem.take i).foldl patch t.mem).length = t.mem.length := fold_len _ _ rfl hall
      by_cases c1 : i < d.mem.length
      · have g1 : d.mem[i]?.getD default = d.mem[i] := by simp [c1]
        have hb := ok.db d.mem[i] (List.getElem_mem c1)
        have w2 : IntKind.i64.wrap ((i : Int) + 1) = ((i + 1 : Nat) : Int) := by rw [Fz.w64 (by omega) (by omega)]; omega
        have q := all_take (f := runOk t.mem.length) c1
        have hstep : (d.mem.take (i + 1)).foldl patch t.mem = patch ((d.mem.take i).foldl patch t.mem) d.mem[i] := by
          rw [List.take_succ_eq_append_getElem c1, List.foldl_append]; rfl
        have bad : runOk t.mem.length d.mem[i] = false → fitsB t d = false := fun h => by
          have := all_false (n := d.mem.length) c1 c1 h
          rw [List.take_length] at this
          unfold fitsB
          rw [this]; rfl
        generalize (d.mem.take i).foldl patch t.mem = m at *
        obtain ⟨r, hrr⟩ : ∃ r, r = d.mem[i] := ⟨_, rfl⟩
        rw [← hrr] at g1 hb bad hstep q
        have alen := fun K => acc_len ha (K := K)
        rw [List.length_map] at alen
        by_cases c3 : r.at_ < 0
        · have hf := bad (by unfold runOk wi; simp; omega)
          simp -dsimp [BH, BS, Z15, h2, h3, h4, h7, h102, h103, h104, c1, c3, ← hrr, wFix_by, isInl, backV, hf]
          rfl
        by_cases c4 : (m.length : Int) < r.at_
        · have hf := bad (by unfold runOk wi; simp; omega)
          simp -dsimp [BH, BS, Z15, h2, h3, h4, h7, h102, h103, h104, c1, c3, c4, ← hrr, alen, wFix_by, isInl, backV, hf]
          rfl
        have w5 : IntKind.i64.wrap ((m.length : Int) - r.at_) = (m.length : Int) - r.at_ := Fz.w64 (by omega) (by omega)
        by_cases c5 : (m.length : Int) - r.at_ < r.b.length
        · have hf := bad (by unfold runOk wi; simp; omega)
          simp -dsimp [BH, BS, Z15, h2, h3, h4, h7, h102, h103, h104, c1, c3, c4, c5, w5, ← hrr, alen, wFix_by, isInl, backV, hf]
          rfl
        have hr : runOk t.mem.length r = true := by unfold runOk wi; simp; omega
        have hr' : runOk m.length r = true := by rw [hml]; exact hr
        have hfin : ∀ T', Acc 1 5 T' v ((patch m r).map (V.int .u8)) → ∃ k', k' < k ∧ ∃ (i' : Nat) (T : List Ob), i' ≤ d.mem.length ∧ k' = d.mem.length - i' ∧ i' = i + 1 ∧ T = T' ∧ Acc 1 5 T v (((d.mem.take i').foldl patch t.mem).map (V.int .u8)) ∧ (d.mem.take i').all (runOk t.mem.length) = true := fun T' h =>
          ⟨d.mem.length - (i + 1), by omega, i + 1, T', by omega, rfl, rfl, rfl, by rw [hstep]; exact h, by rw [q, hall, hr]; rfl⟩
        simp -dsimp [BH, BS, h2, h3, h4, h7, h102, h103, h104, c1, c3, c4, c5, w5, ← hrr, alen]
        have ha' := ha
        obtain ⟨u1, u2, u3⟩ := ha'
        rcases u3 with ⟨u3, rfl⟩ | ⟨j, rfl, hj⟩
        · have hm0 : m = [] := by simpa using u3
          subst hm0
          simp -dsimp
          rw [List.length_nil] at c4 c5
          refine ⟨by omega, by omega, ?_⟩
          have hb0 : r.b = [] := List.length_eq_zero_iff.1 (by omega)
          have hp : patch [] r = [] := by simp [patch, hb0]
          simp -dsimp [h104, w2]
          refine ⟨d.mem.length - (i + 1), by omega, i + 1, T ++ [.live [.int .i64 r.at_, byV r.b]], by omega, rfl, ?_⟩
          rw [hstep, hp, q, hall, hr]
          simp -dsimp [BH, BS, h2, h3, h4, h7, h102, h103]
          exact acc_ext ha _
        · rw [flat_int] at hj
          simp -dsimp
          refine ⟨by omega, by omega, ?_⟩
          have e5 : 5 + j = j + 1 + 1 + 1 + 1 + 1 := by omega
          have hjT := (List.getElem?_eq_some_iff.1 hj).1
          by_cases c6 : m.length = r.at_.toNat ∧ 0 < r.at_
          · have hb0 : r.b = [] := List.length_eq_zero_iff.1 (by omega)
            have hp : patch m r = m := by simp [patch, hb0]
            simp -dsimp [h104, w2, c6]
            refine ⟨d.mem.length - (i + 1), by omega, i + 1, T ++ [.live [.int .i64 r.at_, byV r.b]], by omega, rfl, ?_⟩
            rw [hstep, hp, q, hall, hr]
            simp -dsimp [BH, BS, h2, h3, h4, h7, h102, h103]
            simpa using acc_ext ha _
          · have ct : Nat.min r.b.length (m.length - r.at_.toNat) = r.b.length := Nat.min_eq_left (by omega)
            have ct2 : min r.b.length (m.length - r.at_.toNat) = r.b.length := Nat.min_eq_left (by omega)
            rw [if_neg c6]
            simp -dsimp [h104, w2, e5, wMut_app hj, ct, ct2]
            refine ⟨by omega, ?_⟩
            refine ⟨d.mem.length - (i + 1), by omega, i + 1, (T ++ [Ob.live [.int .i64 r.at_, byV r.b]]).set j (.live ((patch m r).map (V.int .u8))), by omega, rfl, ?_⟩
            rw [hstep, q, hall, hr]
            have hpl := patch_len hr'
            have hset : (T ++ [Ob.live [.int .i64 r.at_, byV r.b]]).set j (.live ((patch m r).map (V.int .u8))) = (T.set j (.live ((patch m r).map (V.int .u8)))) ++ [.live [.int .i64 r.at_, byV r.b]] := List.set_append_left _ _ hjT
            rw [hset]
            simp -dsimp [BH, BS, h2, h3, h4, h7, h102, h103]
            have hpat : List.take r.at_.toNat (m.map (V.int .u8)) ++ (List.take (Nat.min r.b.length (m.length - r.at_.toNat)) (r.b.map (V.int .u8)) ++ List.drop (r.at_.toNat + min r.b.length (m.length - r.at_.toNat)) (m.map (V.int .u8))) = (patch m r).map (V.int .u8) := by
              rw [ct, ct2, show List.take r.b.length (r.b.map (V.int .u8)) = r.b.map (V.int .u8) from List.take_of_length_le (by simp)]
              simp [patch]
            rw [hpat]
            refine ⟨hset, ?_⟩
            refine acc_ext ⟨by simp, u2, .inr ⟨j, by simp [hpl], ?_⟩⟩ _
            rw [List.getElem?_set_self hjT, flat_int]
      · have hii : i = d.mem.length := by omega
        subst hii
        rw [List.take_length] at ha hall hml
        have hf : fitsB t d = true := by unfold fitsB; rw [hall, hrest]; rfl
        have k6' : 0 ≤ d.out ∧ d.out ≤ t.out.length := by simpa [wi] using k6
        have hto := ok.to
        have wo : IntKind.i64.wrap ((t.out.length : Int) - d.out) = ((t.out.length - d.out.toNat : Nat) : Int) := by rw [Fz.w64 (by omega) (by omega)]; omega
        simp -dsimp [BH, BS, Z15, h2, h3, h4, h7, h102, h103, h104, wo]
        refine WDraw_see (R := R2 t d) (by kernel_rfl) (by simp) ?_
        simp -dsimp [h2, h3, h4, h7]
        refine WDraw_see (R := R2 t d) (by kernel_rfl) (by simp) ?_
        simp -dsimp [h2, h3, h4, h7, xv, yv, sv, wFix_by, isInl, backV, hf]
        refine frz_acc 5 (k := 9) ha (by simp) (.inl ⟨rfl, by simp⟩) fun H' _ _ => ?_
        simp -dsimp [-List.map_take, tk_map, jn_ok k1, jn_ok k2, jn_ok k3, jn_ok k4, jn_ok k5, backS]
        rfl
end Fz.D
set_option maxRecDepth 100000
namespace Fz.D
open Go
end Fz.D
set_option maxRecDepth 100000
namespace Fz.D
open Go
theorem eta2 {α β : Type} (x : α × β) : x = (x.1, x.2) := rfl
structure Rs where
  b : List Int
  e : Int
deriving Inhabited
def leadK : Nat → List Int → Nat
  | 0, _ => 0
  | _ + 1, [] => 0
  | k + 1, x :: l => if 128 ≤ x then leadK k l + 1 else 0
def lead (b : List Int) : Nat := leadK 10 b
theorem leadK_go {b : List Int} {i k : Nat} (h : i < b.length) (hx : 128 ≤ b[i]) : leadK (k + 1) (b.drop i) = leadK k (b.drop (i + 1)) + 1 := by
  rw [List.drop_eq_getElem_cons h, leadK, if_pos hx]
theorem leadK_stop {b : List Int} {i k : Nat} (h : i < b.length) (hx : ¬ 128 ≤ b[i]) : leadK k (b.drop i) = 0 := by
  cases k with
  | zero => simp [leadK]
  | succ k => rw [List.drop_eq_getElem_cons h, leadK, if_neg hx]
theorem leadK_end {b : List Int} {i k : Nat} (h : ¬ i < b.length) : leadK k (b.drop i) = 0 := by
  rw [List.drop_eq_nil_of_le (by omega)]
  cases k <;> simp [leadK]
def endsF (b : List Int) : Nat × Int :=
  if (0 < b.length ∧ gt b 0 = 128) ∨ lead b = 10 then (0, 2) else if lead b = b.length then (0, 3) else if lead b = 9 ∧ 129 < gt b 0 then (0, 2) else (lead b + 1, 0)
def val1 (v c : Int) : Int := (v * 128 + c % 128) % 18446744073709551616
def valU (l : List Int) : Int := l.foldl val1 0
theorem valU_rng (l : List Int) : 0 ≤ valU l ∧ valU l < 18446744073709551616 := by
  unfold valU
  have : ∀ (l : List Int) (v : Int), 0 ≤ v ∧ v < 18446744073709551616 → 0 ≤ l.foldl val1 v ∧ l.foldl val1 v < 18446744073709551616 := by
    intro l
    induction l with
    | nil => intro v h; exact h
    | cons c l ih => intro v _; rw [List.foldl_cons]; exact ih _ (by unfold val1; omega)
  exact this l 0 (by omega)
def unzz (x : Int) : Int := if x % 2 = 0 then x / 2 else -(x / 2) - 1
theorem unzz_rng {x : Int} (h : 0 ≤ x ∧ x < 18446744073709551616) : i64 (unzz x) := by unfold unzz i64; split <;> omega
def rd (lo hi : Int) (s : Rs) : Rs × Int :=
  if s.e ≠ 0 then (s, 0) else if (endsF s.b).2 ≠ 0 then (⟨s.b, (endsF s.b).2⟩, 0) else
    if unzz (valU (s.b.take (endsF s.b).1)) < lo ∨ hi < unzz (valU (s.b.take (endsF s.b).1)) then (⟨s.b.drop (endsF s.b).1, 2⟩, 0) else (⟨s.b.drop (endsF s.b).1, 0⟩, unzz (valU (s.b.take (endsF s.b).1)))
def rdT (most : Int) (s : Rs) : Rs × List Int :=
  if (rd 0 most s).1.e ≠ 0 then ((rd 0 most s).1, []) else if ((rd 0 most s).1.b.length : Int) < (rd 0 most s).2 then (⟨(rd 0 most s).1.b, 3⟩, []) else
    (⟨(rd 0 most s).1.b.drop (rd 0 most s).2.toNat, 0⟩, (rd 0 most s).1.b.take (rd 0 most s).2.toNat)
def endR (s : Rs) : Int := if s.e = 0 ∧ 0 < s.b.length then 2 else s.e
theorem lead_le (b : List Int) : lead b ≤ 10 ∧ lead b ≤ b.length := by
  have : ∀ (k : Nat) (b : List Int), leadK k b ≤ k ∧ leadK k b ≤ b.length := by
    intro k
    induction k with
    | zero => intro b; simp [leadK]
    | succ k ih =>
      intro b
      cases b with
      | nil => simp [leadK]
      | cons x l =>
        have := ih l
        rw [leadK]
        split <;> simp <;> omega
  exact this 10 b
theorem ends_le (b : List Int) : (endsF b).1 ≤ 10 ∧ (endsF b).1 ≤ b.length := by
  have := lead_le b
  unfold endsF
  split
  · simp
  · split
    · simp
    · split
      · simp
      · rename_i h1 h2 _
        simp only
        omega
theorem ends_e (b : List Int) : (endsF b).2 = 0 ∨ (endsF b).2 = 2 ∨ (endsF b).2 = 3 := by
  unfold endsF
  split
  · simp
  · split
    · simp
    · split <;> simp
theorem ends_z {b : List Int} (h : (endsF b).2 ≠ 0) : (endsF b).1 = 0 := by
  unfold endsF at h ⊢
  split at h
  · rename_i c; rw [if_pos c]
  · rename_i c; rw [if_neg c]
    split at h
    · rename_i c; rw [if_pos c]
    · rename_i c; rw [if_neg c]
      split at h
      · rename_i c; rw [if_pos c]
      · simp at h
theorem Does_of {p : AP} {f : FuncId} {l gs : List V} {v : V} {l' : List V} (hi : p.inlY f = true) (h1 : groundL l = true) (h2 : groundL gs = true) (h3 : ground v = true) (h4 : groundL l' = true)
    (h : WFun p f (.ptr 0 0 :: gs) [.live l] fun r H => r = .ret v ∧ ∃ Hx, H = .live l' :: Hx) : Does p f l gs v l' := by
  obtain ⟨n, r, H, e, rfl, Hx, rfl⟩ := h
  exact ⟨hi, h1, h2, h3, h4, n, Hx, e⟩
theorem err_s (b : List Int) (e : Int) : Does p 53 [byV b, .int .i64 e] [] (.int .i64 e) [byV b, .int .i64 e] := by
  refine Does_of (by kernel_rfl) (by simp) rfl rfl (by simp) ?_
  refine WFun_of w53 rfl rfl k53 ?_
  simp -dsimp [w53]
theorem new_s (b : List Int) {H : List Ob} {Q : CR → List Ob → Prop} (hq : Q (.ret (.ptr H.length 0)) (H ++ [.live [byV b, .int .i64 0]])) : xCall p 21 [byV b] H Q := by
  have h0 : refsL [byV b] = [] := groundL_refs _ (by simp)
  refine WCall_inl (by kernel_rfl) (ids := []) (by rw [h0]; rfl) ?_
  rw [groundL_ren _ [byV b] (by simp)]
  refine WFun_of w21 rfl rfl k21 ?_
  simp -dsimp [w21]
  have ra : ∀ g, ren g (byV b) = byV b := fun g => ground_ren g _ (byV.gd b)
  simpa [renR, ren, renL, backH, crV, refs, refsL, setAll, renOb, backK, ra] using hq
theorem ends_s (b : List Int) (e : Int) (hb : b.length ≤ 10000000) : Does p 74 [byV b, .int .i64 e] [] (.tuple [.int .i64 (endsF b).1, .int .i64 (endsF b).2]) [byV b, .int .i64 e] := by
  refine Does_of (by kernel_rfl) (by simp) rfl rfl (by simp) ?_
  refine WFun_of w74 rfl rfl k74 ?_
  simp -dsimp [w74]
  refine xL_by (by kernel_rfl) (fun k ee H => ∃ i : Nat, i ≤ b.length ∧ (i < 10) ∧ k = b.length - i ∧ ee 0 = .ptr 0 0 ∧ ee 9 = byV b ∧ ee 10 = .int .i64 b.length ∧ ee 11 = .int .i64 i ∧ H = [.live [byV b, .int .i64 e]] ∧ lead b = i + leadK (10 - i) (b.drop i) ∧ (i = 0 ∨ gt b 0 ≠ 128)) b.length ?_ ?_
  · refine ⟨0, by omega, by omega, rfl, ?_⟩
    simp -dsimp [lead]
  · rintro k ee H ⟨i, hi, hi10, hk, h0, h9, h10, h11, rfl, hl, hn⟩
    by_cases c1 : i < b.length
    · have g1 : b[i]?.getD default = b[i] := by simp [c1]
      have g2 : b[i] = gt b i := gt_at c1
      have w2 : IntKind.i64.wrap ((i : Int) + 1) = ((i + 1 : Nat) : Int) := by rw [Fz.w64 (by omega) (by omega)]; omega
      have cz : decide ((i : Int) = 0) = decide (i = 0) := decide_eq_decide.2 (by omega)
      have c9 : decide ((i : Int) = 9) = decide (i = 9) := decide_eq_decide.2 (by omega)
      have hg0 : 0 < b.length := by omega
      have g0 : b[0] = gt b 0 := gt_at hg0
      have w1 : IntKind.i64.wrap 1 = 1 := Fz.w64 (by omega) (by omega)
      have w10 : IntKind.i64.wrap 10 = 10 := Fz.w64 (by omega) (by omega)
      by_cases d1 : i = 0 ∧ gt b i = 128
      · obtain ⟨d1, d1'⟩ := d1
        subst d1
        have hE : endsF b = (0, 2) := by
          unfold endsF
          rw [if_pos (.inl ⟨hg0, d1'⟩)]
        rw [hE]
        simp -dsimp [h0, h9, h10, h11, c1, g2, w2, d1', hg0]
      have n0 : gt b 0 ≠ 128 ∨ i = 0 := by omega
      have f1 : (decide (i = 0) && decide (gt b i = 128)) = false := by simp; omega
      by_cases d2 : gt b i < 128
      · have hlead : lead b = i := by rw [hl, leadK_stop c1 (by rw [g2]; omega)]; rfl
        have d2' : ¬ 128 ≤ gt b i := by omega
        have hne : gt b 0 ≠ 128 := by
          rcases hn with h | h
          · subst h; omega
          · exact h
        by_cases d3 : i = 9
        · subst d3
          by_cases d4 : 129 < gt b 0
          · have hE : endsF b = (0, 2) := by
              unfold endsF
              rw [if_neg (by rw [hlead]; omega), if_neg (by rw [hlead]; omega), if_pos ⟨hlead, d4⟩]
            rw [hE]
            simp -dsimp [h0, h9, h10, h11, c1, g2, w2, d2, d2', d4, g0, w1, w10, hg0]
            try omega
          · have hE : endsF b = (10, 0) := by
              unfold endsF
              rw [if_neg (by rw [hlead]; omega), if_neg (by rw [hlead]; omega), if_neg (by omega), hlead]
            rw [hE]
            simp -dsimp [h0, h9, h10, h11, c1, g2, w2, d2, d2', d4, g0, w1, w10, hg0]
            try omega
        · have hE : endsF b = (i + 1, 0) := by
            unfold endsF
            rw [if_neg (by rw [hlead]; omega), if_neg (by rw [hlead]; omega), if_neg (by omega), hlead]
          rw [hE]
          by_cases d5 : i = 0
          · subst d5
            have d6 : ¬ gt b 0 = 128 := hne
            simp -dsimp [h0, h9, h10, h11, c1, g2, w2, d2, d2', d6, w1, hg0]
          · have d5' : ¬ (i : Int) = 0 := by omega
            have d3' : ¬ (i : Int) = 9 := by omega
            simp -dsimp [h0, h9, h10, h11, c1, g2, w2, d2, d2', d3, d3', d5, d5', hg0]
      · have d2' : 128 ≤ gt b i := by omega
        have hgo := leadK_go (k := 9 - i) c1 (by rw [g2]; exact d2')
        rw [show 9 - i + 1 = 10 - i from by omega] at hgo
        by_cases d3 : i = 9
        · subst d3
          have hlead : lead b = 10 := by rw [hl, hgo]; simp [leadK]
          have hE : endsF b = (0, 2) := by
            unfold endsF
            rw [if_pos (.inr hlead)]
          rw [hE]
          simp -dsimp [h0, h9, h10, h11, c1, g2, w2, d2, d2', hg0]
          try omega
        · have d3' : ¬ (i : Int) = 9 := by omega
          have hnx : i + 1 = 0 ∨ gt b 0 ≠ 128 := by
            rcases hn with h | h
            · subst h; right; omega
            · exact .inr h
          have hl' : lead b = i + 1 + leadK (10 - (i + 1)) (b.drop (i + 1)) := by
            rw [hl, hgo, show 10 - (i + 1) = 9 - i from by omega]; omega
          by_cases d5 : i = 0
          · subst d5
            have d6 : ¬ gt b 0 = 128 := by omega
            simp -dsimp [h0, h9, h10, h11, c1, g2, w2, d2, d2', d6, w1, hg0]
            refine ⟨b.length - 1, by omega, 1, by omega, by omega, rfl, ?_⟩
            simp -dsimp [h0, h9, h10]
            exact ⟨by rw [← List.drop_one]; exact hl', d6⟩
          · have d5' : ¬ (i : Int) = 0 := by omega
            simp -dsimp [h0, h9, h10, h11, c1, g2, w2, d2, d2', d3, d3', d5, d5', hg0]
            refine ⟨b.length - (i + 1), by omega, i + 1, by omega, by omega, rfl, ?_⟩
            simp -dsimp [h0, h9, h10]
            rw [show 10 - (i + 1) = 9 - i from by omega] at hl'
            exact ⟨hl', by omega⟩
    · have hii : i = b.length := by omega
      subst hii
      have hlead : lead b = b.length := by rw [hl, leadK_end (by omega)]; rfl
      have hE : endsF b = (0, 3) := by
        unfold endsF
        rw [if_neg (by omega), if_pos hlead]
      rw [hE]
      simp -dsimp [h0, h9, h10, h11]
end Fz.D
set_option maxRecDepth 100000
namespace Fz.D
open Go
theorem does_go {p : AP} {f : FuncId} {l gs : List V} {v : V} {l' : List V} {H : List Ob} {i : Nat} {Q : CR → List Ob → Prop} (h : Does p f l gs v l') (hi : H[i]? = some (.live l)) (hq : Q (.ret v) (H.set i (.live l'))) : xCall p f (.ptr i 0 :: gs) H Q := by
  show WCall p f (.ptr i 0 :: gs) H Q
  rw [WCall_does h hi]; exact hq
theorem shl_or (v c : Int) (hv : 0 ≤ v) (hc : 0 ≤ c) (hc2 : c < 128) : IntKind.u64.wrap ((((IntKind.u64.wrap (v * 2 ^ min 7 IntKind.u64.bits) % 2 ^ IntKind.u64.bits).toNat ||| (c % 2 ^ IntKind.u64.bits).toNat : Nat)) : Int) = (v * 128 + c) % 18446744073709551616 := by
  have b1 : (2 : Int) ^ min 7 IntKind.u64.bits = 128 := by decide
  have b2 : (2 : Int) ^ IntKind.u64.bits = 18446744073709551616 := by decide
  have w : ∀ a : Int, IntKind.u64.wrap a = a % 18446744073709551616 := fun a => rfl
  rw [b1, b2]
  simp only [w]
  obtain ⟨q, hq⟩ : ∃ q : Nat, (v * 128 % 18446744073709551616 % 18446744073709551616).toNat = q * 128 := ⟨((v * 128 % 18446744073709551616).toNat / 128), by omega⟩
  have hc' : (c % 18446744073709551616).toNat = c.toNat := by omega
  rw [hq, hc']
  have e2 : q * 128 ||| c.toNat = q * 128 + c.toNat := by
    have := Nat.two_pow_add_eq_or_of_lt (i := 7) (b := c.toNat) (by omega) q
    rw [show (2 : Nat) ^ 7 * q = q * 128 from by omega] at this
    exact this.symm
  rw [e2]
  omega
theorem unzz_bits (x : Int) (h0 : 0 ≤ x) (h1 : x < 18446744073709551616) : IntKind.i64.wrap (IntKind.u64.wrap ((((x.fdiv (2 ^ min 1 IntKind.u64.bits)) % 2 ^ IntKind.u64.bits).toNat ^^^ (IntKind.u64.wrap (-IntKind.u64.wrap (((x % 2 ^ IntKind.u64.bits).toNat &&& 1 % 2 ^ IntKind.u64.bits : Nat)) : Int) % 2 ^ IntKind.u64.bits).toNat : Nat))) = unzz x := by
  have b1 : (2 : Int) ^ min 1 IntKind.u64.bits = 2 := by decide
  have b2 : (2 : Int) ^ IntKind.u64.bits = 18446744073709551616 := by decide
  have b3 : 1 % 2 ^ IntKind.u64.bits = 1 := by decide
  have w : ∀ a : Int, IntKind.u64.wrap a = a % 18446744073709551616 := fun a => rfl
  rw [b1, b2, b3]
  simp only [w]
  have f : x.fdiv 2 = x / 2 := Int.fdiv_eq_ediv_of_nonneg _ (by omega)
  have e1 : (x % 18446744073709551616).toNat &&& 1 = (x % 2).toNat := by rw [Nat.and_one_is_mod]; omega
  have e2 : (x.fdiv 2 % 18446744073709551616).toNat = (x / 2).toNat := by rw [f]; omega
  rw [e1, e2]
  unfold unzz
  split
  · rename_i h
    rw [h]
    have e3 : ((-(((0 : Int).toNat : Nat) : Int) % 18446744073709551616) % 18446744073709551616 % 18446744073709551616).toNat = 0 := by decide
    have e4 : ((-((((0 : Int).toNat : Nat) : Int) % 18446744073709551616)) % 18446744073709551616 % 18446744073709551616).toNat = 0 := by decide
    rw [e4, Nat.xor_zero, Fz.w64 (by omega) (by omega)]
    omega
  · rename_i h
    have h1 : x % 2 = 1 := by omega
    rw [h1]
    have e4 : ((-((((1 : Int).toNat : Nat) : Int) % 18446744073709551616)) % 18446744073709551616 % 18446744073709551616).toNat = 18446744073709551615 := by decide
    rw [e4, xor_ones (by omega)]
    have e5 : ((18446744073709551615 - (x / 2).toNat : Nat) : Int) % 18446744073709551616 = 18446744073709551615 - x / 2 := by omega
    rw [e5]
    rw [IntKind.wrap_i64]
    omega
theorem num1_s {bb : List Int} {nv er : Int} {K : Bool → List Ob → Prop} (hk : K false [.live [byV bb, .int .i64 er], .live [.ptr 0 0], .live [.int .i64 (if er = 0 then nv else 0)], .live [.int .i64 er]]) :
    WDef p (.fn (.func 75) [] [.ptr 3 0, .ptr 1 0, .ptr 2 0]) none [.live [byV bb, .int .i64 0], .live [.ptr 0 0], .live [.int .i64 nv], .live [.int .i64 er]] K := by
  refine WDef_of w75 rfl rfl k75 (by kernel_rfl) ?_
  by_cases h : er = 0
  · rw [if_pos h] at hk
    subst h
    simp -dsimp [w75, finD]
    exact hk
  · rw [if_neg h] at hk
    simp -dsimp [w75, finD, h]
    exact hk
theorem num_read {s : Rs} {lo hi : Int} (hb : s.b.length ≤ 10000000) (h8 : by8 s.b) : Does p 52 [byV s.b, .int .i64 s.e] [.int .i64 lo, .int .i64 hi] (.int .i64 (rd lo hi s).2) [byV (rd lo hi s).1.b, .int .i64 (rd lo hi s).1.e] := by
  refine Does_of (by kernel_rfl) (by simp) rfl rfl (by simp) ?_
  have ce := err_s s.b s.e
  have cn := ends_s s.b s.e hb
  have hres : w52.results = [(6, some (false, 1))] := rfl
  refine WFun_dfr w52 rfl rfl rfl kd52 ?_
  by_cases he : s.e ≠ 0
  · have hr : rd lo hi s = (s, 0) := by unfold rd; rw [if_pos he]
    rw [hr]
    simp -dsimp [w52, wPre]
    refine does_go ce rfl ?_
    simp -dsimp [he, hres]
  · have he0 : s.e = 0 := by omega
    simp -dsimp [w52, wPre]
    refine does_go ce rfl ?_
    simp -dsimp [he0]
    rw [he0] at cn
    simp -dsimp [wPre]
    refine does_go cn rfl ?_
    have hle := ends_le s.b
    have hez := @ends_z s.b
    have hee := ends_e s.b
    have hrd : rd lo hi s = if (endsF s.b).2 ≠ 0 then (⟨s.b, (endsF s.b).2⟩, 0) else if unzz (valU (s.b.take (endsF s.b).1)) < lo ∨ hi < unzz (valU (s.b.take (endsF s.b).1)) then (⟨s.b.drop (endsF s.b).1, 2⟩, 0) else (⟨s.b.drop (endsF s.b).1, 0⟩, unzz (valU (s.b.take (endsF s.b).1))) := by
      conv => lhs; unfold rd
      rw [if_neg he]
    rw [hrd]
    generalize (endsF s.b).1 = m at *
    generalize (endsF s.b).2 = er at *
    simp -dsimp [wPre, -List.map_take, tk_map]
    refine ⟨hle.2, ?_⟩
    obtain ⟨tk, htk⟩ : ∃ tk, tk = s.b.take m := ⟨_, rfl⟩
    have htl : tk.length = m := by rw [htk]; simp; omega
    refine xL_by (by kernel_rfl) (fun k e H => ∃ i : Nat, i ≤ m ∧ k = m - i ∧ e 1 = .int .i64 lo ∧ e 2 = .int .i64 hi ∧ e 3 = .ptr 1 0 ∧ e 6 = .ptr 2 0 ∧ e 7 = .int .i64 m ∧ e 8 = .ptr 3 0 ∧ e 26 = byV tk ∧ e 27 = .int .i64 m ∧ e 28 = .int .i64 i ∧ e 9 = .int .u64 (valU (s.b.take i)) ∧ H = [.live [byV s.b, .int .i64 0], .live [.ptr 0 0], .live [.int .i64 0], .live [.int .i64 er]]) m ?_ ?_
    · refine ⟨0, by omega, by omega, ?_⟩
      simp -dsimp [-List.map_take, tk_map, valU, byV, htk]
      try omega
    · rintro k e H ⟨i, hi1, hk, h1, h2, h3, h6, h7, h8', h26, h27, h28, h9, rfl⟩
      have hvr := valU_rng (s.b.take i)
      by_cases c1 : i < m
      · have cl : i < s.b.length := by omega
        have cl2 : i < tk.length := by omega
        have g1 : tk[i] = s.b[i] := by simp [htk]
        have hc := h8 s.b[i] (List.getElem_mem cl)
        have w2 : IntKind.i64.wrap ((i : Int) + 1) = ((i + 1 : Nat) : Int) := by rw [Fz.w64 (by omega) (by omega)]; omega
        have hst : valU (s.b.take (i + 1)) = val1 (valU (s.b.take i)) s.b[i] := by
          unfold valU
          rw [List.take_succ_eq_append_getElem cl, List.foldl_append]; rfl
        have tm : s.b[i].tmod 128 = s.b[i] % 128 := Int.tmod_eq_emod_of_nonneg hc.1
        have wc : IntKind.u64.wrap (s.b[i] % 128) = s.b[i] % 128 := u64 (by omega) (by omega)
        have so := shl_or (valU (s.b.take i)) (s.b[i] % 128) hvr.1 (by omega) (by omega)
        simp -dsimp [h1, h2, h3, h6, h7, h8', h26, h27, h28, h9, c1, cl, cl2, g1, tm, wc, so, w2]
        refine ⟨m - (i + 1), by omega, i + 1, by omega, rfl, ?_⟩
        simp -dsimp [h1, h2, h3, h6, h7, h8', h26, h27]
        rw [hst]; rfl
      · have hii : i = m := by omega
        subst hii
        have ub := unzz_bits _ hvr.1 hvr.2
        by_cases c2 : er = 0
        · by_cases c3 : unzz (valU (s.b.take i)) < lo
          · simp -dsimp [-List.map_drop, drop_map, map_tail2, h1, h2, h3, h6, h7, h8', h26, h27, h28, h9, ub, c2, c3]
            refine ⟨hle.2, num1_s (bb := s.b.drop i) ?_⟩
            simp -dsimp [hres, h6]
          · by_cases c4 : hi < unzz (valU (s.b.take i))
            · simp -dsimp [-List.map_drop, drop_map, map_tail2, h1, h2, h3, h6, h7, h8', h26, h27, h28, h9, ub, c2, c3, c4]
              refine ⟨hle.2, num1_s (bb := s.b.drop i) ?_⟩
              simp -dsimp [hres, h6]
            · simp -dsimp [-List.map_drop, drop_map, map_tail2, h1, h2, h3, h6, h7, h8', h26, h27, h28, h9, ub, c2, c3, c4]
              refine ⟨hle.2, num1_s (bb := s.b.drop i) ?_⟩
              simp -dsimp [hres, h6]
        · simp -dsimp [-List.map_drop, drop_map, map_tail2, h1, h2, h3, h6, h7, h8', h26, h27, h28, h9, ub, c2]
          have hz := hez c2
          subst hz
          refine ⟨hle.2, num1_s (bb := s.b) ?_⟩
          simp -dsimp [hres, h6, c2]
theorem rd_len (lo hi : Int) (s : Rs) : (rd lo hi s).1.b.length ≤ s.b.length := by
  unfold rd
  split
  · exact Nat.le_refl _
  · split
    · exact Nat.le_refl _
    · split <;> simp
theorem rd_by {lo hi : Int} {s : Rs} (h : by8 s.b) : by8 (rd lo hi s).1.b := by
  unfold rd
  split
  · exact h
  · split
    · exact h
    · split <;> exact fun x hx => h x (List.mem_of_mem_drop hx)
theorem rd_ok {lo hi : Int} {s : Rs} (h : (rd lo hi s).1.e = 0) : lo ≤ (rd lo hi s).2 ∧ (rd lo hi s).2 ≤ hi := by
  unfold rd at h ⊢
  split at h
  · rename_i c; exact absurd h c
  · rename_i c
    rw [if_neg c]
    split at h
    · rename_i c2; exact absurd h c2
    · rename_i c2
      rw [if_neg c2]
      split at h
      · simp at h
      · rename_i c3
        rw [if_neg c3]
        simp only
        omega
theorem rd_err {lo hi : Int} {s : Rs} (h : (rd lo hi s).1.e ≠ 0) : (rd lo hi s).2 = 0 := by
  unfold rd at h ⊢
  split
  · rfl
  · split
    · rfl
    · split
      · rfl
      · rename_i c c2 c3
        rw [if_neg c, if_neg c2, if_neg c3] at h
        exact absurd rfl h
theorem rdT_eq (most : Int) (s : Rs) (he : (rd 0 most s).1.e = 0) (hn : ¬ ((rd 0 most s).1.b.length : Int) < (rd 0 most s).2) : rdT most s = (⟨(rd 0 most s).1.b.drop (rd 0 most s).2.toNat, 0⟩, (rd 0 most s).1.b.take (rd 0 most s).2.toNat) := by
  unfold rdT; rw [if_neg (by rw [he]; simp), if_neg hn]
theorem text_read {s : Rs} {most : Int} (hb : s.b.length ≤ 10000000) (h8 : by8 s.b) : Does p 23 [byV s.b, .int .i64 s.e] [.int .i64 most] (byT (rdT most s).2) [byV (rdT most s).1.b, .int .i64 (rdT most s).1.e] := by
  refine Does_of (by kernel_rfl) (by simp) rfl (by simp) (by simp) ?_
  have cn := num_read (lo := 0) (hi := most) hb h8
  have ce := err_s (rd 0 most s).1.b (rd 0 most s).1.e
  have hok := @rd_ok 0 most s
  refine WFun_of w23 rfl rfl k23 ?_
  simp -dsimp [w23]
  refine does_go cn rfl ?_
  simp -dsimp
  refine does_go ce rfl ?_
  by_cases he : (rd 0 most s).1.e = 0
  · have hok := hok he
    by_cases hn : ((rd 0 most s).1.b.length : Int) < (rd 0 most s).2
    · have hT : rdT most s = (⟨(rd 0 most s).1.b, 3⟩, []) := by unfold rdT; rw [if_neg (by rw [he]; simp), if_pos hn]
      rw [hT]
      simp -dsimp [he, hn, byT]
    · have hT := rdT_eq most s he hn
      rw [hT]
      simp -dsimp [-List.map_drop, drop_map, map_tail2, -List.map_take, tk_map, he, hn, byT]
      refine ⟨by omega, by omega, by omega, by omega, ?_⟩
      rw [show List.take ((rd 0 most s).1.b.length - (rd 0 most s).2.toNat) (List.drop (rd 0 most s).2.toNat (rd 0 most s).1.b) = List.drop (rd 0 most s).2.toNat (rd 0 most s).1.b from List.take_of_length_le (by simp)]
      rfl
  · have hT : rdT most s = ((rd 0 most s).1, []) := by unfold rdT; rw [if_pos he]
    rw [hT]
    simp -dsimp [he, byT]
theorem end_read (s : Rs) : Does p 25 [byV s.b, .int .i64 s.e] [] (.int .i64 (endR s)) [byV s.b, .int .i64 s.e] := by
  refine Does_of (by kernel_rfl) (by simp) rfl rfl (by simp) ?_
  have ce := err_s s.b s.e
  refine WFun_of w25 rfl rfl k25 ?_
  simp -dsimp [w25]
  refine does_go ce rfl ?_
  by_cases he : s.e = 0
  · by_cases hb : 0 < s.b.length
    · have hE : endR s = 2 := by unfold endR; rw [if_pos ⟨he, hb⟩]
      rw [hE]
      simp -dsimp [he, hb]
    · have hE : endR s = s.e := by unfold endR; rw [if_neg (fun h => hb h.2)]
      rw [hE]
      simp -dsimp [he, hb]
      rw [he] at ce
      refine does_go ce (by simp [he]) ?_
      simp -dsimp [he]
  · have hE : endR s = s.e := by unfold endR; rw [if_neg (fun h => he h.1)]
    rw [hE]
    simp -dsimp [he]
    refine does_go ce rfl ?_
    simp -dsimp
end Fz.D
set_option maxRecDepth 100000
namespace Fz.D
open Go
abbrev Rd (s : Rs) : Ob := .live [byV s.b, .int .i64 s.e]
structure RsOk (s : Rs) : Prop where
  len : s.b.length ≤ 10000000
  by_ : by8 s.b
def rdN (s : Rs) : Rs × Int := rd (-9223372036854775808) 9223372036854775807 s
theorem rd_rs {lo hi : Int} {s : Rs} (h : RsOk s) : RsOk (rd lo hi s).1 := ⟨Nat.le_trans (rd_len lo hi s) h.len, rd_by h.by_⟩
theorem rdN_rs {s : Rs} (h : RsOk s) : RsOk (rdN s).1 := rd_rs h
theorem rdT_rs {m : Int} {s : Rs} (h : RsOk s) : RsOk (rdT m s).1 := by
  have h1 := rd_rs (lo := 0) (hi := m) h
  unfold rdT
  split
  · exact h1
  · split
    · exact ⟨h1.len, h1.by_⟩
    · exact ⟨by have := h1.len; simp; omega, fun x hx => h1.by_ x (List.mem_of_mem_drop hx)⟩
theorem rdT_by {m : Int} {s : Rs} (h : RsOk s) : by8 (rdT m s).2 := by
  have h1 := rd_rs (lo := 0) (hi := m) h
  unfold rdT
  split
  · exact by8_nil
  · split
    · exact by8_nil
    · exact fun x hx => h1.by_ x (List.mem_of_mem_take hx)
theorem num_go {s : Rs} {lo hi : Int} {H : List Ob} {i : Nat} {Q : CR → List Ob → Prop} (h : RsOk s) (hi' : H[i]? = some (Rd s)) (hq : Q (.ret (.int .i64 (rd lo hi s).2)) (H.set i (Rd (rd lo hi s).1))) : xCall p 52 [.ptr i 0, .int .i64 lo, .int .i64 hi] H Q := does_go (num_read h.len h.by_) hi' hq
theorem text_go {s : Rs} {m : Int} {H : List Ob} {i : Nat} {Q : CR → List Ob → Prop} (h : RsOk s) (hi' : H[i]? = some (Rd s)) (hq : Q (.ret (byT (rdT m s).2)) (H.set i (Rd (rdT m s).1))) : xCall p 23 [.ptr i 0, .int .i64 m] H Q := does_go (text_read h.len h.by_) hi' hq
theorem err_go {s : Rs} {H : List Ob} {i : Nat} {Q : CR → List Ob → Prop} (hi' : H[i]? = some (Rd s)) (hq : Q (.ret (.int .i64 s.e)) H) : xCall p 53 [.ptr i 0] H Q := does_go (err_s s.b s.e) hi' (by rw [set_same hi']; exact hq)
theorem rd_refs (s : Rs) : refsOb (Rd s) = [] := groundL_refs _ (by simp)
theorem rd_ren (s : Rs) (g : Nat → Nat) : renOb g (Rd s) = Rd s := by
  show Ob.live (renL g _) = _
  rw [groundL_ren _ _ (by simp)]
theorem take1_call {H : List Ob} {i j : Nat} {s : Rs} {Q : CR → List Ob → Prop} (h : RsOk s) (hij : i ≠ j) (hi : H[i]? = some (.live [.ptr j 0])) (hj : H[j]? = some (Rd s)) (hq : Q (.ret (.int .i64 (rdN s).2)) (H.set j (Rd (rdN s).1))) :
    xCall p 56 [.ptr i 0] H Q := by
  have h0 : refsL [.ptr i 0] = [i] := by simp [refsL, refs]
  have hr : reach H 1000 (refsL [.ptr i 0]) [] = some [i, j] := by
    rw [h0]
    refine (reach_go (k := 999) rfl hi).trans ?_
    simp only [refsOb, refsL, refs, List.nil_append, List.append_nil]
    refine (reach_go (k := 998) (by simp; omega) hj).trans ?_
    rw [rd_refs]
    exact reach_end (k := 997)
  refine WCall_inl (by kernel_rfl) hr ?_
  have i0 : List.idxOf i [i, j] = 0 := by simp
  have hb : (i == j) = false := by simp [hij]
  have i1 : List.idxOf j [i, j] = 1 := by simp [List.idxOf_cons, hb]
  have e1 : renL (fun x => List.idxOf x [i, j]) [.ptr i 0] = [.ptr 0 0] := by simp [renL, ren]
  have e2 : (([i, j] : List Nat).map fun x => renOb (fun x => List.idxOf x [i, j]) (H[x]?.getD .dead)) = [.live [.ptr 1 0], Rd s] := by
    simp only [List.map_cons, List.map_nil, hi, hj, Option.getD_some, rd_ren]
    simp [renOb, renL, ren, i1]
  rw [e1, e2]
  refine WFun_of w56 rfl rfl k56 ?_
  simp -dsimp [w56]
  refine num_go h rfl ?_
  simp -dsimp
  have b0 : backK [i, j] H.length 0 = i := rfl
  have b1 : backK [i, j] H.length 1 = j := rfl
  have e3 : backH [i, j] (.ret (.int .i64 (rdN s).2)) [.live [.ptr 1 0], Rd (rdN s).1] H = H.set j (Rd (rdN s).1) := by
    unfold backH
    rw [if_neg (by simp [crV, refs, refsOb, refsL, groundL_refs, byV])]
    show setAll H [i, j] [renOb _ (.live [.ptr 1 0]), renOb _ (Rd _)] = _
    rw [rd_ren]
    simp [setAll, renOb, renL, ren, b1, set_same hi]
  show Q (renR _ (.ret (.int .i64 (rdN s).2))) (backH [i, j] (.ret (.int .i64 (rdN s).2)) [.live [.ptr 1 0], Rd (rdN s).1] H)
  rw [e3]
  simpa [renR, ren] using hq
def rdRun (s : Rs) : Rs × Rn := ((rdT 65536 (rdN s).1).1, ⟨(rdN s).2, (rdT 65536 (rdN s).1).2⟩)
def rdSlo (s : Rs) : Rs × Slo := ((rd 0 1 (rdN s).1).1, ⟨(rdN s).2, decide ((rd 0 1 (rdN s).1).2 = 1)⟩)
def rdWor (s : Rs) : Rs × Wor := ((rd 0 3 (rdN (rdT 65536 s).1).1).1, ⟨bstr (rdT 65536 s).2, (rdN (rdT 65536 s).1).2, decide ((rd 0 3 (rdN (rdT 65536 s).1).1).2 % 2 = 1), decide (2 ≤ (rd 0 3 (rdN (rdT 65536 s).1).1).2)⟩)
def rdSpo (s : Rs) : Rs × Spo := ((rdN (rdN s).1).1, ⟨(rdN s).2, (rdN (rdN s).1).2⟩)
theorem rd_nn (hi : Int) (s : Rs) : 0 ≤ (rd 0 hi s).2 := by
  by_cases h : (rd 0 hi s).1.e = 0
  · exact (rd_ok h).1
  · rw [rd_err h]; omega
theorem rdRun_rs {s : Rs} (h : RsOk s) : RsOk (rdRun s).1 := rdT_rs (rdN_rs h)
theorem rdSlo_rs {s : Rs} (h : RsOk s) : RsOk (rdSlo s).1 := rd_rs (rdN_rs h)
theorem rdWor_rs {s : Rs} (h : RsOk s) : RsOk (rdWor s).1 := rd_rs (rdN_rs (rdT_rs h))
theorem rdSpo_rs {s : Rs} (h : RsOk s) : RsOk (rdSpo s).1 := rdN_rs (rdN_rs h)
abbrev Bx5 (b : Nat) : Ob := .live [.fn (.func 56) [] [.ptr b 0]]
abbrev Bx4 (j : Nat) : Ob := .live [.ptr j 0]
theorem take2_call {H : List Ob} {a b j : Nat} {s : Rs} {Q : CR → List Ob → Prop} (h : RsOk s) (hab : a ≠ b) (haj : a ≠ j) (hbj : b ≠ j) (ha : H[a]? = some (Bx5 b)) (hb : H[b]? = some (Bx4 j)) (hj : H[j]? = some (Rd s)) (hq : Q (.ret (runT (rdRun s).2)) (H.set j (Rd (rdRun s).1))) :
    xCall p 58 [.ptr a 0, .ptr b 0] H Q := by
  have h0 : refsL [.ptr a 0, .ptr b 0] = [a, b] := by simp [refsL, refs]
  have rb : refs (byV s.b) = [] := ground_refs _ (byV.gd _)
  have x1 : (a == b) = false := by simp [hab]
  have x2 : (a == j) = false := by simp [haj]
  have x3 : (b == j) = false := by simp [hbj]
  have x4 : (b == a) = false := by simp [Ne.symm hab]
  have hr : reach H 1000 (refsL [.ptr a 0, .ptr b 0]) [] = some [a, b, j] := by
    rw [h0]
    refine (reach_go (k := 999) (by simp) ha).trans ?_
    simp only [rb, refsOb, refsL, refs, List.nil_append, List.append_nil, List.cons_append]
    refine (reach_go (k := 998) (by simp; omega) hb).trans ?_
    simp only [rb, refsOb, refsL, refs, List.nil_append, List.append_nil, List.cons_append]
    refine (reach_skip (k := 997) (by simp)).trans ?_
    refine (reach_go (k := 996) (by simp; omega) hj).trans ?_
    simp only [rb, refsOb, refsL, refs, List.nil_append, List.append_nil, List.cons_append]
    exact reach_end (k := 995)
  refine WCall_inl (by kernel_rfl) hr ?_
  have i0 : List.idxOf a [a, b, j] = 0 := by simp [List.idxOf_cons]
  have i1 : List.idxOf b [a, b, j] = 1 := by simp [List.idxOf_cons, x1, x2, x3, x4]
  have i2 : List.idxOf j [a, b, j] = 2 := by simp [List.idxOf_cons, x1, x2, x3, x4]
  have e1 : renL (fun x => List.idxOf x [a, b, j]) [.ptr a 0, .ptr b 0] = [.ptr 0 0, .ptr 1 0] := by simp only [renL, ren, i0, i1, i2]
  have e2 : (([a, b, j] : List Nat).map fun x => renOb (fun x => List.idxOf x [a, b, j]) (H[x]?.getD .dead)) = [Bx5 1, Bx4 2, Rd s] := by
    simp only [List.map_cons, List.map_nil, ha, hb, hj, Option.getD_some, rd_ren]
    simp only [renOb, renL, ren, i0, i1, i2]
  rw [e1, e2]
  refine WFun_of w58 rfl rfl k58 ?_
  simp -dsimp [w58]
  refine take1_call (j := 2) h (by omega) rfl rfl ?_
  simp -dsimp
  refine text_go (rdN_rs h) rfl ?_
  simp -dsimp
  have e3 : backH [a, b, j] (.ret (runT (rdRun s).2)) [Bx5 1, Bx4 2, Rd (rdRun s).1, .live [.int .i64 (rdN s).2, byT (rdT 65536 (rdN s).1).2]] H = H.set j (Rd (rdRun s).1) := by
    have g1 : refs (runT (rdRun s).2) = [] := ground_refs _ (by simp)
    unfold backH
    rw [if_neg (by simp [crV, g1, refsOb, refsL, refs, byV])]
    show setAll H [a, b, j] [renOb _ (Bx5 1), renOb _ (Bx4 2), renOb _ (Rd _)] = _
    rw [rd_ren]
    simp only [renOb, renL, ren, setAll]
    simp only [show backK [a, b, j] H.length 0 = a from rfl, show backK [a, b, j] H.length 1 = b from rfl, show backK [a, b, j] H.length 2 = j from rfl]
    rw [set_same ha, set_same hb]
  have g2 : ∀ g, ren g (runT (rdRun s).2) = runT (rdRun s).2 := fun g => ground_ren g _ (by simp)
  show Q (renR _ (.ret (runT (rdRun s).2))) (backH [a, b, j] (.ret (runT (rdRun s).2)) [Bx5 1, Bx4 2, Rd (rdRun s).1, .live [.int .i64 (rdN s).2, byT (rdT 65536 (rdN s).1).2]] H)
  rw [e3, renR, g2]
  exact hq
theorem take3_call {H : List Ob} {a b j : Nat} {s : Rs} {Q : CR → List Ob → Prop} (h : RsOk s) (hab : a ≠ b) (haj : a ≠ j) (hbj : b ≠ j) (ha : H[a]? = some (Bx5 b)) (hb : H[b]? = some (Bx4 j)) (hj : H[j]? = some (Rd s)) (hq : Q (.ret (sloV (rdSlo s).2)) (H.set j (Rd (rdSlo s).1))) :
    xCall p 61 [.ptr a 0, .ptr b 0] H Q := by
  have h0 : refsL [.ptr a 0, .ptr b 0] = [a, b] := by simp [refsL, refs]
  have rb : refs (byV s.b) = [] := ground_refs _ (byV.gd _)
  have x1 : (a == b) = false := by simp [hab]
  have x2 : (a == j) = false := by simp [haj]
  have x3 : (b == j) = false := by simp [hbj]
  have x4 : (b == a) = false := by simp [Ne.symm hab]
  have hr : reach H 1000 (refsL [.ptr a 0, .ptr b 0]) [] = some [a, b, j] := by
    rw [h0]
    refine (reach_go (k := 999) (by simp) ha).trans ?_
    simp only [rb, refsOb, refsL, refs, List.nil_append, List.append_nil, List.cons_append]
    refine (reach_go (k := 998) (by simp; omega) hb).trans ?_
    simp only [rb, refsOb, refsL, refs, List.nil_append, List.append_nil, List.cons_append]
    refine (reach_skip (k := 997) (by simp)).trans ?_
    refine (reach_go (k := 996) (by simp; omega) hj).trans ?_
    simp only [rb, refsOb, refsL, refs, List.nil_append, List.append_nil, List.cons_append]
    exact reach_end (k := 995)
  refine WCall_inl (by kernel_rfl) hr ?_
  have i0 : List.idxOf a [a, b, j] = 0 := by simp [List.idxOf_cons]
  have i1 : List.idxOf b [a, b, j] = 1 := by simp [List.idxOf_cons, x1, x2, x3, x4]
  have i2 : List.idxOf j [a, b, j] = 2 := by simp [List.idxOf_cons, x1, x2, x3, x4]
  have e1 : renL (fun x => List.idxOf x [a, b, j]) [.ptr a 0, .ptr b 0] = [.ptr 0 0, .ptr 1 0] := by simp only [renL, ren, i0, i1, i2]
  have e2 : (([a, b, j] : List Nat).map fun x => renOb (fun x => List.idxOf x [a, b, j]) (H[x]?.getD .dead)) = [Bx5 1, Bx4 2, Rd s] := by
    simp only [List.map_cons, List.map_nil, ha, hb, hj, Option.getD_some, rd_ren]
    simp only [renOb, renL, ren, i0, i1, i2]
  rw [e1, e2]
  refine WFun_of w61 rfl rfl k61 ?_
  simp -dsimp [w61]
  refine take1_call (j := 2) h (by omega) rfl rfl ?_
  simp -dsimp
  refine num_go (rdN_rs h) rfl ?_
  simp -dsimp
  have e3 : backH [a, b, j] (.ret (sloV (rdSlo s).2)) [Bx5 1, Bx4 2, Rd (rdSlo s).1, .live [.int .i64 (rdN s).2, .bool (decide ((rd 0 1 (rdN s).1).2 = 1))]] H = H.set j (Rd (rdSlo s).1) := by
    have g1 : refs (sloV (rdSlo s).2) = [] := ground_refs _ (by simp)
    unfold backH
    rw [if_neg (by simp [crV, g1, refsOb, refsL, refs, byV])]
    show setAll H [a, b, j] [renOb _ (Bx5 1), renOb _ (Bx4 2), renOb _ (Rd _)] = _
    rw [rd_ren]
    simp only [renOb, renL, ren, setAll]
    simp only [show backK [a, b, j] H.length 0 = a from rfl, show backK [a, b, j] H.length 1 = b from rfl, show backK [a, b, j] H.length 2 = j from rfl]
    rw [set_same ha, set_same hb]
  have g2 : ∀ g, ren g (sloV (rdSlo s).2) = sloV (rdSlo s).2 := fun g => ground_ren g _ (by simp)
  show Q (renR _ (.ret (sloV (rdSlo s).2))) (backH [a, b, j] (.ret (sloV (rdSlo s).2)) [Bx5 1, Bx4 2, Rd (rdSlo s).1, .live [.int .i64 (rdN s).2, .bool (decide ((rd 0 1 (rdN s).1).2 = 1))]] H)
  rw [e3, renR, g2]
  exact hq
theorem take5_call {H : List Ob} {a b j : Nat} {s : Rs} {Q : CR → List Ob → Prop} (h : RsOk s) (hab : a ≠ b) (haj : a ≠ j) (hbj : b ≠ j) (ha : H[a]? = some (Bx5 b)) (hb : H[b]? = some (Bx4 j)) (hj : H[j]? = some (Rd s)) (hq : Q (.ret (spoV (rdSpo s).2)) (H.set j (Rd (rdSpo s).1))) :
    xCall p 65 [.ptr a 0] H Q := by
  have h0 : refsL [.ptr a 0] = [a] := by simp [refsL, refs]
  have rb : refs (byV s.b) = [] := ground_refs _ (byV.gd _)
  have x1 : (a == b) = false := by simp [hab]
  have x2 : (a == j) = false := by simp [haj]
  have x3 : (b == j) = false := by simp [hbj]
  have x4 : (b == a) = false := by simp [Ne.symm hab]
  have hr : reach H 1000 (refsL [.ptr a 0]) [] = some [a, b, j] := by
    rw [h0]
    refine (reach_go (k := 999) (by simp) ha).trans ?_
    simp only [rb, refsOb, refsL, refs, List.nil_append, List.append_nil, List.cons_append]
    refine (reach_go (k := 998) (by simp; omega) hb).trans ?_
    simp only [rb, refsOb, refsL, refs, List.nil_append, List.append_nil, List.cons_append]
    refine (reach_go (k := 997) (by simp; omega) hj).trans ?_
    simp only [rb, refsOb, refsL, refs, List.nil_append, List.append_nil, List.cons_append]
    exact reach_end (k := 996)
  refine WCall_inl (by kernel_rfl) hr ?_
  have i0 : List.idxOf a [a, b, j] = 0 := by simp [List.idxOf_cons]
  have i1 : List.idxOf b [a, b, j] = 1 := by simp [List.idxOf_cons, x1, x2, x3, x4]
  have i2 : List.idxOf j [a, b, j] = 2 := by simp [List.idxOf_cons, x1, x2, x3, x4]
  have e1 : renL (fun x => List.idxOf x [a, b, j]) [.ptr a 0] = [.ptr 0 0] := by simp only [renL, ren, i0, i1, i2]
  have e2 : (([a, b, j] : List Nat).map fun x => renOb (fun x => List.idxOf x [a, b, j]) (H[x]?.getD .dead)) = [Bx5 1, Bx4 2, Rd s] := by
    simp only [List.map_cons, List.map_nil, ha, hb, hj, Option.getD_some, rd_ren]
    simp only [renOb, renL, ren, i0, i1, i2]
  rw [e1, e2]
  refine WFun_of w65 rfl rfl k65 ?_
  simp -dsimp [w65]
  refine take1_call (j := 2) h (by omega) rfl rfl ?_
  simp -dsimp
  refine take1_call (j := 2) (rdN_rs h) (by omega) rfl rfl ?_
  simp -dsimp
  have e3 : backH [a, b, j] (.ret (spoV (rdSpo s).2)) [Bx5 1, Bx4 2, Rd (rdSpo s).1, .live [.int .i64 (rdN s).2, .int .i64 (rdN (rdN s).1).2]] H = H.set j (Rd (rdSpo s).1) := by
    have g1 : refs (spoV (rdSpo s).2) = [] := ground_refs _ (by simp)
    unfold backH
    rw [if_neg (by simp [crV, g1, refsOb, refsL, refs, byV])]
    show setAll H [a, b, j] [renOb _ (Bx5 1), renOb _ (Bx4 2), renOb _ (Rd _)] = _
    rw [rd_ren]
    simp only [renOb, renL, ren, setAll]
    simp only [show backK [a, b, j] H.length 0 = a from rfl, show backK [a, b, j] H.length 1 = b from rfl, show backK [a, b, j] H.length 2 = j from rfl]
    rw [set_same ha, set_same hb]
  have g2 : ∀ g, ren g (spoV (rdSpo s).2) = spoV (rdSpo s).2 := fun g => ground_ren g _ (by simp)
  show Q (renR _ (.ret (spoV (rdSpo s).2))) (backH [a, b, j] (.ret (spoV (rdSpo s).2)) [Bx5 1, Bx4 2, Rd (rdSpo s).1, .live [.int .i64 (rdN s).2, .int .i64 (rdN (rdN s).1).2]] H)
  rw [e3, renR, g2]
  exact hq
theorem take4_call {H : List Ob} {a b j : Nat} {s : Rs} {Q : CR → List Ob → Prop} (h : RsOk s) (hab : a ≠ b) (haj : a ≠ j) (hbj : b ≠ j) (ha : H[a]? = some (Bx5 b)) (hb : H[b]? = some (Bx4 j)) (hj : H[j]? = some (Rd s)) (hq : Q (.ret (worV (rdWor s).2)) (H.set j (Rd (rdWor s).1))) :
    xCall p 63 [.ptr b 0, .ptr a 0] H Q := by
  have h0 : refsL [.ptr b 0, .ptr a 0] = [b, a] := by simp [refsL, refs]
  have rb : refs (byV s.b) = [] := ground_refs _ (byV.gd _)
  have x1 : (a == b) = false := by simp [hab]
  have x2 : (a == j) = false := by simp [haj]
  have x3 : (b == j) = false := by simp [hbj]
  have x4 : (b == a) = false := by simp [Ne.symm hab]
  have hr : reach H 1000 (refsL [.ptr b 0, .ptr a 0]) [] = some [b, a, j] := by
    rw [h0]
    refine (reach_go (k := 999) (by simp) hb).trans ?_
    simp only [rb, refsOb, refsL, refs, List.nil_append, List.append_nil, List.cons_append]
    refine (reach_go (k := 998) (by simp; omega) ha).trans ?_
    simp only [rb, refsOb, refsL, refs, List.nil_append, List.append_nil, List.cons_append]
    refine (reach_go (k := 997) (by simp; omega) hj).trans ?_
    simp only [rb, refsOb, refsL, refs, List.nil_append, List.append_nil, List.cons_append]
    refine (reach_skip (k := 996) (by simp)).trans ?_
    exact reach_end (k := 995)
  refine WCall_inl (by kernel_rfl) hr ?_
  have i0 : List.idxOf b [b, a, j] = 0 := by simp [List.idxOf_cons]
  have i1 : List.idxOf a [b, a, j] = 1 := by simp [List.idxOf_cons, x1, x2, x3, x4]
  have i2 : List.idxOf j [b, a, j] = 2 := by simp [List.idxOf_cons, x1, x2, x3, x4]
  have e1 : renL (fun x => List.idxOf x [b, a, j]) [.ptr b 0, .ptr a 0] = [.ptr 0 0, .ptr 1 0] := by simp only [renL, ren, i0, i1, i2]
  have e2 : (([b, a, j] : List Nat).map fun x => renOb (fun x => List.idxOf x [b, a, j]) (H[x]?.getD .dead)) = [Bx4 2, Bx5 0, Rd s] := by
    simp only [List.map_cons, List.map_nil, ha, hb, hj, Option.getD_some, rd_ren]
    simp only [renOb, renL, ren, i0, i1, i2]
  rw [e1, e2]
  refine WFun_of w63 rfl rfl k63 ?_
  simp -dsimp [w63]
  refine text_go h rfl ?_
  have e8 := all8 (rdT_by (m := 65536) h)
  simp -dsimp [byT, e8, bstr_fold]
  refine WDraw_see (R := [Bx4 2, Bx5 0]) (by kernel_rfl) (by simp) ?_
  simp -dsimp
  refine take1_call (j := 2) (rdT_rs h) (by omega) rfl rfl ?_
  simp -dsimp
  refine num_go (rdN_rs (rdT_rs h)) rfl ?_
  simp -dsimp [Int.tmod_eq_emod_of_nonneg (rd_nn 3 (rdN (rdT 65536 s).1).1)]
  have e3 : backH [b, a, j] (.ret (worV (rdWor s).2)) [Bx4 2, Bx5 0, Rd (rdWor s).1, .live [.str (bstr (rdT 65536 s).2), .int .i64 (rdN (rdT 65536 s).1).2, .bool (decide ((rd 0 3 (rdN (rdT 65536 s).1).1).2 % 2 = 1)), .bool (decide (2 ≤ (rd 0 3 (rdN (rdT 65536 s).1).1).2))]] H = H.set j (Rd (rdWor s).1) := by
    have g1 : refs (worV (rdWor s).2) = [] := ground_refs _ (by simp)
    unfold backH
    rw [if_neg (by simp [crV, g1, refsOb, refsL, refs, byV])]
    show setAll H [b, a, j] [renOb _ (Bx4 2), renOb _ (Bx5 0), renOb _ (Rd _)] = _
    rw [rd_ren]
    simp only [renOb, renL, ren, setAll]
    simp only [show backK [b, a, j] H.length 0 = b from rfl, show backK [b, a, j] H.length 1 = a from rfl, show backK [b, a, j] H.length 2 = j from rfl]
    rw [set_same hb, set_same ha]
  have g2 : ∀ g, ren g (worV (rdWor s).2) = worV (rdWor s).2 := fun g => ground_ren g _ (by simp)
  show Q (renR _ (.ret (worV (rdWor s).2))) (backH [b, a, j] (.ret (worV (rdWor s).2)) [Bx4 2, Bx5 0, Rd (rdWor s).1, .live [.str (bstr (rdT 65536 s).2), .int .i64 (rdN (rdT 65536 s).1).2, .bool (decide ((rd 0 3 (rdN (rdT 65536 s).1).1).2 % 2 = 1)), .bool (decide (2 ≤ (rd 0 3 (rdN (rdT 65536 s).1).1).2))]] H)
  rw [e3, renR, g2]
  exact hq
end Fz.D
set_option maxRecDepth 100000
namespace Fz.D
open Go
def someK {α : Type} (f : Rs → Rs × α) : Nat → Rs → List α → Rs × List α
  | 0, s, acc => (s, acc)
  | k + 1, s, acc => if s.e ≠ 0 then (s, []) else someK f k (f s).1 (acc ++ [(f s).2])
def someF {α : Type} (f : Rs → Rs × α) (s : Rs) : Rs × List α := someK f (rd 0 65536 s).2.toNat (rd 0 65536 s).1 []
theorem rd_top (s : Rs) : 0 ≤ (rd 0 65536 s).2 ∧ (rd 0 65536 s).2 ≤ 65536 := by
  refine ⟨rd_nn _ _, ?_⟩
  by_cases h : (rd 0 65536 s).1.e = 0
  · exact (rd_ok h).2
  · rw [rd_err h]; omega
theorem someK_rs {α : Type} {f : Rs → Rs × α} (hf : ∀ s, RsOk s → RsOk (f s).1) : ∀ (k : Nat) (s : Rs) (acc : List α), RsOk s → RsOk (someK f k s acc).1
  | 0, s, acc, h => h
  | k + 1, s, acc, h => by
    unfold someK
    split
    · exact h
    · exact someK_rs hf k _ _ (hf s h)
theorem someF_rs {α : Type} {f : Rs → Rs × α} (hf : ∀ s, RsOk s → RsOk (f s).1) {s : Rs} (h : RsOk s) : RsOk (someF f s).1 := someK_rs hf _ _ _ (rd_rs h)
theorem accg_back {b m n : Nat} {g : Nat → Nat} {J : List Ob} {v : V} {l : List V} (hg : ∀ j, g (b + j) = m + j) (hl : groundL (flat l) = true) (h : Acc n b J v l) : Acc n m (J.map (renOb g)) (ren g v) l := by
  obtain ⟨h1, h2, h3⟩ := h
  refine ⟨h1, h2, ?_⟩
  rcases h3 with ⟨rfl, rfl⟩ | ⟨j, rfl, h4⟩
  · exact .inl ⟨rfl, by simp [ren, renL]⟩
  · refine .inr ⟨j, by simp [ren, hg], ?_⟩
    rw [List.getElem?_map, h4]
    simp only [Option.map_some, renOb]
    rw [groundL_ren g _ hl]
theorem acc_cases {n b : Nat} {J : List Ob} {v : V} {l : List V} (h : Acc n b J v l) : (v = .list [] true ∧ l = []) ∨ ∃ j, v = .own (b + j) 0 l.length n := by
  obtain ⟨_, _, h3⟩ := h
  rcases h3 with ⟨h3, h4⟩ | ⟨j, h3, _⟩
  · exact .inl ⟨h4, h3⟩
  · exact .inr ⟨j, h3⟩
theorem some_int {s : Rs} {Q : CR → List Ob → Prop} (h : RsOk s) (hq : ∀ v T, Acc 1 2 T v ((someF rdN s).2.map (V.int .i64)) → Q (.ret v) (Rd (someF rdN s).1 :: Bx4 0 :: T)) :
    WFun p 59 [.ptr 0 0, .fn (.func 56) [] [.ptr 1 0]] [Rd s, Bx4 0] Q := by
  have htop := rd_top s
  have hs0 := rd_rs (lo := 0) (hi := 65536) h
  have hsome : someF rdN s = someK rdN (rd 0 65536 s).2.toNat (rd 0 65536 s).1 [] := rfl
  refine WFun_of w59 rfl rfl k59 ?_
  simp -dsimp [w59]
  refine num_go h rfl ?_
  rw [hsome] at hq
  generalize (rd 0 65536 s).1 = s0 at *
  obtain ⟨N, hN⟩ : ∃ N : Nat, (rd 0 65536 s).2 = N := ⟨(rd 0 65536 s).2.toNat, by omega⟩
  rw [hN] at hq htop ⊢
  rw [Int.toNat_natCast] at hq
  simp -dsimp
  refine xL_by (by kernel_rfl) (fun k e H => ∃ (i : Nat) (v : V) (T : List Ob) (s1 : Rs) (acc : List Int), i ≤ N ∧ k = N - i ∧ e 0 = .ptr 0 0 ∧ e 1 = .fn (.func 56) [] [.ptr 1 0] ∧ e 7 = .int .i64 N ∧ e 8 = .int .i64 i ∧ e 5 = v ∧ H = Rd s1 :: Bx4 0 :: T ∧ RsOk s1 ∧ Acc 1 2 T v (acc.map (V.int .i64)) ∧ acc.length ≤ i ∧ someK rdN N s0 [] = someK rdN (N - i) s1 acc) N ?_ ?_
  · refine ⟨0, .list [] true, [], s0, [], by omega, rfl, ?_⟩
    simp -dsimp
    exact ⟨hs0, acc_nil (by decide)⟩
  · rintro k e H ⟨i, v, T, s1, acc, hi, hk, h0, h1, h7, h8, h5, rfl, hs, hac, hal, hsm⟩
    by_cases c1 : i < N
    · have hsu : N - i = (N - (i + 1)) + 1 := by omega
      have w2 : IntKind.i64.wrap ((i : Int) + 1) = ((i + 1 : Nat) : Int) := by rw [Fz.w64 (by omega) (by omega)]; omega
      simp -dsimp [h0, h1, h7, h8, h5, c1]
      refine err_go rfl ?_
      by_cases c2 : s1.e = 0
      · simp -dsimp [h0, h1, h7, h8, h5, c2]
        refine take1_call (j := 0) hs (by omega) rfl rfl ?_
        simp -dsimp [h0, h1, h7, h8, h5]
        refine app_acc 2 (m := [(V.int .i64) (rdN s1).2]) (l := acc.map (V.int .i64)) (v := v) (by simpa using acc_ext hac _) (by simp) (by simp) rfl (by simp) (by simp) (by simp [capOk]; omega) fun v' J' hac' => ?_
        simp -dsimp [h0, h1, h7, h8, w2]
        refine ⟨N - (i + 1), by omega, i + 1, v', J', (rdN s1).1, acc ++ [(rdN s1).2], by omega, rfl, ?_⟩
        simp -dsimp [h0, h1, h7]
        refine ⟨rdN_rs hs, by simpa using hac', by omega, ?_⟩
        rw [hsm, hsu, someK, if_neg (by rw [c2]; simp)]
      · simp -dsimp [h0, h1, h7, h8, h5, c2]
        have hq := hq (.list [] true) T
        rw [hsm, hsu, someK, if_pos c2] at hq
        exact hq (acc_nil (by decide))
    · have hii : i = N := by omega
      subst hii
      simp -dsimp [h0, h1, h7, h8, h5]
      have hq := hq v T
      rw [hsm, Nat.sub_self, someK] at hq
      exact hq hac
theorem some_int_call {H : List Ob} {b j : Nat} {s : Rs} {Q : CR → List Ob → Prop} (h : RsOk s) (hbj : b ≠ j) (hb : H[b]? = some (Bx4 j)) (hj : H[j]? = some (Rd s))
    (hq : ∀ v J, Acc 1 H.length J v ((someF rdN s).2.map (V.int .i64)) → Q (.ret v) (H.set j (Rd (someF rdN s).1) ++ J)) : xCall p 59 [.ptr j 0, .fn (.func 56) [] [.ptr b 0]] H Q := by
  have h0 : refsL [.ptr j 0, .fn (.func 56) [] [.ptr b 0]] = [j, b] := by simp [refsL, refs]
  have rb : refs (byV s.b) = [] := ground_refs _ (byV.gd _)
  have ebj : (b == j) = false := by simp [hbj]
  have ejb : (j == b) = false := by simp [Ne.symm hbj]
  have hr : reach H 1000 (refsL [.ptr j 0, .fn (.func 56) [] [.ptr b 0]]) [] = some [j, b] := by
    rw [h0]
    refine (reach_go (k := 999) (by simp) hj).trans ?_
    simp only [rb, refsOb, refsL, refs, List.nil_append, List.append_nil, List.cons_append]
    refine (reach_go (k := 998) (by simp; omega) hb).trans ?_
    simp only [rb, refsOb, refsL, refs, List.nil_append, List.append_nil, List.cons_append]
    refine (reach_skip (k := 997) (by simp)).trans ?_
    exact reach_end (k := 996)
  refine WCall_inl (by kernel_rfl) hr ?_
  have i0 : List.idxOf j [j, b] = 0 := by simp [List.idxOf_cons, ebj, ejb]
  have i1 : List.idxOf b [j, b] = 1 := by simp [List.idxOf_cons, ebj, ejb]
  have e1 : renL (fun x => List.idxOf x [j, b]) [.ptr j 0, .fn (.func 56) [] [.ptr b 0]] = [.ptr 0 0, .fn (.func 56) [] [.ptr 1 0]] := by simp only [renL, ren, i0, i1]
  have e2 : (([j, b] : List Nat).map fun x => renOb (fun x => List.idxOf x [j, b]) (H[x]?.getD .dead)) = [Rd s, Bx4 0] := by
    simp only [List.map_cons, List.map_nil, hj, hb, Option.getD_some, rd_ren]
    simp only [renOb, renL, ren, i0, i1]
  rw [e1, e2]
  refine some_int h fun v T hac => ⟨by simp, ?_⟩
  have rb2 : refs (byV (someF rdN s).1.b) = [] := ground_refs _ (byV.gd _)
  have set3 : setAll H [j, b] [renOb (backK [j, b] H.length) (Rd (someF rdN s).1), renOb (backK [j, b] H.length) (Bx4 0)] = H.set j (Rd (someF rdN s).1) := by
    rw [rd_ren]
    simp only [renOb, renL, ren, setAll, show backK [j, b] H.length 0 = j from rfl, show backK [j, b] H.length 1 = b from rfl]
    rw [set_same (H := H.set j (Rd (someF rdN s).1)) (by rw [List.getElem?_set_ne (by omega)]; exact hb)]
  rcases acc_cases hac with ⟨rfl, hnil⟩ | ⟨q, rfl⟩
  · have e4 : backH [j, b] (.ret (.list [] true)) (Rd (someF rdN s).1 :: Bx4 0 :: T) H = H.set j (Rd (someF rdN s).1) := by
      unfold backH
      rw [if_neg (by simp [crV, refs, refsL, refsOb, rb2])]
      exact set3
    rw [e4]
    have := hq (.list [] true) [] (by rw [hnil]; exact acc_nil (by decide))
    simpa [renR, ren, renL] using this
  · have hg : ∀ x, backK [j, b] H.length (2 + x) = H.length + x := fun x => by simp [backK]; omega
    have e4 : backH [j, b] (.ret (.own (2 + q) 0 ((someF rdN s).2.map (V.int .i64)).length 1)) (Rd (someF rdN s).1 :: Bx4 0 :: T) H = H.set j (Rd (someF rdN s).1) ++ T.map (renOb (backK [j, b] H.length)) := by
      unfold backH
      rw [if_pos (by simp [crV, refs])]
      exact congrArg (· ++ T.map (renOb (backK [j, b] H.length))) set3
    rw [e4]
    have := hq _ _ (accg_back hg (by simp) hac)
    simpa [renR] using this
theorem some_run {s : Rs} {Q : CR → List Ob → Prop} (h : RsOk s) (hq : ∀ v T, Acc 2 3 T v ((someF rdRun s).2.map (runT)) → Q (.ret v) (Rd (someF rdRun s).1 :: Bx5 2 :: Bx4 0 :: T)) :
    WFun p 57 [.ptr 0 0, .fn (.func 58) [] [.ptr 1 0, .ptr 2 0]] [Rd s, Bx5 2, Bx4 0] Q := by
  have htop := rd_top s
  have hs0 := rd_rs (lo := 0) (hi := 65536) h
  have hsome : someF rdRun s = someK rdRun (rd 0 65536 s).2.toNat (rd 0 65536 s).1 [] := rfl
  refine WFun_of w57 rfl rfl k57 ?_
  simp -dsimp [w57]
  refine num_go h rfl ?_
  rw [hsome] at hq
  generalize (rd 0 65536 s).1 = s0 at *
  obtain ⟨N, hN⟩ : ∃ N : Nat, (rd 0 65536 s).2 = N := ⟨(rd 0 65536 s).2.toNat, by omega⟩
  rw [hN] at hq htop ⊢
  rw [Int.toNat_natCast] at hq
  simp -dsimp
  refine xL_by (by kernel_rfl) (fun k e H => ∃ (i : Nat) (v : V) (T : List Ob) (s1 : Rs) (acc : List Rn), i ≤ N ∧ k = N - i ∧ e 0 = .ptr 0 0 ∧ e 1 = .fn (.func 58) [] [.ptr 1 0, .ptr 2 0] ∧ e 7 = .int .i64 N ∧ e 8 = .int .i64 i ∧ e 5 = v ∧ H = Rd s1 :: Bx5 2 :: Bx4 0 :: T ∧ RsOk s1 ∧ Acc 2 3 T v (acc.map (runT)) ∧ acc.length ≤ i ∧ someK rdRun N s0 [] = someK rdRun (N - i) s1 acc) N ?_ ?_
  · refine ⟨0, .list [] true, [], s0, [], by omega, rfl, ?_⟩
    simp -dsimp
    exact ⟨hs0, acc_nil (by decide)⟩
  · rintro k e H ⟨i, v, T, s1, acc, hi, hk, h0, h1, h7, h8, h5, rfl, hs, hac, hal, hsm⟩
    by_cases c1 : i < N
    · have hsu : N - i = (N - (i + 1)) + 1 := by omega
      have w2 : IntKind.i64.wrap ((i : Int) + 1) = ((i + 1 : Nat) : Int) := by rw [Fz.w64 (by omega) (by omega)]; omega
      simp -dsimp [h0, h1, h7, h8, h5, c1]
      refine err_go rfl ?_
      by_cases c2 : s1.e = 0
      · simp -dsimp [h0, h1, h7, h8, h5, c2]
        refine take2_call (a := 1) (b := 2) (j := 0) hs (by omega) (by omega) (by omega) rfl rfl rfl ?_
        simp -dsimp [h0, h1, h7, h8, h5]
        refine app_acc 3 (m := [(runT) (rdRun s1).2]) (l := acc.map (runT)) (v := v) (by simpa using acc_ext hac _) (by simp) (by simp) rfl (by simp) (by simp) (by simp [capOk]; omega) fun v' J' hac' => ?_
        simp -dsimp [h0, h1, h7, h8, w2]
        refine ⟨N - (i + 1), by omega, i + 1, v', J', (rdRun s1).1, acc ++ [(rdRun s1).2], by omega, rfl, ?_⟩
        simp -dsimp [h0, h1, h7]
        refine ⟨rdRun_rs hs, by simpa using hac', by omega, ?_⟩
        rw [hsm, hsu, someK, if_neg (by rw [c2]; simp)]
      · simp -dsimp [h0, h1, h7, h8, h5, c2]
        have hq := hq (.list [] true) T
        rw [hsm, hsu, someK, if_pos c2] at hq
        exact hq (acc_nil (by decide))
    · have hii : i = N := by omega
      subst hii
      simp -dsimp [h0, h1, h7, h8, h5]
      have hq := hq v T
      rw [hsm, Nat.sub_self, someK] at hq
      exact hq hac
theorem some_run_call {H : List Ob} {a b j : Nat} {s : Rs} {Q : CR → List Ob → Prop} (h : RsOk s) (hab : a ≠ b) (haj : a ≠ j) (hbj : b ≠ j) (ha : H[a]? = some (Bx5 b)) (hb : H[b]? = some (Bx4 j)) (hj : H[j]? = some (Rd s))
    (hq : ∀ v J, Acc 2 H.length J v ((someF rdRun s).2.map (runT)) → Q (.ret v) (H.set j (Rd (someF rdRun s).1) ++ J)) : xCall p 57 [.ptr j 0, .fn (.func 58) [] [.ptr a 0, .ptr b 0]] H Q := by
  have h0 : refsL [.ptr j 0, .fn (.func 58) [] [.ptr a 0, .ptr b 0]] = [j, a, b] := by simp [refsL, refs]
  have rb : refs (byV s.b) = [] := ground_refs _ (byV.gd _)
  have eab : (a == b) = false := by simp [hab]
  have eba : (b == a) = false := by simp [Ne.symm hab]
  have eaj : (a == j) = false := by simp [haj]
  have eja : (j == a) = false := by simp [Ne.symm haj]
  have ebj : (b == j) = false := by simp [hbj]
  have ejb : (j == b) = false := by simp [Ne.symm hbj]
  have hr : reach H 1000 (refsL [.ptr j 0, .fn (.func 58) [] [.ptr a 0, .ptr b 0]]) [] = some [j, a, b] := by
    rw [h0]
    refine (reach_go (k := 999) (by simp) hj).trans ?_
    simp only [rb, refsOb, refsL, refs, List.nil_append, List.append_nil, List.cons_append]
    refine (reach_go (k := 998) (by simp; omega) ha).trans ?_
    simp only [rb, refsOb, refsL, refs, List.nil_append, List.append_nil, List.cons_append]
    refine (reach_go (k := 997) (by simp; omega) hb).trans ?_
    simp only [rb, refsOb, refsL, refs, List.nil_append, List.append_nil, List.cons_append]
    refine (reach_skip (k := 996) (by simp)).trans ?_
    refine (reach_skip (k := 995) (by simp)).trans ?_
    exact reach_end (k := 994)
  refine WCall_inl (by kernel_rfl) hr ?_
  have i0 : List.idxOf j [j, a, b] = 0 := by simp [List.idxOf_cons, eab, eba, eaj, eja, ebj, ejb]
  have i1 : List.idxOf a [j, a, b] = 1 := by simp [List.idxOf_cons, eab, eba, eaj, eja, ebj, ejb]
  have i2 : List.idxOf b [j, a, b] = 2 := by simp [List.idxOf_cons, eab, eba, eaj, eja, ebj, ejb]
  have e1 : renL (fun x => List.idxOf x [j, a, b]) [.ptr j 0, .fn (.func 58) [] [.ptr a 0, .ptr b 0]] = [.ptr 0 0, .fn (.func 58) [] [.ptr 1 0, .ptr 2 0]] := by simp only [renL, ren, i0, i1, i2]
  have e2 : (([j, a, b] : List Nat).map fun x => renOb (fun x => List.idxOf x [j, a, b]) (H[x]?.getD .dead)) = [Rd s, Bx5 2, Bx4 0] := by
    simp only [List.map_cons, List.map_nil, hj, ha, hb, Option.getD_some, rd_ren]
    simp only [renOb, renL, ren, i0, i1, i2]
  rw [e1, e2]
  refine some_run h fun v T hac => ⟨by simp, ?_⟩
  have rb2 : refs (byV (someF rdRun s).1.b) = [] := ground_refs _ (byV.gd _)
  have set3 : setAll H [j, a, b] [renOb (backK [j, a, b] H.length) (Rd (someF rdRun s).1), renOb (backK [j, a, b] H.length) (Bx5 2), renOb (backK [j, a, b] H.length) (Bx4 0)] = H.set j (Rd (someF rdRun s).1) := by
    rw [rd_ren]
    simp only [renOb, renL, ren, setAll, show backK [j, a, b] H.length 0 = j from rfl, show backK [j, a, b] H.length 1 = a from rfl, show backK [j, a, b] H.length 2 = b from rfl]
    rw [set_same (H := H.set j (Rd (someF rdRun s).1)) (by rw [List.getElem?_set_ne (by omega)]; exact ha)]
    rw [set_same (H := H.set j (Rd (someF rdRun s).1)) (by rw [List.getElem?_set_ne (by omega)]; exact hb)]
  rcases acc_cases hac with ⟨rfl, hnil⟩ | ⟨q, rfl⟩
  · have e4 : backH [j, a, b] (.ret (.list [] true)) (Rd (someF rdRun s).1 :: Bx5 2 :: Bx4 0 :: T) H = H.set j (Rd (someF rdRun s).1) := by
      unfold backH
      rw [if_neg (by simp [crV, refs, refsL, refsOb, rb2])]
      exact set3
    rw [e4]
    have := hq (.list [] true) [] (by rw [hnil]; exact acc_nil (by decide))
    simpa [renR, ren, renL] using this
  · have hg : ∀ x, backK [j, a, b] H.length (3 + x) = H.length + x := fun x => by simp [backK]; omega
    have e4 : backH [j, a, b] (.ret (.own (3 + q) 0 ((someF rdRun s).2.map (runT)).length 2)) (Rd (someF rdRun s).1 :: Bx5 2 :: Bx4 0 :: T) H = H.set j (Rd (someF rdRun s).1) ++ T.map (renOb (backK [j, a, b] H.length)) := by
      unfold backH
      rw [if_pos (by simp [crV, refs])]
      exact congrArg (· ++ T.map (renOb (backK [j, a, b] H.length))) set3
    rw [e4]
    have := hq _ _ (accg_back hg (by simp) hac)
    simpa [renR] using this
theorem some_slo {s : Rs} {Q : CR → List Ob → Prop} (h : RsOk s) (hq : ∀ v T, Acc 2 3 T v ((someF rdSlo s).2.map (sloV)) → Q (.ret v) (Rd (someF rdSlo s).1 :: Bx5 2 :: Bx4 0 :: T)) :
    WFun p 60 [.ptr 0 0, .fn (.func 61) [] [.ptr 1 0, .ptr 2 0]] [Rd s, Bx5 2, Bx4 0] Q := by
  have htop := rd_top s
  have hs0 := rd_rs (lo := 0) (hi := 65536) h
  have hsome : someF rdSlo s = someK rdSlo (rd 0 65536 s).2.toNat (rd 0 65536 s).1 [] := rfl
  refine WFun_of w60 rfl rfl k60 ?_
  simp -dsimp [w60]
  refine num_go h rfl ?_
  rw [hsome] at hq
  generalize (rd 0 65536 s).1 = s0 at *
  obtain ⟨N, hN⟩ : ∃ N : Nat, (rd 0 65536 s).2 = N := ⟨(rd 0 65536 s).2.toNat, by omega⟩
  rw [hN] at hq htop ⊢
  rw [Int.toNat_natCast] at hq
  simp -dsimp
  refine xL_by (by kernel_rfl) (fun k e H => ∃ (i : Nat) (v : V) (T : List Ob) (s1 : Rs) (acc : List Slo), i ≤ N ∧ k = N - i ∧ e 0 = .ptr 0 0 ∧ e 1 = .fn (.func 61) [] [.ptr 1 0, .ptr 2 0] ∧ e 7 = .int .i64 N ∧ e 8 = .int .i64 i ∧ e 5 = v ∧ H = Rd s1 :: Bx5 2 :: Bx4 0 :: T ∧ RsOk s1 ∧ Acc 2 3 T v (acc.map (sloV)) ∧ acc.length ≤ i ∧ someK rdSlo N s0 [] = someK rdSlo (N - i) s1 acc) N ?_ ?_
  · refine ⟨0, .list [] true, [], s0, [], by omega, rfl, ?_⟩
    simp -dsimp
    exact ⟨hs0, acc_nil (by decide)⟩
  · rintro k e H ⟨i, v, T, s1, acc, hi, hk, h0, h1, h7, h8, h5, rfl, hs, hac, hal, hsm⟩
    by_cases c1 : i < N
    · have hsu : N - i = (N - (i + 1)) + 1 := by omega
      have w2 : IntKind.i64.wrap ((i : Int) + 1) = ((i + 1 : Nat) : Int) := by rw [Fz.w64 (by omega) (by omega)]; omega
      simp -dsimp [h0, h1, h7, h8, h5, c1]
      refine err_go rfl ?_
      by_cases c2 : s1.e = 0
      · simp -dsimp [h0, h1, h7, h8, h5, c2]
        refine take3_call (a := 1) (b := 2) (j := 0) hs (by omega) (by omega) (by omega) rfl rfl rfl ?_
        simp -dsimp [h0, h1, h7, h8, h5]
        refine app_acc 3 (m := [(sloV) (rdSlo s1).2]) (l := acc.map (sloV)) (v := v) (by simpa using acc_ext hac _) (by simp) (by simp) rfl (by simp) (by simp) (by simp [capOk]; omega) fun v' J' hac' => ?_
        simp -dsimp [h0, h1, h7, h8, w2]
        refine ⟨N - (i + 1), by omega, i + 1, v', J', (rdSlo s1).1, acc ++ [(rdSlo s1).2], by omega, rfl, ?_⟩
        simp -dsimp [h0, h1, h7]
        refine ⟨rdSlo_rs hs, by simpa using hac', by omega, ?_⟩
        rw [hsm, hsu, someK, if_neg (by rw [c2]; simp)]
      · simp -dsimp [h0, h1, h7, h8, h5, c2]
        have hq := hq (.list [] true) T
        rw [hsm, hsu, someK, if_pos c2] at hq
        exact hq (acc_nil (by decide))
    · have hii : i = N := by omega
      subst hii
      simp -dsimp [h0, h1, h7, h8, h5]
      have hq := hq v T
      rw [hsm, Nat.sub_self, someK] at hq
      exact hq hac
theorem some_slo_call {H : List Ob} {a b j : Nat} {s : Rs} {Q : CR → List Ob → Prop} (h : RsOk s) (hab : a ≠ b) (haj : a ≠ j) (hbj : b ≠ j) (ha : H[a]? = some (Bx5 b)) (hb : H[b]? = some (Bx4 j)) (hj : H[j]? = some (Rd s))
    (hq : ∀ v J, Acc 2 H.length J v ((someF rdSlo s).2.map (sloV)) → Q (.ret v) (H.set j (Rd (someF rdSlo s).1) ++ J)) : xCall p 60 [.ptr j 0, .fn (.func 61) [] [.ptr a 0, .ptr b 0]] H Q := by
  have h0 : refsL [.ptr j 0, .fn (.func 61) [] [.ptr a 0, .ptr b 0]] = [j, a, b] := by simp [refsL, refs]
  have rb : refs (byV s.b) = [] := ground_refs _ (byV.gd _)
  have eab : (a == b) = false := by simp [hab]
  have eba : (b == a) = false := by simp [Ne.symm hab]
  have eaj : (a == j) = false := by simp [haj]
  have eja : (j == a) = false := by simp [Ne.symm haj]
  have ebj : (b == j) = false := by simp [hbj]
  have ejb : (j == b) = false := by simp [Ne.symm hbj]
  have hr : reach H 1000 (refsL [.ptr j 0, .fn (.func 61) [] [.ptr a 0, .ptr b 0]]) [] = some [j, a, b] := by
    rw [h0]
    refine (reach_go (k := 999) (by simp) hj).trans ?_
    simp only [rb, refsOb, refsL, refs, List.nil_append, List.append_nil, List.cons_append]
    refine (reach_go (k := 998) (by simp; omega) ha).trans ?_
    simp only [rb, refsOb, refsL, refs, List.nil_append, List.append_nil, List.cons_append]
    refine (reach_go (k := 997) (by simp; omega) hb).trans ?_
    simp only [rb, refsOb, refsL, refs, List.nil_append, List.append_nil, List.cons_append]
    refine (reach_skip (k := 996) (by simp)).trans ?_
    refine (reach_skip (k := 995) (by simp)).trans ?_
    exact reach_end (k := 994)
  refine WCall_inl (by kernel_rfl) hr ?_
  have i0 : List.idxOf j [j, a, b] = 0 := by simp [List.idxOf_cons, eab, eba, eaj, eja, ebj, ejb]
  have i1 : List.idxOf a [j, a, b] = 1 := by simp [List.idxOf_cons, eab, eba, eaj, eja, ebj, ejb]
  have i2 : List.idxOf b [j, a, b] = 2 := by simp [List.idxOf_cons, eab, eba, eaj, eja, ebj, ejb]
  have e1 : renL (fun x => List.idxOf x [j, a, b]) [.ptr j 0, .fn (.func 61) [] [.ptr a 0, .ptr b 0]] = [.ptr 0 0, .fn (.func 61) [] [.ptr 1 0, .ptr 2 0]] := by simp only [renL, ren, i0, i1, i2]
  have e2 : (([j, a, b] : List Nat).map fun x => renOb (fun x => List.idxOf x [j, a, b]) (H[x]?.getD .dead)) = [Rd s, Bx5 2, Bx4 0] := by
    simp only [List.map_cons, List.map_nil, hj, ha, hb, Option.getD_some, rd_ren]
    simp only [renOb, renL, ren, i0, i1, i2]
  rw [e1, e2]
  refine some_slo h fun v T hac => ⟨by simp, ?_⟩
  have rb2 : refs (byV (someF rdSlo s).1.b) = [] := ground_refs _ (byV.gd _)
  have set3 : setAll H [j, a, b] [renOb (backK [j, a, b] H.length) (Rd (someF rdSlo s).1), renOb (backK [j, a, b] H.length) (Bx5 2), renOb (backK [j, a, b] H.length) (Bx4 0)] = H.set j (Rd (someF rdSlo s).1) := by
    rw [rd_ren]
    simp only [renOb, renL, ren, setAll, show backK [j, a, b] H.length 0 = j from rfl, show backK [j, a, b] H.length 1 = a from rfl, show backK [j, a, b] H.length 2 = b from rfl]
    rw [set_same (H := H.set j (Rd (someF rdSlo s).1)) (by rw [List.getElem?_set_ne (by omega)]; exact ha)]
    rw [set_same (H := H.set j (Rd (someF rdSlo s).1)) (by rw [List.getElem?_set_ne (by omega)]; exact hb)]
  rcases acc_cases hac with ⟨rfl, hnil⟩ | ⟨q, rfl⟩
  · have e4 : backH [j, a, b] (.ret (.list [] true)) (Rd (someF rdSlo s).1 :: Bx5 2 :: Bx4 0 :: T) H = H.set j (Rd (someF rdSlo s).1) := by
      unfold backH
      rw [if_neg (by simp [crV, refs, refsL, refsOb, rb2])]
      exact set3
    rw [e4]
    have := hq (.list [] true) [] (by rw [hnil]; exact acc_nil (by decide))
    simpa [renR, ren, renL] using this
  · have hg : ∀ x, backK [j, a, b] H.length (3 + x) = H.length + x := fun x => by simp [backK]; omega
    have e4 : backH [j, a, b] (.ret (.own (3 + q) 0 ((someF rdSlo s).2.map (sloV)).length 2)) (Rd (someF rdSlo s).1 :: Bx5 2 :: Bx4 0 :: T) H = H.set j (Rd (someF rdSlo s).1) ++ T.map (renOb (backK [j, a, b] H.length)) := by
      unfold backH
      rw [if_pos (by simp [crV, refs])]
      exact congrArg (· ++ T.map (renOb (backK [j, a, b] H.length))) set3
    rw [e4]
    have := hq _ _ (accg_back hg (by simp) hac)
    simpa [renR] using this
theorem some_wor {s : Rs} {Q : CR → List Ob → Prop} (h : RsOk s) (hq : ∀ v T, Acc 4 3 T v ((someF rdWor s).2.map (worV)) → Q (.ret v) (Rd (someF rdWor s).1 :: Bx4 0 :: Bx5 1 :: T)) :
    WFun p 62 [.ptr 0 0, .fn (.func 63) [] [.ptr 1 0, .ptr 2 0]] [Rd s, Bx4 0, Bx5 1] Q := by
  have htop := rd_top s
  have hs0 := rd_rs (lo := 0) (hi := 65536) h
  have hsome : someF rdWor s = someK rdWor (rd 0 65536 s).2.toNat (rd 0 65536 s).1 [] := rfl
  refine WFun_of w62 rfl rfl k62 ?_
  simp -dsimp [w62]
  refine num_go h rfl ?_
  rw [hsome] at hq
  generalize (rd 0 65536 s).1 = s0 at *
  obtain ⟨N, hN⟩ : ∃ N : Nat, (rd 0 65536 s).2 = N := ⟨(rd 0 65536 s).2.toNat, by omega⟩
  rw [hN] at hq htop ⊢
  rw [Int.toNat_natCast] at hq
  simp -dsimp
  refine xL_by (by kernel_rfl) (fun k e H => ∃ (i : Nat) (v : V) (T : List Ob) (s1 : Rs) (acc : List Wor), i ≤ N ∧ k = N - i ∧ e 0 = .ptr 0 0 ∧ e 1 = .fn (.func 63) [] [.ptr 1 0, .ptr 2 0] ∧ e 7 = .int .i64 N ∧ e 8 = .int .i64 i ∧ e 5 = v ∧ H = Rd s1 :: Bx4 0 :: Bx5 1 :: T ∧ RsOk s1 ∧ Acc 4 3 T v (acc.map (worV)) ∧ acc.length ≤ i ∧ someK rdWor N s0 [] = someK rdWor (N - i) s1 acc) N ?_ ?_
  · refine ⟨0, .list [] true, [], s0, [], by omega, rfl, ?_⟩
    simp -dsimp
    exact ⟨hs0, acc_nil (by decide)⟩
  · rintro k e H ⟨i, v, T, s1, acc, hi, hk, h0, h1, h7, h8, h5, rfl, hs, hac, hal, hsm⟩
    by_cases c1 : i < N
    · have hsu : N - i = (N - (i + 1)) + 1 := by omega
      have w2 : IntKind.i64.wrap ((i : Int) + 1) = ((i + 1 : Nat) : Int) := by rw [Fz.w64 (by omega) (by omega)]; omega
      simp -dsimp [h0, h1, h7, h8, h5, c1]
      refine err_go rfl ?_
      by_cases c2 : s1.e = 0
      · simp -dsimp [h0, h1, h7, h8, h5, c2]
        refine take4_call (a := 2) (b := 1) (j := 0) hs (by omega) (by omega) (by omega) rfl rfl rfl ?_
        simp -dsimp [h0, h1, h7, h8, h5]
        refine app_acc 3 (m := [(worV) (rdWor s1).2]) (l := acc.map (worV)) (v := v) (by simpa using acc_ext hac _) (by simp) (by simp) rfl (by simp) (by simp) (by simp [capOk]; omega) fun v' J' hac' => ?_
        simp -dsimp [h0, h1, h7, h8, w2]
        refine ⟨N - (i + 1), by omega, i + 1, v', J', (rdWor s1).1, acc ++ [(rdWor s1).2], by omega, rfl, ?_⟩
        simp -dsimp [h0, h1, h7]
        refine ⟨rdWor_rs hs, by simpa using hac', by omega, ?_⟩
        rw [hsm, hsu, someK, if_neg (by rw [c2]; simp)]
      · simp -dsimp [h0, h1, h7, h8, h5, c2]
        have hq := hq (.list [] true) T
        rw [hsm, hsu, someK, if_pos c2] at hq
        exact hq (acc_nil (by decide))
    · have hii : i = N := by omega
      subst hii
      simp -dsimp [h0, h1, h7, h8, h5]
      have hq := hq v T
      rw [hsm, Nat.sub_self, someK] at hq
      exact hq hac
theorem some_wor_call {H : List Ob} {a b j : Nat} {s : Rs} {Q : CR → List Ob → Prop} (h : RsOk s) (hab : a ≠ b) (haj : a ≠ j) (hbj : b ≠ j) (ha : H[a]? = some (Bx5 b)) (hb : H[b]? = some (Bx4 j)) (hj : H[j]? = some (Rd s))
    (hq : ∀ v J, Acc 4 H.length J v ((someF rdWor s).2.map (worV)) → Q (.ret v) (H.set j (Rd (someF rdWor s).1) ++ J)) : xCall p 62 [.ptr j 0, .fn (.func 63) [] [.ptr b 0, .ptr a 0]] H Q := by
  have h0 : refsL [.ptr j 0, .fn (.func 63) [] [.ptr b 0, .ptr a 0]] = [j, b, a] := by simp [refsL, refs]
  have rb : refs (byV s.b) = [] := ground_refs _ (byV.gd _)
  have eab : (a == b) = false := by simp [hab]
  have eba : (b == a) = false := by simp [Ne.symm hab]
  have eaj : (a == j) = false := by simp [haj]
  have eja : (j == a) = false := by simp [Ne.symm haj]
  have ebj : (b == j) = false := by simp [hbj]
  have ejb : (j == b) = false := by simp [Ne.symm hbj]
  have hr : reach H 1000 (refsL [.ptr j 0, .fn (.func 63) [] [.ptr b 0, .ptr a 0]]) [] = some [j, b, a] := by
    rw [h0]
    refine (reach_go (k := 999) (by simp) hj).trans ?_
    simp only [rb, refsOb, refsL, refs, List.nil_append, List.append_nil, List.cons_append]
    refine (reach_go (k := 998) (by simp; omega) hb).trans ?_
    simp only [rb, refsOb, refsL, refs, List.nil_append, List.append_nil, List.cons_append]
    refine (reach_go (k := 997) (by simp; omega) ha).trans ?_
    simp only [rb, refsOb, refsL, refs, List.nil_append, List.append_nil, List.cons_append]
    refine (reach_skip (k := 996) (by simp)).trans ?_
    refine (reach_skip (k := 995) (by simp)).trans ?_
    exact reach_end (k := 994)
  refine WCall_inl (by kernel_rfl) hr ?_
  have i0 : List.idxOf j [j, b, a] = 0 := by simp [List.idxOf_cons, eab, eba, eaj, eja, ebj, ejb]
  have i1 : List.idxOf b [j, b, a] = 1 := by simp [List.idxOf_cons, eab, eba, eaj, eja, ebj, ejb]
  have i2 : List.idxOf a [j, b, a] = 2 := by simp [List.idxOf_cons, eab, eba, eaj, eja, ebj, ejb]
  have e1 : renL (fun x => List.idxOf x [j, b, a]) [.ptr j 0, .fn (.func 63) [] [.ptr b 0, .ptr a 0]] = [.ptr 0 0, .fn (.func 63) [] [.ptr 1 0, .ptr 2 0]] := by simp only [renL, ren, i0, i1, i2]
  have e2 : (([j, b, a] : List Nat).map fun x => renOb (fun x => List.idxOf x [j, b, a]) (H[x]?.getD .dead)) = [Rd s, Bx4 0, Bx5 1] := by
    simp only [List.map_cons, List.map_nil, hj, hb, ha, Option.getD_some, rd_ren]
    simp only [renOb, renL, ren, i0, i1, i2]
  rw [e1, e2]
  refine some_wor h fun v T hac => ⟨by simp, ?_⟩
  have rb2 : refs (byV (someF rdWor s).1.b) = [] := ground_refs _ (byV.gd _)
  have set3 : setAll H [j, b, a] [renOb (backK [j, b, a] H.length) (Rd (someF rdWor s).1), renOb (backK [j, b, a] H.length) (Bx4 0), renOb (backK [j, b, a] H.length) (Bx5 1)] = H.set j (Rd (someF rdWor s).1) := by
    rw [rd_ren]
    simp only [renOb, renL, ren, setAll, show backK [j, b, a] H.length 0 = j from rfl, show backK [j, b, a] H.length 1 = b from rfl, show backK [j, b, a] H.length 2 = a from rfl]
    rw [set_same (H := H.set j (Rd (someF rdWor s).1)) (by rw [List.getElem?_set_ne (by omega)]; exact hb)]
    rw [set_same (H := H.set j (Rd (someF rdWor s).1)) (by rw [List.getElem?_set_ne (by omega)]; exact ha)]
  rcases acc_cases hac with ⟨rfl, hnil⟩ | ⟨q, rfl⟩
  · have e4 : backH [j, b, a] (.ret (.list [] true)) (Rd (someF rdWor s).1 :: Bx4 0 :: Bx5 1 :: T) H = H.set j (Rd (someF rdWor s).1) := by
      unfold backH
      rw [if_neg (by simp [crV, refs, refsL, refsOb, rb2])]
      exact set3
    rw [e4]
    have := hq (.list [] true) [] (by rw [hnil]; exact acc_nil (by decide))
    simpa [renR, ren, renL] using this
  · have hg : ∀ x, backK [j, b, a] H.length (3 + x) = H.length + x := fun x => by simp [backK]; omega
    have e4 : backH [j, b, a] (.ret (.own (3 + q) 0 ((someF rdWor s).2.map (worV)).length 4)) (Rd (someF rdWor s).1 :: Bx4 0 :: Bx5 1 :: T) H = H.set j (Rd (someF rdWor s).1) ++ T.map (renOb (backK [j, b, a] H.length)) := by
      unfold backH
      rw [if_pos (by simp [crV, refs])]
      exact congrArg (· ++ T.map (renOb (backK [j, b, a] H.length))) set3
    rw [e4]
    have := hq _ _ (accg_back hg (by simp) hac)
    simpa [renR] using this
theorem some_spo {s : Rs} {Q : CR → List Ob → Prop} (h : RsOk s) (hq : ∀ v T, Acc 2 3 T v ((someF rdSpo s).2.map (spoV)) → Q (.ret v) (Rd (someF rdSpo s).1 :: Bx5 2 :: Bx4 0 :: T)) :
    WFun p 64 [.ptr 0 0, .fn (.func 65) [] [.ptr 1 0]] [Rd s, Bx5 2, Bx4 0] Q := by
  have htop := rd_top s
  have hs0 := rd_rs (lo := 0) (hi := 65536) h
  have hsome : someF rdSpo s = someK rdSpo (rd 0 65536 s).2.toNat (rd 0 65536 s).1 [] := rfl
  refine WFun_of w64 rfl rfl k64 ?_
  simp -dsimp [w64]
  refine num_go h rfl ?_
  rw [hsome] at hq
  generalize (rd 0 65536 s).1 = s0 at *
  obtain ⟨N, hN⟩ : ∃ N : Nat, (rd 0 65536 s).2 = N := ⟨(rd 0 65536 s).2.toNat, by omega⟩
  rw [hN] at hq htop ⊢
  rw [Int.toNat_natCast] at hq
  simp -dsimp
  refine xL_by (by kernel_rfl) (fun k e H => ∃ (i : Nat) (v : V) (T : List Ob) (s1 : Rs) (acc : List Spo), i ≤ N ∧ k = N - i ∧ e 0 = .ptr 0 0 ∧ e 1 = .fn (.func 65) [] [.ptr 1 0] ∧ e 7 = .int .i64 N ∧ e 8 = .int .i64 i ∧ e 5 = v ∧ H = Rd s1 :: Bx5 2 :: Bx4 0 :: T ∧ RsOk s1 ∧ Acc 2 3 T v (acc.map (spoV)) ∧ acc.length ≤ i ∧ someK rdSpo N s0 [] = someK rdSpo (N - i) s1 acc) N ?_ ?_
  · refine ⟨0, .list [] true, [], s0, [], by omega, rfl, ?_⟩
    simp -dsimp
    exact ⟨hs0, acc_nil (by decide)⟩
  · rintro k e H ⟨i, v, T, s1, acc, hi, hk, h0, h1, h7, h8, h5, rfl, hs, hac, hal, hsm⟩
    by_cases c1 : i < N
    · have hsu : N - i = (N - (i + 1)) + 1 := by omega
      have w2 : IntKind.i64.wrap ((i : Int) + 1) = ((i + 1 : Nat) : Int) := by rw [Fz.w64 (by omega) (by omega)]; omega
      simp -dsimp [h0, h1, h7, h8, h5, c1]
      refine err_go rfl ?_
      by_cases c2 : s1.e = 0
      · simp -dsimp [h0, h1, h7, h8, h5, c2]
        refine take5_call (a := 1) (b := 2) (j := 0) hs (by omega) (by omega) (by omega) rfl rfl rfl ?_
        simp -dsimp [h0, h1, h7, h8, h5]
        refine app_acc 3 (m := [(spoV) (rdSpo s1).2]) (l := acc.map (spoV)) (v := v) (by simpa using acc_ext hac _) (by simp) (by simp) rfl (by simp) (by simp) (by simp [capOk]; omega) fun v' J' hac' => ?_
        simp -dsimp [h0, h1, h7, h8, w2]
        refine ⟨N - (i + 1), by omega, i + 1, v', J', (rdSpo s1).1, acc ++ [(rdSpo s1).2], by omega, rfl, ?_⟩
        simp -dsimp [h0, h1, h7]
        refine ⟨rdSpo_rs hs, by simpa using hac', by omega, ?_⟩
        rw [hsm, hsu, someK, if_neg (by rw [c2]; simp)]
      · simp -dsimp [h0, h1, h7, h8, h5, c2]
        have hq := hq (.list [] true) T
        rw [hsm, hsu, someK, if_pos c2] at hq
        exact hq (acc_nil (by decide))
    · have hii : i = N := by omega
      subst hii
      simp -dsimp [h0, h1, h7, h8, h5]
      have hq := hq v T
      rw [hsm, Nat.sub_self, someK] at hq
      exact hq hac
theorem some_spo_call {H : List Ob} {a b j : Nat} {s : Rs} {Q : CR → List Ob → Prop} (h : RsOk s) (hab : a ≠ b) (haj : a ≠ j) (hbj : b ≠ j) (ha : H[a]? = some (Bx5 b)) (hb : H[b]? = some (Bx4 j)) (hj : H[j]? = some (Rd s))
    (hq : ∀ v J, Acc 2 H.length J v ((someF rdSpo s).2.map (spoV)) → Q (.ret v) (H.set j (Rd (someF rdSpo s).1) ++ J)) : xCall p 64 [.ptr j 0, .fn (.func 65) [] [.ptr a 0]] H Q := by
  have h0 : refsL [.ptr j 0, .fn (.func 65) [] [.ptr a 0]] = [j, a] := by simp [refsL, refs]
  have rb : refs (byV s.b) = [] := ground_refs _ (byV.gd _)
  have eab : (a == b) = false := by simp [hab]
  have eba : (b == a) = false := by simp [Ne.symm hab]
  have eaj : (a == j) = false := by simp [haj]
  have eja : (j == a) = false := by simp [Ne.symm haj]
  have ebj : (b == j) = false := by simp [hbj]
  have ejb : (j == b) = false := by simp [Ne.symm hbj]
  have hr : reach H 1000 (refsL [.ptr j 0, .fn (.func 65) [] [.ptr a 0]]) [] = some [j, a, b] := by
    rw [h0]
    refine (reach_go (k := 999) (by simp) hj).trans ?_
    simp only [rb, refsOb, refsL, refs, List.nil_append, List.append_nil, List.cons_append]
    refine (reach_go (k := 998) (by simp; omega) ha).trans ?_
    simp only [rb, refsOb, refsL, refs, List.nil_append, List.append_nil, List.cons_append]
    refine (reach_go (k := 997) (by simp; omega) hb).trans ?_
    simp only [rb, refsOb, refsL, refs, List.nil_append, List.append_nil, List.cons_append]
    refine (reach_skip (k := 996) (by simp)).trans ?_
    exact reach_end (k := 995)
  refine WCall_inl (by kernel_rfl) hr ?_
  have i0 : List.idxOf j [j, a, b] = 0 := by simp [List.idxOf_cons, eab, eba, eaj, eja, ebj, ejb]
  have i1 : List.idxOf a [j, a, b] = 1 := by simp [List.idxOf_cons, eab, eba, eaj, eja, ebj, ejb]
  have i2 : List.idxOf b [j, a, b] = 2 := by simp [List.idxOf_cons, eab, eba, eaj, eja, ebj, ejb]
  have e1 : renL (fun x => List.idxOf x [j, a, b]) [.ptr j 0, .fn (.func 65) [] [.ptr a 0]] = [.ptr 0 0, .fn (.func 65) [] [.ptr 1 0]] := by simp only [renL, ren, i0, i1, i2]
  have e2 : (([j, a, b] : List Nat).map fun x => renOb (fun x => List.idxOf x [j, a, b]) (H[x]?.getD .dead)) = [Rd s, Bx5 2, Bx4 0] := by
    simp only [List.map_cons, List.map_nil, hj, ha, hb, Option.getD_some, rd_ren]
    simp only [renOb, renL, ren, i0, i1, i2]
  rw [e1, e2]
  refine some_spo h fun v T hac => ⟨by simp, ?_⟩
  have rb2 : refs (byV (someF rdSpo s).1.b) = [] := ground_refs _ (byV.gd _)
  have set3 : setAll H [j, a, b] [renOb (backK [j, a, b] H.length) (Rd (someF rdSpo s).1), renOb (backK [j, a, b] H.length) (Bx5 2), renOb (backK [j, a, b] H.length) (Bx4 0)] = H.set j (Rd (someF rdSpo s).1) := by
    rw [rd_ren]
    simp only [renOb, renL, ren, setAll, show backK [j, a, b] H.length 0 = j from rfl, show backK [j, a, b] H.length 1 = a from rfl, show backK [j, a, b] H.length 2 = b from rfl]
    rw [set_same (H := H.set j (Rd (someF rdSpo s).1)) (by rw [List.getElem?_set_ne (by omega)]; exact ha)]
    rw [set_same (H := H.set j (Rd (someF rdSpo s).1)) (by rw [List.getElem?_set_ne (by omega)]; exact hb)]
  rcases acc_cases hac with ⟨rfl, hnil⟩ | ⟨q, rfl⟩
  · have e4 : backH [j, a, b] (.ret (.list [] true)) (Rd (someF rdSpo s).1 :: Bx5 2 :: Bx4 0 :: T) H = H.set j (Rd (someF rdSpo s).1) := by
      unfold backH
      rw [if_neg (by simp [crV, refs, refsL, refsOb, rb2])]
      exact set3
    rw [e4]
    have := hq (.list [] true) [] (by rw [hnil]; exact acc_nil (by decide))
    simpa [renR, ren, renL] using this
  · have hg : ∀ x, backK [j, a, b] H.length (3 + x) = H.length + x := fun x => by simp [backK]; omega
    have e4 : backH [j, a, b] (.ret (.own (3 + q) 0 ((someF rdSpo s).2.map (spoV)).length 2)) (Rd (someF rdSpo s).1 :: Bx5 2 :: Bx4 0 :: T) H = H.set j (Rd (someF rdSpo s).1) ++ T.map (renOb (backK [j, a, b] H.length)) := by
      unfold backH
      rw [if_pos (by simp [crV, refs])]
      exact congrArg (· ++ T.map (renOb (backK [j, a, b] H.length))) set3
    rw [e4]
    have := hq _ _ (accg_back hg (by simp) hac)
    simpa [renR] using this
end Fz.D
set_option maxRecDepth 100000
namespace Fz.D
open Go
abbrev D5 (W : List Ob) : List Ob := .dead :: .dead :: .dead :: .dead :: .dead :: W
theorem has_new5 {n : Nat} {W J : List Ob} {v : V} {l : List V} (h : Acc n (W.length + 1 + 1 + 1 + 1 + 1) J v l) : Has n (D5 (W ++ J)) v l := by
  refine has_ac (b := W.length + 1 + 1 + 1 + 1 + 1) (ac_acc ?_)
  have e : (D5 (W ++ J)).drop (W.length + 1 + 1 + 1 + 1 + 1) = J := by simp
  rw [e]; exact h
theorem has_old5 {n : Nat} {W : List Ob} {v : V} {l : List V} (J : List Ob) (h : Has n (D5 W) v l) : Has n (D5 (W ++ J)) v l := has_see (by simp) h
theorem has_fin5 {n : Nat} {W : List Ob} {v : V} {l : List V} {a b c d e : Ob} (h : Has n (D5 W) v l) : Has n (a :: b :: c :: d :: e :: W) v l := has_see (by simp) h
def De0 : De := { mem := [], dk := 0, dt := [], rk := 0, rt := [], ck := 0, ct := [], wk := 0, wt := [], sk := 0, st := [], out := 0, r0 := 0, r1 := 0, r2 := 0, r3 := 0, r4 := 0, r5 := 0, comp := false, halt := false }
structure Tk (b : List Int) where
  s1 : Rs
  mem : List Rn
  s2 : Rs
  dk : Int
  s3 : Rs
  dt : List Int
  s4 : Rs
  rk : Int
  s5 : Rs
  rt : List Slo
  s6 : Rs
  ck : Int
  s7 : Rs
  ct : List Int
  s8 : Rs
  wk : Int
  s9 : Rs
  wt : List Wor
  s10 : Rs
  sk : Int
  s11 : Rs
  st : List Spo
  s12 : Rs
  out : Int
  s13 : Rs
  r0 : Int
  s14 : Rs
  r1 : Int
  s15 : Rs
  r2 : Int
  s16 : Rs
  r3 : Int
  s17 : Rs
  r4 : Int
  s18 : Rs
  r5 : Int
  s19 : Rs
  fl : Int
  h1 : someF rdRun ⟨b, 0⟩ = (s1, mem)
  h2 : rdN s1 = (s2, dk)
  h3 : someF rdN s2 = (s3, dt)
  h4 : rdN s3 = (s4, rk)
  h5 : someF rdSlo s4 = (s5, rt)
  h6 : rdN s5 = (s6, ck)
  h7 : someF rdN s6 = (s7, ct)
  h8 : rdN s7 = (s8, wk)
  h9 : someF rdWor s8 = (s9, wt)
  h10 : rdN s9 = (s10, sk)
  h11 : someF rdSpo s10 = (s11, st)
  h12 : rdN s11 = (s12, out)
  h13 : rdN s12 = (s13, r0)
  h14 : rdN s13 = (s14, r1)
  h15 : rdN s14 = (s15, r2)
  h16 : rdN s15 = (s16, r3)
  h17 : rdN s16 = (s17, r4)
  h18 : rdN s17 = (s18, r5)
  h19 : rd 0 3 s18 = (s19, fl)
def tk (b : List Int) : Tk b :=
  let x1 := someF rdRun ⟨b, 0⟩
  let x2 := rdN x1.1
  let x3 := someF rdN x2.1
  let x4 := rdN x3.1
  let x5 := someF rdSlo x4.1
  let x6 := rdN x5.1
  let x7 := someF rdN x6.1
  let x8 := rdN x7.1
  let x9 := someF rdWor x8.1
  let x10 := rdN x9.1
  let x11 := someF rdSpo x10.1
  let x12 := rdN x11.1
  let x13 := rdN x12.1
  let x14 := rdN x13.1
  let x15 := rdN x14.1
  let x16 := rdN x15.1
  let x17 := rdN x16.1
  let x18 := rdN x17.1
  let x19 := rd 0 3 x18.1
  { s1 := x1.1, mem := x1.2, s2 := x2.1, dk := x2.2, s3 := x3.1, dt := x3.2, s4 := x4.1, rk := x4.2, s5 := x5.1, rt := x5.2, s6 := x6.1, ck := x6.2, s7 := x7.1, ct := x7.2, s8 := x8.1, wk := x8.2, s9 := x9.1, wt := x9.2, s10 := x10.1, sk := x10.2, s11 := x11.1, st := x11.2, s12 := x12.1, out := x12.2, s13 := x13.1, r0 := x13.2, s14 := x14.1, r1 := x14.2, s15 := x15.1, r2 := x15.2, s16 := x16.1, r3 := x16.2, s17 := x17.1, r4 := x17.2, s18 := x18.1, r5 := x18.2, s19 := x19.1, fl := x19.2, h1 := eta2 _, h2 := eta2 _, h3 := eta2 _, h4 := eta2 _, h5 := eta2 _, h6 := eta2 _, h7 := eta2 _, h8 := eta2 _, h9 := eta2 _, h10 := eta2 _, h11 := eta2 _, h12 := eta2 _, h13 := eta2 _, h14 := eta2 _, h15 := eta2 _, h16 := eta2 _, h17 := eta2 _, h18 := eta2 _, h19 := eta2 _ }
def Tk.d {b : List Int} (t : Tk b) : De := { mem := t.mem, dk := t.dk, dt := t.dt, rk := t.rk, rt := t.rt, ck := t.ck, ct := t.ct, wk := t.wk, wt := t.wt, sk := t.sk, st := t.st, out := t.out, r0 := t.r0, r1 := t.r1, r2 := t.r2, r3 := t.r3, r4 := t.r4, r5 := t.r5, comp := decide (t.fl % 2 = 1), halt := decide (2 ≤ t.fl) }
def takeV {b : List Int} (t : Tk b) : V := if endR t.s19 = 0 then .tuple [deV t.d, .int .i64 0] else .tuple [deV De0, .int .i64 (endR t.s19)]
theorem take_s {b : List Int} (t : Tk b) (hb : b.length ≤ 10000000) (hby : by8 b) : Comes p 26 [byV b] (takeV t) := by
  obtain ⟨s1, mem, s2, dk, s3, dt, s4, rk, s5, rt, s6, ck, s7, ct, s8, wk, s9, wt, s10, sk, s11, st, s12, out, s13, r0, s14, r1, s15, r2, s16, r3, s17, r4, s18, r5, s19, fl, h1, h2, h3, h4, h5, h6, h7, h8, h9, h10, h11, h12, h13, h14, h15, h16, h17, h18, h19⟩ := t
  have o0 : RsOk ⟨b, 0⟩ := ⟨hb, hby⟩
  have o1 : RsOk s1 := by have := someF_rs (fun _ h => rdRun_rs h) o0; rw [h1] at this; exact this
  have o2 : RsOk s2 := by have := rdN_rs o1; rw [h2] at this; exact this
  have o3 : RsOk s3 := by have := someF_rs (fun _ h => rdN_rs h) o2; rw [h3] at this; exact this
  have o4 : RsOk s4 := by have := rdN_rs o3; rw [h4] at this; exact this
  have o5 : RsOk s5 := by have := someF_rs (fun _ h => rdSlo_rs h) o4; rw [h5] at this; exact this
  have o6 : RsOk s6 := by have := rdN_rs o5; rw [h6] at this; exact this
  have o7 : RsOk s7 := by have := someF_rs (fun _ h => rdN_rs h) o6; rw [h7] at this; exact this
  have o8 : RsOk s8 := by have := rdN_rs o7; rw [h8] at this; exact this
  have o9 : RsOk s9 := by have := someF_rs (fun _ h => rdWor_rs h) o8; rw [h9] at this; exact this
  have o10 : RsOk s10 := by have := rdN_rs o9; rw [h10] at this; exact this
  have o11 : RsOk s11 := by have := someF_rs (fun _ h => rdSpo_rs h) o10; rw [h11] at this; exact this
  have o12 : RsOk s12 := by have := rdN_rs o11; rw [h12] at this; exact this
  have o13 : RsOk s13 := by have := rdN_rs o12; rw [h13] at this; exact this
  have o14 : RsOk s14 := by have := rdN_rs o13; rw [h14] at this; exact this
  have o15 : RsOk s15 := by have := rdN_rs o14; rw [h15] at this; exact this
  have o16 : RsOk s16 := by have := rdN_rs o15; rw [h16] at this; exact this
  have o17 : RsOk s17 := by have := rdN_rs o16; rw [h17] at this; exact this
  have o18 : RsOk s18 := by have := rdN_rs o17; rw [h18] at this; exact this
  have o19 : RsOk s19 := by have := rd_rs (lo := 0) (hi := 3) o18; rw [h19] at this; exact this
  have fl0 : 0 ≤ fl := by have := rd_nn 3 s18; rw [h19] at this; exact this
  refine Comes_of w26 rfl rfl k26 ?_ ?_ ?_ ?_
  · simp
  · simp
  · unfold takeV; split <;> simp
  · simp -dsimp [w26]
    refine new_s b ?_
    simp -dsimp
    refine some_run_call (a := 3) (b := 2) (j := 1) o0 (by omega) (by omega) (by omega) rfl rfl rfl fun v1 W a1 => ?_
    rw [h1] at a1 ⊢
    have g1 : Has 2 (D5 W) v1 (mem.map runT) := has_new5 (W := []) a1
    obtain ⟨x1, y1, u1⟩ := has_val g1
    simp -dsimp [x1, y1, u1]
    refine take1_call (i := 2) (j := 1) o1 (by omega) rfl rfl ?_
    rw [h2]
    simp -dsimp [x1, y1, u1]
    refine some_int_call (b := 2) (j := 1) o2 (by omega) rfl rfl fun v3 J a3 => ?_
    rw [h3] at a3 ⊢
    have g3 : Has 1 (D5 (W ++ J)) v3 (dt.map (V.int .i64)) := has_new5 (by simpa using a3)
    obtain ⟨x3, y3, u3⟩ := has_val g3
    have g1 := has_old5 J g1
    simp -dsimp [x1, y1, u1, x3, y3, u3]
    generalize W ++ J = W at *
    refine take1_call (i := 2) (j := 1) o3 (by omega) rfl rfl ?_
    rw [h4]
    simp -dsimp [x1, y1, u1, x3, y3, u3]
    refine some_slo_call (a := 3) (b := 2) (j := 1) o4 (by omega) (by omega) (by omega) rfl rfl rfl fun v5 J a5 => ?_
    rw [h5] at a5 ⊢
    have g5 : Has 2 (D5 (W ++ J)) v5 (rt.map (sloV)) := has_new5 (by simpa using a5)
    obtain ⟨x5, y5, u5⟩ := has_val g5
    have g1 := has_old5 J g1
    have g3 := has_old5 J g3
    simp -dsimp [x1, y1, u1, x3, y3, u3, x5, y5, u5]
    generalize W ++ J = W at *
    refine take1_call (i := 2) (j := 1) o5 (by omega) rfl rfl ?_
    rw [h6]
    simp -dsimp [x1, y1, u1, x3, y3, u3, x5, y5, u5]
    refine some_int_call (b := 2) (j := 1) o6 (by omega) rfl rfl fun v7 J a7 => ?_
    rw [h7] at a7 ⊢
    have g7 : Has 1 (D5 (W ++ J)) v7 (ct.map (V.int .i64)) := has_new5 (by simpa using a7)
    obtain ⟨x7, y7, u7⟩ := has_val g7
    have g1 := has_old5 J g1
    have g3 := has_old5 J g3
    have g5 := has_old5 J g5
    simp -dsimp [x1, y1, u1, x3, y3, u3, x5, y5, u5, x7, y7, u7]
    generalize W ++ J = W at *
    refine take1_call (i := 2) (j := 1) o7 (by omega) rfl rfl ?_
    rw [h8]
    simp -dsimp [x1, y1, u1, x3, y3, u3, x5, y5, u5, x7, y7, u7]
    refine some_wor_call (a := 3) (b := 2) (j := 1) o8 (by omega) (by omega) (by omega) rfl rfl rfl fun v9 J a9 => ?_
    rw [h9] at a9 ⊢
    have g9 : Has 4 (D5 (W ++ J)) v9 (wt.map (worV)) := has_new5 (by simpa using a9)
    obtain ⟨x9, y9, u9⟩ := has_val g9
    have g1 := has_old5 J g1
    have g3 := has_old5 J g3
    have g5 := has_old5 J g5
    have g7 := has_old5 J g7
    simp -dsimp [x1, y1, u1, x3, y3, u3, x5, y5, u5, x7, y7, u7, x9, y9, u9]
    generalize W ++ J = W at *
    refine take1_call (i := 2) (j := 1) o9 (by omega) rfl rfl ?_
    rw [h10]
    simp -dsimp [x1, y1, u1, x3, y3, u3, x5, y5, u5, x7, y7, u7, x9, y9, u9]
    refine some_spo_call (a := 3) (b := 2) (j := 1) o10 (by omega) (by omega) (by omega) rfl rfl rfl fun v11 J a11 => ?_
    rw [h11] at a11 ⊢
    have g11 : Has 2 (D5 (W ++ J)) v11 (st.map (spoV)) := has_new5 (by simpa using a11)
    obtain ⟨x11, y11, u11⟩ := has_val g11
    have g1 := has_old5 J g1
    have g3 := has_old5 J g3
    have g5 := has_old5 J g5
    have g7 := has_old5 J g7
    have g9 := has_old5 J g9
    simp -dsimp [x1, y1, u1, x3, y3, u3, x5, y5, u5, x7, y7, u7, x9, y9, u9, x11, y11, u11]
    generalize W ++ J = W at *
    refine take1_call (i := 2) (j := 1) o11 (by omega) rfl rfl ?_
    rw [h12]
    simp -dsimp [x1, y1, u1, x3, y3, u3, x5, y5, u5, x7, y7, u7, x9, y9, u9, x11, y11, u11]
    have w1 : IntKind.i64.wrap 1 = 1 := Fz.w64 (by omega) (by omega)
    have w2 : IntKind.i64.wrap 2 = 2 := Fz.w64 (by omega) (by omega)
    have w3 : IntKind.i64.wrap 3 = 3 := Fz.w64 (by omega) (by omega)
    have w4 : IntKind.i64.wrap 4 = 4 := Fz.w64 (by omega) (by omega)
    have w5 : IntKind.i64.wrap 5 = 5 := Fz.w64 (by omega) (by omega)
    have w6 : IntKind.i64.wrap 6 = 6 := Fz.w64 (by omega) (by omega)
    refine xL_one (by kernel_rfl) ?_
    simp -dsimp [w1, w2, w3, w4, w5, w6]
    refine take1_call (i := 2) (j := 1) o12 (by omega) rfl rfl ?_
    rw [h13]
    simp -dsimp [x1, y1, u1, x3, y3, u3, x5, y5, u5, x7, y7, u7, x9, y9, u9, x11, y11, u11, w1, w2, w3, w4, w5, w6, roundL]
    refine xL_one (by kernel_rfl) ?_
    simp -dsimp [w1, w2, w3, w4, w5, w6]
    refine take1_call (i := 2) (j := 1) o13 (by omega) rfl rfl ?_
    rw [h14]
    simp -dsimp [x1, y1, u1, x3, y3, u3, x5, y5, u5, x7, y7, u7, x9, y9, u9, x11, y11, u11, w1, w2, w3, w4, w5, w6, roundL]
    refine xL_one (by kernel_rfl) ?_
    simp -dsimp [w1, w2, w3, w4, w5, w6]
    refine take1_call (i := 2) (j := 1) o14 (by omega) rfl rfl ?_
    rw [h15]
    simp -dsimp [x1, y1, u1, x3, y3, u3, x5, y5, u5, x7, y7, u7, x9, y9, u9, x11, y11, u11, w1, w2, w3, w4, w5, w6, roundL]
    refine xL_one (by kernel_rfl) ?_
    simp -dsimp [w1, w2, w3, w4, w5, w6]
    refine take1_call (i := 2) (j := 1) o15 (by omega) rfl rfl ?_
    rw [h16]
    simp -dsimp [x1, y1, u1, x3, y3, u3, x5, y5, u5, x7, y7, u7, x9, y9, u9, x11, y11, u11, w1, w2, w3, w4, w5, w6, roundL]
    refine xL_one (by kernel_rfl) ?_
    simp -dsimp [w1, w2, w3, w4, w5, w6]
    refine take1_call (i := 2) (j := 1) o16 (by omega) rfl rfl ?_
    rw [h17]
    simp -dsimp [x1, y1, u1, x3, y3, u3, x5, y5, u5, x7, y7, u7, x9, y9, u9, x11, y11, u11, w1, w2, w3, w4, w5, w6, roundL]
    refine xL_one (by kernel_rfl) ?_
    simp -dsimp [w1, w2, w3, w4, w5, w6]
    refine take1_call (i := 2) (j := 1) o17 (by omega) rfl rfl ?_
    rw [h18]
    simp -dsimp [x1, y1, u1, x3, y3, u3, x5, y5, u5, x7, y7, u7, x9, y9, u9, x11, y11, u11, w1, w2, w3, w4, w5, w6, roundL]
    refine xL_one (by kernel_rfl) ?_
    simp -dsimp [roundL]
    refine num_go o18 rfl ?_
    rw [h19]
    simp -dsimp [Int.tmod_eq_emod_of_nonneg fl0]
    refine does_go (end_read s19) rfl ?_
    by_cases he : endR s19 = 0
    · simp -dsimp [he, takeV, x1, y1, u1, x3, y3, u3, x5, y5, u5, x7, y7, u7, x9, y9, u9, x11, y11, u11, wFix_by, isInl]
      refine frz_has (has_fin5 g1) (by simp [byT]) (by simp) (.inr ⟨by decide, fun x hx => by obtain ⟨a, _, rfl⟩ := List.mem_map.1 hx; exact ⟨_, rfl⟩⟩) fun F0 q0 _ => ?_
      simp -dsimp
      refine frz_has (has_see q0 (has_fin5 g3)) (by simp) (by simp) (.inl ⟨rfl, by simp⟩) fun F1 q1 _ => ?_
      have q1 := q0.trans q1
      simp -dsimp
      refine frz_has (has_see q1 (has_fin5 g5)) (by simp) (by simp) (.inr ⟨by decide, fun x hx => by obtain ⟨a, _, rfl⟩ := List.mem_map.1 hx; exact ⟨_, rfl⟩⟩) fun F2 q2 _ => ?_
      have q2 := q1.trans q2
      simp -dsimp
      refine frz_has (has_see q2 (has_fin5 g7)) (by simp) (by simp) (.inl ⟨rfl, by simp⟩) fun F3 q3 _ => ?_
      have q3 := q2.trans q3
      simp -dsimp
      refine frz_has (has_see q3 (has_fin5 g9)) (by simp) (by simp) (.inr ⟨by decide, fun x hx => by obtain ⟨a, _, rfl⟩ := List.mem_map.1 hx; exact ⟨_, rfl⟩⟩) fun F4 q4 _ => ?_
      have q4 := q3.trans q4
      simp -dsimp
      refine frz_has (has_see q4 (has_fin5 g11)) (by simp) (by simp) (.inr ⟨by decide, fun x hx => by obtain ⟨a, _, rfl⟩ := List.mem_map.1 hx; exact ⟨_, rfl⟩⟩) fun F5 q5 _ => ?_
      have q5 := q4.trans q5
      simp -dsimp
      rfl
    · simp -dsimp [he, takeV, wFix_by, isInl]
      rfl
end Fz.D
set_option maxRecDepth 100000
namespace Fz.D
open Go
end Fz.D
set_option maxRecDepth 100000
namespace Fz.D
open Go
def refC (B : List Int) (s : Rs) : List V := [byV B, .int .i64 (B.length - s.b.length : Nat), .int .i64 s.e]
def refV (B : List Int) (s : Rs) : V := .agg (refC B s)
@[simp] theorem refV.gd (B : List Int) (s : Rs) : ground (refV B s) = true := by simp [refV, refC]
@[simp] theorem refV.gk (B : List Int) (s : Rs) (k : Nat) : gk (k + 2) (refV B s) = true := by simp [refV, refC]
@[simp] theorem refV.nm (B : List Int) (s : Rs) : nm (refV B s) = true := by simp [refV, refC]
@[simp] theorem refV.nr (B : List Int) (s : Rs) : nrm (refV B s) = refV B s := by simp [refV, refC]
@[simp] theorem refV.any (B : List Int) (s : Rs) : isAny (refV B s) = false := rfl
@[simp] theorem refV.cells (B : List Int) (s : Rs) : cellsOf (refV B s) = refC B s := rfl
structure Suf (B : List Int) (s : Rs) : Prop where
  le : s.b.length ≤ B.length
  eq : s.b = B.drop (B.length - s.b.length)
  len : B.length ≤ 10000000
  by_ : by8 B
end Fz.D
set_option maxRecDepth 100000
namespace Fz.D
open Go
def refK {α : Type} (f : Rs → Rs × α) : Nat → Rs → List α → Rs × List α
  | 0, s, acc => (s, acc)
  | k + 1, s, acc => if s.e ≠ 0 then (s, acc) else refK f k (f s).1 (acc ++ [(f s).2])
def refRd {α : Type} (f : Rs → Rs × α) (s : Rs) : Rs × List α := refK f (rd 0 65536 s).2.toNat (rd 0 65536 s).1 []
end Fz.D
set_option maxRecDepth 100000
namespace Fz.D
open Go
structure Tr (b : List Int) where
  s1 : Rs
  mem : List Rn
  s2 : Rs
  dk : Int
  s3 : Rs
  dt : List Int
  s4 : Rs
  rk : Int
  s5 : Rs
  rt : List Slo
  s6 : Rs
  ck : Int
  s7 : Rs
  ct : List Int
  s8 : Rs
  wk : Int
  s9 : Rs
  wt : List Wor
  s10 : Rs
  sk : Int
  s11 : Rs
  st : List Spo
  s12 : Rs
  out : Int
  s13 : Rs
  r0 : Int
  s14 : Rs
  r1 : Int
  s15 : Rs
  r2 : Int
  s16 : Rs
  r3 : Int
  s17 : Rs
  r4 : Int
  s18 : Rs
  r5 : Int
  s19 : Rs
  fl : Int
  h1 : refRd rdRun ⟨b, 0⟩ = (s1, mem)
  h2 : rdN s1 = (s2, dk)
  h3 : refRd rdN s2 = (s3, dt)
  h4 : rdN s3 = (s4, rk)
  h5 : refRd rdSlo s4 = (s5, rt)
  h6 : rdN s5 = (s6, ck)
  h7 : refRd rdN s6 = (s7, ct)
  h8 : rdN s7 = (s8, wk)
  h9 : refRd rdWor s8 = (s9, wt)
  h10 : rdN s9 = (s10, sk)
  h11 : refRd rdSpo s10 = (s11, st)
  h12 : rdN s11 = (s12, out)
  h13 : rdN s12 = (s13, r0)
  h14 : rdN s13 = (s14, r1)
  h15 : rdN s14 = (s15, r2)
  h16 : rdN s15 = (s16, r3)
  h17 : rdN s16 = (s17, r4)
  h18 : rdN s17 = (s18, r5)
  h19 : rd 0 3 s18 = (s19, fl)
def tr (b : List Int) : Tr b :=
  let x1 := refRd rdRun ⟨b, 0⟩
  let x2 := rdN x1.1
  let x3 := refRd rdN x2.1
  let x4 := rdN x3.1
  let x5 := refRd rdSlo x4.1
  let x6 := rdN x5.1
  let x7 := refRd rdN x6.1
  let x8 := rdN x7.1
  let x9 := refRd rdWor x8.1
  let x10 := rdN x9.1
  let x11 := refRd rdSpo x10.1
  let x12 := rdN x11.1
  let x13 := rdN x12.1
  let x14 := rdN x13.1
  let x15 := rdN x14.1
  let x16 := rdN x15.1
  let x17 := rdN x16.1
  let x18 := rdN x17.1
  let x19 := rd 0 3 x18.1
  { s1 := x1.1, mem := x1.2, s2 := x2.1, dk := x2.2, s3 := x3.1, dt := x3.2, s4 := x4.1, rk := x4.2, s5 := x5.1, rt := x5.2, s6 := x6.1, ck := x6.2, s7 := x7.1, ct := x7.2, s8 := x8.1, wk := x8.2, s9 := x9.1, wt := x9.2, s10 := x10.1, sk := x10.2, s11 := x11.1, st := x11.2, s12 := x12.1, out := x12.2, s13 := x13.1, r0 := x13.2, s14 := x14.1, r1 := x14.2, s15 := x15.1, r2 := x15.2, s16 := x16.1, r3 := x16.2, s17 := x17.1, r4 := x17.2, s18 := x18.1, r5 := x18.2, s19 := x19.1, fl := x19.2, h1 := eta2 _, h2 := eta2 _, h3 := eta2 _, h4 := eta2 _, h5 := eta2 _, h6 := eta2 _, h7 := eta2 _, h8 := eta2 _, h9 := eta2 _, h10 := eta2 _, h11 := eta2 _, h12 := eta2 _, h13 := eta2 _, h14 := eta2 _, h15 := eta2 _, h16 := eta2 _, h17 := eta2 _, h18 := eta2 _, h19 := eta2 _ }
def Tr.d {b : List Int} (t : Tr b) : De := { mem := t.mem, dk := t.dk, dt := t.dt, rk := t.rk, rt := t.rt, ck := t.ck, ct := t.ct, wk := t.wk, wt := t.wt, sk := t.sk, st := t.st, out := t.out, r0 := t.r0, r1 := t.r1, r2 := t.r2, r3 := t.r3, r4 := t.r4, r5 := t.r5, comp := decide (t.fl % 2 = 1), halt := decide (2 ≤ t.fl) }
def refTakeV {b : List Int} (t : Tr b) : V := if endR t.s19 = 0 then .tuple [deV t.d, .int .i64 0] else .tuple [deV De0, .int .i64 (endR t.s19)]
end Fz.D
set_option maxRecDepth 100000
namespace Fz.D
open Go
theorem leadK_app {c : Int} {rest : List Int} (hc : c < 128) : ∀ (l : List Int) (k : Nat), (∀ x ∈ l, 128 ≤ x) → l.length < k → leadK k (l ++ c :: rest) = l.length
  | [], k, _, hk => by
    cases k with
    | zero => simp at hk
    | succ k => rw [List.nil_append, leadK, if_neg (by omega)]; rfl
  | x :: l, k, h, hk => by
    cases k with
    | zero => simp at hk
    | succ k =>
      rw [List.cons_append, leadK, if_pos (h x (by simp)), leadK_app hc l k (fun y hy => h y (by simp [hy])) (by simpa using hk), List.length_cons]
theorem numC_ge : ∀ (n y : Nat), y ≤ n → ∀ x ∈ numC y, 128 ≤ x ∧ x < 256
  | 0, y, h, x, hx => by
    have : y = 0 := by omega
    subst this; rw [numC_zero] at hx; cases hx
  | n + 1, y, h, x, hx => by
    by_cases h0 : y = 0
    · subst h0; rw [numC_zero] at hx; cases hx
    · rw [numC_pos h0] at hx
      rcases List.mem_append.1 hx with hx | hx
      · exact numC_ge n (y / 128) (by omega) x hx
      · simp only [List.mem_cons, List.not_mem_nil, or_false] at hx
        omega
theorem num_k : ∀ (n y : Nat), y ≤ n → y ≠ 0 → ∃ k, 128 ^ k ≤ y ∧ y < 128 ^ (k + 1)
  | 0, y, h, h0 => by omega
  | n + 1, y, h, h0 => by
    by_cases hs : y < 128
    · exact ⟨0, by simp; omega, by simpa using hs⟩
    · obtain ⟨k, h1, h2⟩ := num_k n (y / 128) (by omega) (by omega)
      refine ⟨k + 1, ?_, ?_⟩
      · rw [Nat.pow_succ]; omega
      · rw [Nat.pow_succ (m := k + 1)]; omega
theorem numC_head : ∀ (k y : Nat), 128 ^ k ≤ y → y < 128 ^ (k + 1) → (numC y).length = k + 1 ∧ (numC y).head? = some (((y / 128 ^ k : Nat) : Int) + 128)
  | 0, y, h1, h2 => by
    have h2 : y < 128 := by simpa using h2
    have h1 : 1 ≤ y := by simpa using h1
    rw [numC_pos (by omega), show y / 128 = 0 from by omega, numC_zero]
    simp
    omega
  | k + 1, y, h1, h2 => by
    have h1' : 128 ^ k ≤ y / 128 := by rw [Nat.pow_succ] at h1; omega
    have h2' : y / 128 < 128 ^ (k + 1) := by rw [Nat.pow_succ (m := k + 1)] at h2; omega
    have hp : 0 < 128 ^ k := Nat.pow_pos (by omega)
    obtain ⟨i1, i2⟩ := numC_head k (y / 128) h1' h2'
    rw [numC_pos (by omega)]
    refine ⟨by simp [i1], ?_⟩
    rw [List.head?_append, i2, Nat.div_div_eq_div_mul, Nat.pow_succ, Nat.mul_comm 128]
    rfl
theorem gt_head {l r : List Int} {a : Int} (h : l.head? = some a) : gt (l ++ r) 0 = a := by
  cases l with
  | nil => cases h
  | cons x l => cases h; rfl
theorem fold_num : ∀ (n y : Nat), y ≤ n → y < 18446744073709551616 → (numC y).foldl val1 0 = (y : Int)
  | 0, y, h, _ => by
    have : y = 0 := by omega
    subst this; rw [numC_zero]; rfl
  | n + 1, y, h, hy => by
    by_cases h0 : y = 0
    · subst h0; rw [numC_zero]; rfl
    · rw [numC_pos h0, List.foldl_append, fold_num n (y / 128) (by omega) (by omega)]
      simp only [List.foldl_cons, List.foldl_nil, val1]
      omega
theorem num_A {x : Nat} (hx : x < 18446744073709551616) (rest : List Int) : endsF (numB x ++ rest) = ((numB x).length, 0) ∧ valU (numB x) = (x : Int) := by
  have hx57 : x / 128 < 144115188075855872 := by omega
  have hp9 : (128 : Nat) ^ 9 = 9223372036854775808 := by decide
  have hp8 : (128 : Nat) ^ 8 = 72057594037927936 := by decide
  have e : numB x ++ rest = numC (x / 128) ++ ((x % 128 : Nat) : Int) :: rest := by simp [numB]
  have hge := numC_ge (x / 128) (x / 128) (Nat.le_refl _)
  have hhd : x / 128 ≠ 0 → ∃ k, k ≤ 8 ∧ (numC (x / 128)).length = k + 1 ∧ ∃ a : Int, gt (numB x ++ rest) 0 = a ∧ a ≠ 128 ∧ (k = 8 → a ≤ 129) := by
    intro h0
    obtain ⟨k, h1, h2⟩ := num_k (x / 128) (x / 128) (Nat.le_refl _) h0
    obtain ⟨i1, i2⟩ := numC_head k (x / 128) h1 h2
    have hk : k ≤ 8 := by
      rcases Nat.lt_or_ge k 9 with h | h
      · omega
      · have := Nat.pow_le_pow_right (show 0 < 128 by omega) h
        omega
    have hq : 1 ≤ x / 128 / 128 ^ k := (Nat.one_le_div_iff (Nat.pow_pos (by omega))).2 h1
    have hq8 : k = 8 → x / 128 / 128 ^ k ≤ 1 := fun h8 => by subst h8; rw [hp8]; omega
    generalize x / 128 / 128 ^ k = q at i2 hq hq8
    refine ⟨k, hk, i1, (q : Int) + 128, by rw [e]; exact gt_head i2, by omega, fun h8 => ?_⟩
    have := hq8 h8
    omega
  have hlen : (numC (x / 128)).length ≤ 9 := by
    by_cases h0 : x / 128 = 0
    · rw [h0, numC_zero]; simp
    · obtain ⟨k, hk, i1, _⟩ := hhd h0; omega
  have hlead : lead (numB x ++ rest) = (numC (x / 128)).length := by
    unfold lead
    rw [e]
    exact leadK_app (by omega) _ 10 (fun y hy => (hge y hy).1) (by omega)
  refine ⟨?_, ?_⟩
  · unfold endsF
    rw [hlead]
    have hl : (numB x ++ rest).length = (numC (x / 128)).length + 1 + rest.length := by rw [e]; simp; omega
    have hn : ¬ ((0 < (numB x ++ rest).length ∧ gt (numB x ++ rest) 0 = 128) ∨ (numC (x / 128)).length = 10) := by
      rintro (⟨_, h⟩ | h)
      · by_cases h0 : x / 128 = 0
        · rw [e, h0, numC_zero] at h
          have : ((x % 128 : Nat) : Int) = 128 := h
          omega
        · obtain ⟨k, _, _, a, h1, h2, _⟩ := hhd h0
          exact h2 (by rw [← h1]; exact h)
      · omega
    rw [if_neg hn, if_neg (by omega), if_neg]
    · simp [numB]
    · rintro ⟨h9, h⟩
      by_cases h0 : x / 128 = 0
      · rw [h0, numC_zero] at h9; simp at h9
      · obtain ⟨k, _, i1, a, h1, _, h3⟩ := hhd h0
        have := h3 (by omega)
        omega
  · unfold valU numB
    rw [List.foldl_append, fold_num (x / 128) (x / 128) (Nat.le_refl _) (by omega)]
    simp only [List.foldl_cons, List.foldl_nil, val1]
    omega
theorem unzz_zz {n : Int} (h : i64 n) : unzz (zz n) = n := by
  unfold unzz zz i64 at *
  split <;> split <;> omega
theorem zz_unzz {x : Int} (h : 0 ≤ x ∧ x < 18446744073709551616) : zz (unzz x) = x := by
  unfold unzz zz
  split <;> split <;> omega
theorem rd_A {n lo hi : Int} (h : i64 n) (h1 : lo ≤ n) (h2 : n ≤ hi) (rest : List Int) : rd lo hi ⟨encN n ++ rest, 0⟩ = (⟨rest, 0⟩, n) := by
  obtain ⟨z0, z1⟩ := zz_le h
  obtain ⟨a, b⟩ := num_A (x := (zz n).toNat) (by omega) rest
  have et : (encN n ++ rest).take (numB (zz n).toNat).length = numB (zz n).toNat := List.take_left' rfl
  have ed : (encN n ++ rest).drop (numB (zz n).toNat).length = rest := List.drop_left' rfl
  have a' : endsF (encN n ++ rest) = ((numB (zz n).toNat).length, 0) := a
  unfold rd
  simp only [a']
  rw [if_neg (by simp), if_neg (by simp), et, ed, b, show (((zz n).toNat : Nat) : Int) = zz n from by omega, unzz_zz h, if_neg (by omega)]
end Fz.D
set_option maxRecDepth 100000
namespace Fz.D
open Go
theorem lead_split : ∀ (k : Nat) (b : List Int), leadK k b < k → leadK k b < b.length → (∀ x ∈ b.take (leadK k b), 128 ≤ x) ∧ gt b (leadK k b) < 128
  | 0, b, h, _ => by omega
  | k + 1, [], _, h => by simp [leadK] at h
  | k + 1, x :: l, h, h' => by
    unfold leadK at h h' ⊢
    split
    · rename_i hx
      rw [if_pos hx] at h h'
      obtain ⟨h1, h2⟩ := lead_split k l (by omega) (by simpa using h')
      refine ⟨fun y hy => ?_, by simpa [gt] using h2⟩
      rw [List.take_succ_cons] at hy
      rcases List.mem_cons.1 hy with rfl | hy
      · exact hx
      · exact h1 y hy
    · rename_i hx
      exact ⟨fun y hy => by simp at hy, by simp [gt]; omega⟩
def valN (l : List Int) : Nat := l.foldl (fun v c => v * 128 + (c.toNat - 128)) 0
theorem valN_snoc (l : List Int) (c : Int) : valN (l ++ [c]) = valN l * 128 + (c.toNat - 128) := by
  unfold valN; rw [List.foldl_append]; rfl
theorem canon : ∀ (n : Nat) (l : List Int), l.length = n → (∀ x ∈ l, 128 ≤ x ∧ x < 256) → (l ≠ [] → gt l 0 ≠ 128) → numC (valN l) = l ∧ (l ≠ [] → valN l ≠ 0) ∧ valN l < 128 ^ n ∧ (l ≠ [] → gt l 0 ≤ 129 → valN l < 2 * 128 ^ (n - 1))
  | 0, l, h, _, _ => by
    have : l = [] := List.length_eq_zero_iff.1 h
    subst this
    exact ⟨numC_zero, fun h => absurd rfl h, by simp [valN], fun h => absurd rfl h⟩
  | n + 1, l, h, hx, hg => by
    rcases List.eq_nil_or_concat l with rfl | ⟨L, c, rfl⟩
    · simp at h
    · rw [List.concat_eq_append] at *
      have hL : L.length = n := by simpa using h
      have hc := hx c (by simp)
      have hgL : L ≠ [] → gt L 0 = gt (L ++ [c]) 0 := fun hne => by
        cases L with
        | nil => exact absurd rfl hne
        | cons a L => rfl
      obtain ⟨i1, i2, i3, i4⟩ := canon n L hL (fun x hxx => hx x (by simp [hxx])) (fun hne => by rw [hgL hne]; exact hg (by simp))
      rw [valN_snoc]
      obtain ⟨d, hd⟩ : ∃ d : Nat, c = d + 128 ∧ d < 128 := ⟨c.toNat - 128, by omega, by omega⟩
      obtain ⟨hd, hd'⟩ := hd
      have e1 : c.toNat - 128 = d := by omega
      rw [e1]
      have hne0 : valN L * 128 + d ≠ 0 := by
        by_cases hn : L = []
        · subst hn
          have := hg (by simp)
          have : c ≠ 128 := this
          omega
        · have := i2 hn; omega
      refine ⟨?_, fun _ => hne0, ?_, fun _ hle => ?_⟩
      · rw [numC_pos hne0, show (valN L * 128 + d) / 128 = valN L from by omega, i1, show (valN L * 128 + d) % 128 = d from by omega, hd]
      · rw [Nat.pow_succ]; omega
      · by_cases hn : L = []
        · subst hn
          have hn0 : n = 0 := by simpa using hL.symm
          subst hn0
          have : c ≤ 129 := hle
          simp [valN]
          omega
        · have := i4 hn (by rw [hgL hn]; exact hle)
          have hnp : n ≠ 0 := fun h0 => hn (List.length_eq_zero_iff.1 (by omega))
          obtain ⟨m, rfl⟩ : ∃ m, n = m + 1 := ⟨n - 1, by omega⟩
          simp only [Nat.add_sub_cancel] at this ⊢
          rw [Nat.pow_succ]; omega
theorem fold_valN : ∀ (n : Nat) (l : List Int), l.length = n → (∀ x ∈ l, 128 ≤ x ∧ x < 256) → valN l < 18446744073709551616 → l.foldl val1 0 = (valN l : Int)
  | 0, l, h, _, _ => by
    have : l = [] := List.length_eq_zero_iff.1 h
    subst this; rfl
  | n + 1, l, h, hx, hv => by
    rcases List.eq_nil_or_concat l with rfl | ⟨L, c, rfl⟩
    · simp at h
    · rw [List.concat_eq_append] at *
      rw [valN_snoc] at hv ⊢
      have hc := hx c (by simp)
      rw [List.foldl_append, fold_valN n L (by simpa using h) (fun x hxx => hx x (by simp [hxx])) (by omega)]
      simp only [List.foldl_cons, List.foldl_nil, val1]
      omega
theorem num_B {b : List Int} (h8 : by8 b) (he : (endsF b).2 = 0) : (endsF b).1 ≤ b.length ∧ b.take (endsF b).1 = numB (valU (b.take (endsF b).1)).toNat := by
  have hle := lead_le b
  have hp9 : (128 : Nat) ^ 9 = 9223372036854775808 := by decide
  have hp8 : (128 : Nat) ^ 8 = 72057594037927936 := by decide
  have hE : endsF b = (lead b + 1, 0) ∧ ¬ ((0 < b.length ∧ gt b 0 = 128) ∨ lead b = 10) ∧ lead b ≠ b.length ∧ ¬ (lead b = 9 ∧ 129 < gt b 0) := by
    unfold endsF at he ⊢
    split at he
    · simp at he
    · rename_i c1
      rw [if_neg c1]
      split at he
      · simp at he
      · rename_i c2
        rw [if_neg c2]
        split at he
        · simp at he
        · rename_i c3
          rw [if_neg c3]
          exact ⟨rfl, c1, c2, c3⟩
  obtain ⟨hE, n1, n2, n3⟩ := hE
  rw [hE]
  simp only
  have hlt : lead b < b.length := by omega
  have hl10 : lead b < 10 := by omega
  obtain ⟨s1, s2⟩ := lead_split 10 b hl10 hlt
  have s1 : ∀ x ∈ b.take (lead b), 128 ≤ x := s1
  have s2 : gt b (lead b) < 128 := s2
  have hge : ∀ x ∈ b.take (lead b), 128 ≤ x ∧ x < 256 := fun x hx => ⟨s1 x hx, (h8 x (List.mem_of_mem_take hx)).2⟩
  have hbl : b[lead b] = gt b (lead b) := gt_at hlt
  have hg0 := h8 b[lead b] (List.getElem_mem hlt)
  have hll : (b.take (lead b)).length = lead b := by simp; omega
  have hgt : b.take (lead b) ≠ [] → gt (b.take (lead b)) 0 = gt b 0 := fun hne => by
    cases b with
    | nil => simp at hne
    | cons a b' =>
      cases hl : lead (a :: b') with
      | zero => rw [hl] at hne; simp at hne
      | succ k => rfl
  obtain ⟨i1, i2, i3, i4⟩ := canon (lead b) (b.take (lead b)) hll hge (fun hne => by rw [hgt hne]; intro h; exact n1 (.inl ⟨by omega, h⟩))
  have hv : valN (b.take (lead b)) < 144115188075855872 := by
    by_cases h9 : lead b = 9
    · have hne : b.take (lead b) ≠ [] := fun h => by rw [h] at hll; simp at hll; omega
      have := i4 hne (by rw [hgt hne]; omega)
      rw [h9] at this
      simp only [show 9 - 1 = 8 from rfl] at this
      rw [h9]
      omega
    · have := Nat.pow_le_pow_right (show 0 < 128 by omega) (show lead b ≤ 8 by omega)
      omega
  have htk : b.take (lead b + 1) = b.take (lead b) ++ [gt b (lead b)] := by
    rw [List.take_succ_eq_append_getElem hlt, hbl]
  have hval : valU (b.take (lead b + 1)) = (valN (b.take (lead b)) * 128 + (gt b (lead b)).toNat : Nat) := by
    rw [htk]
    unfold valU
    rw [List.foldl_append, fold_valN (lead b) (b.take (lead b)) hll hge (by omega)]
    simp only [List.foldl_cons, List.foldl_nil, val1]
    omega
  refine ⟨by omega, ?_⟩
  rw [hval, Int.toNat_natCast, htk]
  unfold numB
  rw [show (valN (b.take (lead b)) * 128 + (gt b (lead b)).toNat) / 128 = valN (b.take (lead b)) from by omega, i1, show (valN (b.take (lead b)) * 128 + (gt b (lead b)).toNat) % 128 = (gt b (lead b)).toNat from by omega]
  congr 2
  omega
theorem rd_B {lo hi : Int} {s : Rs} (h8 : by8 s.b) (h : (rd lo hi s).1.e = 0) : s.e = 0 ∧ s.b = encN (rd lo hi s).2 ++ (rd lo hi s).1.b ∧ i64 (rd lo hi s).2 ∧ lo ≤ (rd lo hi s).2 ∧ (rd lo hi s).2 ≤ hi := by
  have hok := rd_ok h
  unfold rd at h hok ⊢
  split at h
  · rename_i c; exact absurd h c
  · rename_i c
    rw [if_neg c] at hok ⊢
    split at h
    · rename_i c2; exact absurd h c2
    · rename_i c2
      rw [if_neg c2] at hok ⊢
      split at h
      · simp at h
      · rename_i c3
        rw [if_neg c3] at hok ⊢
        obtain ⟨b1, b2⟩ := num_B h8 (by omega)
        have hr := valU_rng (s.b.take (endsF s.b).1)
        refine ⟨by omega, ?_, unzz_rng hr, hok⟩
        show s.b = encN (unzz (valU (s.b.take (endsF s.b).1))) ++ s.b.drop (endsF s.b).1
        unfold encN
        rw [zz_unzz hr, ← b2, List.take_append_drop]
end Fz.D
set_option maxRecDepth 100000
namespace Fz.D
open Go
structure Enc {α : Type} (f : Rs → Rs × α) (enc : α → List Int) (P : α → Prop) : Prop where
  A : ∀ x rest, P x → f ⟨enc x ++ rest, 0⟩ = (⟨rest, 0⟩, x)
  B : ∀ s, by8 s.b → (f s).1.e = 0 → s.e = 0 ∧ s.b = enc (f s).2 ++ (f s).1.b ∧ P (f s).2
theorem by8_right {a b c : List Int} (h : by8 c) (e : c = a ++ b) : by8 b := fun x hx => h x (by rw [e]; exact List.mem_append_right _ hx)
theorem enc_n : Enc rdN encN i64 where
  A x rest h := rd_A h h.1 h.2 rest
  B s h8 h := by
    obtain ⟨h1, h2, h3, _⟩ := rd_B h8 h
    exact ⟨h1, h2, h3⟩
theorem enc_r (hi : Int) (hh : 0 ≤ hi ∧ hi ≤ 65536) : Enc (rd 0 hi) encN (fun n => 0 ≤ n ∧ n ≤ hi) where
  A x rest h := rd_A (by unfold i64; omega) h.1 h.2 rest
  B s h8 h := by
    obtain ⟨h1, h2, h3, h4⟩ := rd_B h8 h
    exact ⟨h1, h2, h4⟩
theorem enc_t : Enc (rdT 65536) txt (fun b => b.length ≤ 65536 ∧ by8 b) where
  A x rest h := by
    have := (enc_r 65536 (by omega)).A (x.length : Int) (x ++ rest) (by omega)
    have e : txt x ++ rest = encN x.length ++ (x ++ rest) := by simp [txt]
    rw [e]
    unfold rdT
    rw [this]
    simp only
    rw [if_neg (by simp), if_neg (by simp; omega), Int.toNat_natCast, List.drop_left' rfl, List.take_left' rfl]
  B s h8 h := by
    have hb := @rd_B 0 65536 s h8
    by_cases he : (rd 0 65536 s).1.e = 0
    · obtain ⟨h1, h2, h3, h4, h5⟩ := hb he
      by_cases hn : ((rd 0 65536 s).1.b.length : Int) < (rd 0 65536 s).2
      · exfalso
        unfold rdT at h
        rw [if_neg (by rw [he]; simp), if_pos hn] at h
        simp at h
      · rw [rdT_eq 65536 s he hn]
        simp only
        have hl : ((rd 0 65536 s).1.b.take (rd 0 65536 s).2.toNat).length = (rd 0 65536 s).2.toNat := by simp; omega
        refine ⟨h1, ?_, by omega, fun x hx => by8_right h8 h2 x (List.mem_of_mem_take hx)⟩
        unfold txt
        rw [hl, show (((rd 0 65536 s).2.toNat : Nat) : Int) = (rd 0 65536 s).2 from by omega, List.append_assoc, List.take_append_drop]
        exact h2
    · exfalso
      unfold rdT at h
      rw [if_pos he] at h
      exact he h
theorem enc_run : Enc rdRun encRun (fun r => i64 r.at_ ∧ r.b.length ≤ 65536 ∧ by8 r.b) where
  A x rest h := by
    have e : encRun x ++ rest = encN x.at_ ++ (txt x.b ++ rest) := by simp [encRun]
    unfold rdRun
    rw [e, enc_n.A _ _ h.1]
    simp only
    rw [enc_t.A _ _ h.2]
  B s h8 h := by
    obtain ⟨h1, h2, h3⟩ := enc_t.B (rdN s).1 (by
      have := @rd_by (-9223372036854775808) 9223372036854775807 s h8; exact this) h
    obtain ⟨g1, g2, g3⟩ := enc_n.B s h8 h1
    refine ⟨g1, ?_, g3, h3⟩
    show s.b = encN (rdN s).2 ++ txt (rdT 65536 (rdN s).1).2 ++ (rdT 65536 (rdN s).1).1.b
    rw [List.append_assoc, ← h2, ← g2]
theorem encs_two (a b : Int) : encs [a, b] = encN a ++ encN b := by simp [encs, cat]
theorem enc_slo : Enc rdSlo encSlo (fun s => i64 s.v) where
  A x rest h := by
    have e : encSlo x ++ rest = encN x.v ++ (encN (if x.call then 1 else 0) ++ rest) := by unfold encSlo; rw [encs_two, List.append_assoc]
    unfold rdSlo
    rw [e, enc_n.A _ _ h]
    simp only
    rw [(enc_r 1 (by omega)).A _ _ (by split <;> omega)]
    obtain ⟨v, c⟩ := x
    cases c <;> rfl
  B s h8 h := by
    obtain ⟨h1, h2, h3⟩ := (enc_r 1 (by omega)).B (rdN s).1 (@rd_by _ _ s h8) h
    obtain ⟨g1, g2, g3⟩ := enc_n.B s h8 h1
    refine ⟨g1, ?_, g3⟩
    show s.b = encs [(rdN s).2, if decide ((rd 0 1 (rdN s).1).2 = 1) = true then 1 else 0] ++ (rd 0 1 (rdN s).1).1.b
    have e : (if decide ((rd 0 1 (rdN s).1).2 = 1) = true then (1 : Int) else 0) = (rd 0 1 (rdN s).1).2 := by
      by_cases hc : (rd 0 1 (rdN s).1).2 = 1
      · simp [hc]
      · simp [hc]; omega
    rw [e, encs_two, List.append_assoc, ← h2, ← g2]
theorem enc_spo : Enc rdSpo encSpo (fun s => i64 s.addr ∧ i64 s.at_) where
  A x rest h := by
    have e : encSpo x ++ rest = encN x.addr ++ (encN x.at_ ++ rest) := by unfold encSpo; rw [encs_two, List.append_assoc]
    unfold rdSpo
    rw [e, enc_n.A _ _ h.1]
    simp only
    rw [enc_n.A _ _ h.2]
  B s h8 h := by
    obtain ⟨h1, h2, h3⟩ := enc_n.B (rdN s).1 (@rd_by _ _ s h8) h
    obtain ⟨g1, g2, g3⟩ := enc_n.B s h8 h1
    refine ⟨g1, ?_, g3, h3⟩
    show s.b = encs [(rdN s).2, (rdN (rdN s).1).2] ++ (rdN (rdN s).1).1.b
    rw [encs_two, List.append_assoc, ← h2, ← g2]
theorem flg_of {n : Int} (h : 0 ≤ n ∧ n ≤ 3) : flg (decide (n % 2 = 1)) (decide (2 ≤ n)) = n := by
  unfold flg
  by_cases h1 : n % 2 = 1 <;> by_cases h2 : 2 ≤ n <;> simp [h1, h2] <;> omega
theorem of_flg (a b : Bool) : (0 ≤ flg a b ∧ flg a b ≤ 3) ∧ decide (flg a b % 2 = 1) = a ∧ decide (2 ≤ flg a b) = b := by
  cases a <;> cases b <;> decide
theorem nm_bstr {b : List Int} (h : by8 b) : nmB (bstr b) = b := by
  rw [bstr_eq]
  unfold nmB
  simp only [List.map_map]
  conv => rhs; rw [← List.map_id b]
  refine List.map_congr_left fun x hx => ?_
  have := h x hx
  have e : (u8f x).toNat = x.toNat := by
    show x.toNat % 256 = _
    omega
  simp only [Function.comp_apply, id_eq, e]
  omega
theorem bstr_nm (s : ByteArray) : bstr (nmB s) = s := by
  rw [bstr_eq]
  unfold nmB
  obtain ⟨d⟩ := s
  congr 1
  apply Array.ext'
  simp only [List.map_map]
  conv => rhs; rw [← List.map_id d.toList]
  refine List.map_congr_left fun x _ => ?_
  simp only [Function.comp_apply, id_eq]
  unfold u8f
  simp
theorem enc_wor : Enc rdWor encWor (fun s => i64 s.code ∧ (nmB s.name).length ≤ 65536) where
  A x rest h := by
    have e : encWor x ++ rest = txt (nmB x.name) ++ (encN x.code ++ (encN (flg x.now x.hid) ++ rest)) := by unfold encWor; rw [encs_two]; simp
    obtain ⟨f1, f2, f3⟩ := of_flg x.now x.hid
    unfold rdWor
    rw [e, enc_t.A _ _ ⟨h.2, by8_nmB _⟩]
    simp only
    rw [enc_n.A _ _ h.1]
    simp only
    rw [(enc_r 3 (by omega)).A _ _ f1, bstr_nm]
    simp only [f2, f3]
  B s h8 h := by
    have hT8 : (rdT 65536 s).1.e = 0 → by8 (rdT 65536 s).1.b := fun he => by
      obtain ⟨_, g2, _⟩ := enc_t.B s h8 he
      exact by8_right h8 g2
    have hT8' : by8 (rdT 65536 s).1.b := by
      unfold rdT
      have := @rd_by 0 65536 s h8
      split
      · exact this
      · split
        · exact this
        · exact fun x hx => this x (List.mem_of_mem_drop hx)
    obtain ⟨h1, h2, h3⟩ := (enc_r 3 (by omega)).B (rdN (rdT 65536 s).1).1 (@rd_by _ _ _ hT8') h
    obtain ⟨g1, g2, g3⟩ := enc_n.B (rdT 65536 s).1 hT8' h1
    obtain ⟨k1, k2, k3, k4⟩ := enc_t.B s h8 g1
    refine ⟨k1, ?_, g3, ?_⟩
    · show s.b = txt (nmB (bstr (rdT 65536 s).2)) ++ encs [(rdN (rdT 65536 s).1).2, flg (decide ((rd 0 3 (rdN (rdT 65536 s).1).1).2 % 2 = 1)) (decide (2 ≤ (rd 0 3 (rdN (rdT 65536 s).1).1).2))] ++ (rd 0 3 (rdN (rdT 65536 s).1).1).1.b
      rw [nm_bstr k4, flg_of h3, encs_two, List.append_assoc, List.append_assoc, ← h2, ← g2, ← k2]
    · show (nmB (bstr (rdT 65536 s).2)).length ≤ _
      rw [nm_bstr k4]; exact k3
theorem encL_cons {α : Type} (f : α → List Int) (a : α) (l : List α) : encL f (a :: l) = f a ++ encL f l := by simp [encL, cat]
theorem refK_A {α : Type} {f : Rs → Rs × α} {enc : α → List Int} {P : α → Prop} (h : Enc f enc P) : ∀ (l : List α) (rest : List Int) (acc : List α), (∀ x ∈ l, P x) → refK f l.length ⟨encL enc l ++ rest, 0⟩ acc = (⟨rest, 0⟩, acc ++ l)
  | [], rest, acc, _ => by simp [refK, encL]
  | a :: l, rest, acc, hp => by
    rw [List.length_cons, refK, if_neg (by simp), encL_cons, List.append_assoc, h.A _ _ (hp a (by simp))]
    simp only
    rw [refK_A h l rest (acc ++ [a]) fun x hx => hp x (by simp [hx])]
    simp
theorem refK_B {α : Type} {f : Rs → Rs × α} {enc : α → List Int} {P : α → Prop} (h : Enc f enc P) : ∀ (k : Nat) (s : Rs) (acc : List α), by8 s.b → (refK f k s acc).1.e = 0 →
    s.e = 0 ∧ ∃ l, (refK f k s acc).2 = acc ++ l ∧ l.length = k ∧ s.b = encL enc l ++ (refK f k s acc).1.b ∧ ∀ x ∈ l, P x
  | 0, s, acc, _, he => ⟨he, [], by simp [refK], rfl, by simp [refK, encL], by simp⟩
  | k + 1, s, acc, h8, he => by
    unfold refK at he ⊢
    split at he
    · rename_i c; exact absurd he c
    · rename_i c
      rw [if_neg c]
      have hse : s.e = 0 := by omega
      have hfe : (f s).1.e = 0 := by
        rcases Classical.em ((f s).1.e = 0) with hh | hh
        · exact hh
        · exfalso
          have : ∀ (k : Nat) (s' : Rs) (acc : List α), s'.e ≠ 0 → (refK f k s' acc).1.e ≠ 0 := by
            intro k
            cases k with
            | zero => intro s' acc h; exact h
            | succ k => intro s' acc h; rw [refK, if_pos h]; exact h
          exact this k _ _ hh he
      obtain ⟨h1, h2, h3⟩ := h.B s h8 hfe
      obtain ⟨_, l, g1, g2, g3, g4⟩ := refK_B h k (f s).1 (acc ++ [(f s).2]) (by8_right h8 h2) he
      refine ⟨hse, (f s).2 :: l, by rw [g1]; simp, by simp [g2], ?_, ?_⟩
      · rw [encL_cons, List.append_assoc, ← g3, ← h2]
      · intro x hx
        rcases List.mem_cons.1 hx with rfl | hx
        · exact h3
        · exact g4 x hx
theorem enc_l {α : Type} {f : Rs → Rs × α} {enc : α → List Int} {P : α → Prop} (h : Enc f enc P) : Enc (refRd f) (fun l => encN l.length ++ encL enc l) (fun l => (∀ x ∈ l, P x) ∧ l.length ≤ 65536) where
  A l rest hp := by
    unfold refRd
    rw [List.append_assoc, (enc_r 65536 (by omega)).A (l.length : Int) (encL enc l ++ rest) (by omega)]
    simp only
    rw [Int.toNat_natCast, refK_A h l rest [] hp.1, List.nil_append]
  B s h8 he := by
    have hb := @rd_by 0 65536 s h8
    obtain ⟨h1, l, g1, g2, g3, g4⟩ := refK_B h (rd 0 65536 s).2.toNat (rd 0 65536 s).1 [] hb he
    obtain ⟨k1, k2, k3⟩ := (enc_r 65536 (by omega)).B s h8 h1
    have hl : (refRd f s).2 = l := by show (refK f _ _ []).2 = l; rw [g1, List.nil_append]
    refine ⟨k1, ?_, ?_⟩
    · rw [hl, g2, show (((rd 0 65536 s).2.toNat : Nat) : Int) = (rd 0 65536 s).2 from by omega, List.append_assoc]
      rw [k2]
      exact congrArg (encN (rd 0 65536 s).2 ++ ·) g3
    · rw [hl]; exact ⟨g4, by omega⟩
end Fz.D
set_option maxRecDepth 100000
namespace Fz.D
open Go
theorem rdT_by8 {m : Int} {s : Rs} (h8 : by8 s.b) : by8 (rdT m s).1.b := by
  unfold rdT
  have := @rd_by 0 m s h8
  split
  · exact this
  · split
    · exact this
    · exact fun x hx => this x (List.mem_of_mem_drop hx)
theorem refKK_by {α : Type} {f : Rs → Rs × α} (hf : ∀ s, by8 s.b → by8 (f s).1.b) : ∀ (k : Nat) (s : Rs) (acc : List α), by8 s.b → by8 (refK f k s acc).1.b
  | 0, s, acc, h => h
  | k + 1, s, acc, h => by
    unfold refK
    split
    · exact h
    · exact refKK_by hf k _ _ (hf s h)
theorem refK_by {α : Type} {f : Rs → Rs × α} (hf : ∀ s, by8 s.b → by8 (f s).1.b) {s : Rs} (h : by8 s.b) : by8 (refRd f s).1.b := refKK_by hf _ _ _ (@rd_by 0 65536 s h)
theorem encD_parts (d : De) : encD d = (encN d.mem.length ++ encL encRun d.mem) ++ ((encN d.dk) ++ ((encN d.dt.length ++ encL encN d.dt) ++ ((encN d.rk) ++ ((encN d.rt.length ++ encL encSlo d.rt) ++ ((encN d.ck) ++ ((encN d.ct.length ++ encL encN d.ct) ++ ((encN d.wk) ++ ((encN d.wt.length ++ encL encWor d.wt) ++ ((encN d.sk) ++ ((encN d.st.length ++ encL encSpo d.st) ++ ((encN d.out) ++ ((encN d.r0) ++ ((encN d.r1) ++ ((encN d.r2) ++ ((encN d.r3) ++ ((encN d.r4) ++ ((encN d.r5) ++ (encN (flg d.comp d.halt))))))))))))))))))) := by
  unfold encD
  simp only [encs, encL, cat, List.map_cons, List.map_nil, List.flatten_cons, List.flatten_nil, List.append_nil, List.append_assoc]
structure TkOk (d : De) : Prop where
  mem : (∀ r ∈ d.mem, i64 r.at_ ∧ r.b.length ≤ 65536 ∧ by8 r.b) ∧ d.mem.length ≤ 65536
  dk : i64 d.dk
  dt : (∀ n ∈ d.dt, i64 n) ∧ d.dt.length ≤ 65536
  rk : i64 d.rk
  rt : (∀ s ∈ d.rt, i64 s.v) ∧ d.rt.length ≤ 65536
  ck : i64 d.ck
  ct : (∀ n ∈ d.ct, i64 n) ∧ d.ct.length ≤ 65536
  wk : i64 d.wk
  wt : (∀ s ∈ d.wt, i64 s.code ∧ (nmB s.name).length ≤ 65536) ∧ d.wt.length ≤ 65536
  sk : i64 d.sk
  st : (∀ s ∈ d.st, i64 s.addr ∧ i64 s.at_) ∧ d.st.length ≤ 65536
  out : i64 d.out
  r0 : i64 d.r0
  r1 : i64 d.r1
  r2 : i64 d.r2
  r3 : i64 d.r3
  r4 : i64 d.r4
  r5 : i64 d.r5
theorem tr_A {d : De} (h : TkOk d) (rest b : List Int) (hb : b = encD d ++ rest) (t : Tr b) : t.s19 = ⟨rest, 0⟩ ∧ t.d = d := by
  obtain ⟨s1, mem, s2, dk, s3, dt, s4, rk, s5, rt, s6, ck, s7, ct, s8, wk, s9, wt, s10, sk, s11, st, s12, out, s13, r0, s14, r1, s15, r2, s16, r3, s17, r4, s18, r5, s19, fl, h1, h2, h3, h4, h5, h6, h7, h8, h9, h10, h11, h12, h13, h14, h15, h16, h17, h18, h19⟩ := t
  rw [hb, encD_parts] at h1
  simp only [List.append_assoc] at h1
  obtain ⟨f1, f2, f3⟩ := of_flg d.comp d.halt
  have A1 : ∀ rest, refRd rdRun ⟨encN d.mem.length ++ (encL encRun d.mem ++ rest), 0⟩ = (⟨rest, 0⟩, d.mem) := fun rest => by rw [← List.append_assoc]; exact (enc_l enc_run).A d.mem rest h.mem
  have a1 := (A1 _).symm.trans h1
  obtain ⟨e1, v1⟩ := Prod.mk.inj a1
  subst e1
  subst v1
  have a2 := (enc_n.A d.dk _ h.dk).symm.trans h2
  obtain ⟨e2, v2⟩ := Prod.mk.inj a2
  subst e2
  subst v2
  have A3 : ∀ rest, refRd rdN ⟨encN d.dt.length ++ (encL encN d.dt ++ rest), 0⟩ = (⟨rest, 0⟩, d.dt) := fun rest => by rw [← List.append_assoc]; exact (enc_l enc_n).A d.dt rest h.dt
  have a3 := (A3 _).symm.trans h3
  obtain ⟨e3, v3⟩ := Prod.mk.inj a3
  subst e3
  subst v3
  have a4 := (enc_n.A d.rk _ h.rk).symm.trans h4
  obtain ⟨e4, v4⟩ := Prod.mk.inj a4
  subst e4
  subst v4
  have A5 : ∀ rest, refRd rdSlo ⟨encN d.rt.length ++ (encL encSlo d.rt ++ rest), 0⟩ = (⟨rest, 0⟩, d.rt) := fun rest => by rw [← List.append_assoc]; exact (enc_l enc_slo).A d.rt rest h.rt
  have a5 := (A5 _).symm.trans h5
  obtain ⟨e5, v5⟩ := Prod.mk.inj a5
  subst e5
  subst v5
  have a6 := (enc_n.A d.ck _ h.ck).symm.trans h6
  obtain ⟨e6, v6⟩ := Prod.mk.inj a6
  subst e6
  subst v6
  have A7 : ∀ rest, refRd rdN ⟨encN d.ct.length ++ (encL encN d.ct ++ rest), 0⟩ = (⟨rest, 0⟩, d.ct) := fun rest => by rw [← List.append_assoc]; exact (enc_l enc_n).A d.ct rest h.ct
  have a7 := (A7 _).symm.trans h7
  obtain ⟨e7, v7⟩ := Prod.mk.inj a7
  subst e7
  subst v7
  have a8 := (enc_n.A d.wk _ h.wk).symm.trans h8
  obtain ⟨e8, v8⟩ := Prod.mk.inj a8
  subst e8
  subst v8
  have A9 : ∀ rest, refRd rdWor ⟨encN d.wt.length ++ (encL encWor d.wt ++ rest), 0⟩ = (⟨rest, 0⟩, d.wt) := fun rest => by rw [← List.append_assoc]; exact (enc_l enc_wor).A d.wt rest h.wt
  have a9 := (A9 _).symm.trans h9
  obtain ⟨e9, v9⟩ := Prod.mk.inj a9
  subst e9
  subst v9
  have a10 := (enc_n.A d.sk _ h.sk).symm.trans h10
  obtain ⟨e10, v10⟩ := Prod.mk.inj a10
  subst e10
  subst v10
  have A11 : ∀ rest, refRd rdSpo ⟨encN d.st.length ++ (encL encSpo d.st ++ rest), 0⟩ = (⟨rest, 0⟩, d.st) := fun rest => by rw [← List.append_assoc]; exact (enc_l enc_spo).A d.st rest h.st
  have a11 := (A11 _).symm.trans h11
  obtain ⟨e11, v11⟩ := Prod.mk.inj a11
  subst e11
  subst v11
  have a12 := (enc_n.A d.out _ h.out).symm.trans h12
  obtain ⟨e12, v12⟩ := Prod.mk.inj a12
  subst e12
  subst v12
  have a13 := (enc_n.A d.r0 _ h.r0).symm.trans h13
  obtain ⟨e13, v13⟩ := Prod.mk.inj a13
  subst e13
  subst v13
  have a14 := (enc_n.A d.r1 _ h.r1).symm.trans h14
  obtain ⟨e14, v14⟩ := Prod.mk.inj a14
  subst e14
  subst v14
  have a15 := (enc_n.A d.r2 _ h.r2).symm.trans h15
  obtain ⟨e15, v15⟩ := Prod.mk.inj a15
  subst e15
  subst v15
  have a16 := (enc_n.A d.r3 _ h.r3).symm.trans h16
  obtain ⟨e16, v16⟩ := Prod.mk.inj a16
  subst e16
  subst v16
  have a17 := (enc_n.A d.r4 _ h.r4).symm.trans h17
  obtain ⟨e17, v17⟩ := Prod.mk.inj a17
  subst e17
  subst v17
  have a18 := (enc_n.A d.r5 _ h.r5).symm.trans h18
  obtain ⟨e18, v18⟩ := Prod.mk.inj a18
  subst e18
  subst v18
  have a19 := ((enc_r 3 (by omega)).A (flg d.comp d.halt) _ f1).symm.trans h19
  obtain ⟨e19, v19⟩ := Prod.mk.inj a19
  subst e19
  subst v19
  refine ⟨rfl, ?_⟩
  unfold Tr.d
  simp only [f2, f3]
theorem tr_B {b : List Int} (hby : by8 b) (t : Tr b) (he : t.s19.e = 0) : b = encD t.d ++ t.s19.b ∧ TkOk t.d := by
  obtain ⟨s1, mem, s2, dk, s3, dt, s4, rk, s5, rt, s6, ck, s7, ct, s8, wk, s9, wt, s10, sk, s11, st, s12, out, s13, r0, s14, r1, s15, r2, s16, r3, s17, r4, s18, r5, s19, fl, h1, h2, h3, h4, h5, h6, h7, h8, h9, h10, h11, h12, h13, h14, h15, h16, h17, h18, h19⟩ := t
  have he : s19.e = 0 := he
  have q0 : by8 b := hby
  have q1 : by8 s1.b := by have := refK_by (f := rdRun) (fun s h => (rdT_by8 (rd_by h) : by8 (rdRun s).1.b)) (s := ⟨b, 0⟩) q0; rw [h1] at this; exact this
  have q2 : by8 s2.b := by have := @rd_by (-9223372036854775808) 9223372036854775807 s1 q1; rw [show rd (-9223372036854775808) 9223372036854775807 s1 = (s2, dk) from h2] at this; exact this
  have q3 : by8 s3.b := by have := refK_by (f := rdN) (fun s h => rd_by h) (s := s2) q2; rw [h3] at this; exact this
  have q4 : by8 s4.b := by have := @rd_by (-9223372036854775808) 9223372036854775807 s3 q3; rw [show rd (-9223372036854775808) 9223372036854775807 s3 = (s4, rk) from h4] at this; exact this
  have q5 : by8 s5.b := by have := refK_by (f := rdSlo) (fun s h => (rd_by (rd_by h) : by8 (rdSlo s).1.b)) (s := s4) q4; rw [h5] at this; exact this
  have q6 : by8 s6.b := by have := @rd_by (-9223372036854775808) 9223372036854775807 s5 q5; rw [show rd (-9223372036854775808) 9223372036854775807 s5 = (s6, ck) from h6] at this; exact this
  have q7 : by8 s7.b := by have := refK_by (f := rdN) (fun s h => rd_by h) (s := s6) q6; rw [h7] at this; exact this
  have q8 : by8 s8.b := by have := @rd_by (-9223372036854775808) 9223372036854775807 s7 q7; rw [show rd (-9223372036854775808) 9223372036854775807 s7 = (s8, wk) from h8] at this; exact this
  have q9 : by8 s9.b := by have := refK_by (f := rdWor) (fun s h => (rd_by (rd_by (rdT_by8 h)) : by8 (rdWor s).1.b)) (s := s8) q8; rw [h9] at this; exact this
  have q10 : by8 s10.b := by have := @rd_by (-9223372036854775808) 9223372036854775807 s9 q9; rw [show rd (-9223372036854775808) 9223372036854775807 s9 = (s10, sk) from h10] at this; exact this
  have q11 : by8 s11.b := by have := refK_by (f := rdSpo) (fun s h => (rd_by (rd_by h) : by8 (rdSpo s).1.b)) (s := s10) q10; rw [h11] at this; exact this
  have q12 : by8 s12.b := by have := @rd_by (-9223372036854775808) 9223372036854775807 s11 q11; rw [show rd (-9223372036854775808) 9223372036854775807 s11 = (s12, out) from h12] at this; exact this
  have q13 : by8 s13.b := by have := @rd_by (-9223372036854775808) 9223372036854775807 s12 q12; rw [show rd (-9223372036854775808) 9223372036854775807 s12 = (s13, r0) from h13] at this; exact this
  have q14 : by8 s14.b := by have := @rd_by (-9223372036854775808) 9223372036854775807 s13 q13; rw [show rd (-9223372036854775808) 9223372036854775807 s13 = (s14, r1) from h14] at this; exact this
  have q15 : by8 s15.b := by have := @rd_by (-9223372036854775808) 9223372036854775807 s14 q14; rw [show rd (-9223372036854775808) 9223372036854775807 s14 = (s15, r2) from h15] at this; exact this
  have q16 : by8 s16.b := by have := @rd_by (-9223372036854775808) 9223372036854775807 s15 q15; rw [show rd (-9223372036854775808) 9223372036854775807 s15 = (s16, r3) from h16] at this; exact this
  have q17 : by8 s17.b := by have := @rd_by (-9223372036854775808) 9223372036854775807 s16 q16; rw [show rd (-9223372036854775808) 9223372036854775807 s16 = (s17, r4) from h17] at this; exact this
  have q18 : by8 s18.b := by have := @rd_by (-9223372036854775808) 9223372036854775807 s17 q17; rw [show rd (-9223372036854775808) 9223372036854775807 s17 = (s18, r5) from h18] at this; exact this
  have q19 : by8 s19.b := by have := @rd_by 0 3 s18 q18; rw [show rd 0 3 s18 = (s19, fl) from h19] at this; exact this
  have b19 := (enc_r 3 (by omega)).B s18 q18 (by rw [h19]; exact he)
  rw [h19] at b19
  obtain ⟨e19, x19, p19⟩ := b19
  have b18 := enc_n.B s17 q17 (by rw [h18]; exact e19)
  rw [h18] at b18
  obtain ⟨e18, x18, p18⟩ := b18
  have b17 := enc_n.B s16 q16 (by rw [h17]; exact e18)
  rw [h17] at b17
  obtain ⟨e17, x17, p17⟩ := b17
  have b16 := enc_n.B s15 q15 (by rw [h16]; exact e17)
  rw [h16] at b16
  obtain ⟨e16, x16, p16⟩ := b16
  have b15 := enc_n.B s14 q14 (by rw [h15]; exact e16)
  rw [h15] at b15
  obtain ⟨e15, x15, p15⟩ := b15
  have b14 := enc_n.B s13 q13 (by rw [h14]; exact e15)
  rw [h14] at b14
  obtain ⟨e14, x14, p14⟩ := b14
  have b13 := enc_n.B s12 q12 (by rw [h13]; exact e14)
  rw [h13] at b13
  obtain ⟨e13, x13, p13⟩ := b13
  have b12 := enc_n.B s11 q11 (by rw [h12]; exact e13)
  rw [h12] at b12
  obtain ⟨e12, x12, p12⟩ := b12
  have b11 := (enc_l enc_spo).B s10 q10 (by rw [h11]; exact e12)
  rw [h11] at b11
  obtain ⟨e11, x11, p11⟩ := b11
  have b10 := enc_n.B s9 q9 (by rw [h10]; exact e11)
  rw [h10] at b10
  obtain ⟨e10, x10, p10⟩ := b10
  have b9 := (enc_l enc_wor).B s8 q8 (by rw [h9]; exact e10)
  rw [h9] at b9
  obtain ⟨e9, x9, p9⟩ := b9
  have b8 := enc_n.B s7 q7 (by rw [h8]; exact e9)
  rw [h8] at b8
  obtain ⟨e8, x8, p8⟩ := b8
  have b7 := (enc_l enc_n).B s6 q6 (by rw [h7]; exact e8)
  rw [h7] at b7
  obtain ⟨e7, x7, p7⟩ := b7
  have b6 := enc_n.B s5 q5 (by rw [h6]; exact e7)
  rw [h6] at b6
  obtain ⟨e6, x6, p6⟩ := b6
  have b5 := (enc_l enc_slo).B s4 q4 (by rw [h5]; exact e6)
  rw [h5] at b5
  obtain ⟨e5, x5, p5⟩ := b5
  have b4 := enc_n.B s3 q3 (by rw [h4]; exact e5)
  rw [h4] at b4
  obtain ⟨e4, x4, p4⟩ := b4
  have b3 := (enc_l enc_n).B s2 q2 (by rw [h3]; exact e4)
  rw [h3] at b3
  obtain ⟨e3, x3, p3⟩ := b3
  have b2 := enc_n.B s1 q1 (by rw [h2]; exact e3)
  rw [h2] at b2
  obtain ⟨e2, x2, p2⟩ := b2
  have b1 := (enc_l enc_run).B ⟨b, 0⟩ q0 (by rw [h1]; exact e2)
  rw [h1] at b1
  obtain ⟨e1, x1, p1⟩ := b1
  refine ⟨?_, ⟨p1, p2, p3, p4, p5, p6, p7, p8, p9, p10, p11, p12, p13, p14, p15, p16, p17, p18⟩⟩
  rw [encD_parts]
  simp only [List.append_assoc]
  have z : flg (decide (fl % 2 = 1)) (decide (2 ≤ fl)) = fl := flg_of p19
  show b = _
  simp only [Tr.d, z]
  simp only [List.append_assoc] at x1 x3 x5 x7 x9 x11
  rw [← x19, ← x18, ← x17, ← x16, ← x15, ← x14, ← x13, ← x12, ← x11, ← x10, ← x9, ← x8, ← x7, ← x6, ← x5, ← x4, ← x3, ← x2]
  exact x1
end Fz.D
set_option maxRecDepth 100000
namespace Fz.D
open Go
theorem someK_ref {α : Type} {f : Rs → Rs × α} : ∀ (k : Nat) (s : Rs) (acc : List α), (someK f k s acc).1 = (refK f k s acc).1 ∧ ((refK f k s acc).1.e = 0 → (someK f k s acc).2 = (refK f k s acc).2)
  | 0, s, acc => ⟨rfl, fun _ => rfl⟩
  | k + 1, s, acc => by
    unfold someK refK
    by_cases h : s.e ≠ 0
    · rw [if_pos h, if_pos h]
      exact ⟨rfl, fun h' => absurd h' h⟩
    · rw [if_neg h, if_neg h]
      exact someK_ref k _ _
theorem some_ref {α : Type} (f : Rs → Rs × α) (s : Rs) : (someF f s).1 = (refRd f s).1 ∧ ((refRd f s).1.e = 0 → (someF f s).2 = (refRd f s).2) := someK_ref _ _ _
theorem refK_e {α : Type} {f : Rs → Rs × α} (hf : ∀ s, (f s).1.e = 0 → s.e = 0) : ∀ (k : Nat) (s : Rs) (acc : List α), (refK f k s acc).1.e = 0 → s.e = 0
  | 0, s, acc, h => h
  | k + 1, s, acc, h => by
    unfold refK at h
    split at h
    · exact h
    · exact hf s (refK_e hf k _ _ h)
theorem rd_e {lo hi : Int} {s : Rs} (h : (rd lo hi s).1.e = 0) : s.e = 0 := by
  unfold rd at h
  split at h
  · exact h
  · omega
theorem rdN_e {s : Rs} (h : (rdN s).1.e = 0) : s.e = 0 := rd_e h
theorem rdT_e {m : Int} {s : Rs} (h : (rdT m s).1.e = 0) : s.e = 0 := by
  unfold rdT at h
  split at h
  · exact rd_e h
  · rename_i c
    exact rd_e (show (rd 0 m s).1.e = 0 by omega)
theorem refRd_e {α : Type} {f : Rs → Rs × α} (hf : ∀ s, (f s).1.e = 0 → s.e = 0) {s : Rs} (h : (refRd f s).1.e = 0) : s.e = 0 := rd_e (refK_e hf _ _ _ h)
theorem slo_e (s : Rs) (h : (rdSlo s).1.e = 0) : s.e = 0 := rdN_e (rd_e h)
theorem wor_e (s : Rs) (h : (rdWor s).1.e = 0) : s.e = 0 := rdT_e (rdN_e (rd_e h))
theorem spo_e (s : Rs) (h : (rdSpo s).1.e = 0) : s.e = 0 := rdN_e (rdN_e h)
theorem tk_tr {b : List Int} (t : Tk b) (u : Tr b) : t.s19 = u.s19 ∧ (u.s19.e = 0 → t.d = u.d) := by
  obtain ⟨s1, mem, s2, dk, s3, dt, s4, rk, s5, rt, s6, ck, s7, ct, s8, wk, s9, wt, s10, sk, s11, st, s12, out, s13, r0, s14, r1, s15, r2, s16, r3, s17, r4, s18, r5, s19, fl, h1, h2, h3, h4, h5, h6, h7, h8, h9, h10, h11, h12, h13, h14, h15, h16, h17, h18, h19⟩ := t
  obtain ⟨S1, V1, S2, V2, S3, V3, S4, V4, S5, V5, S6, V6, S7, V7, S8, V8, S9, V9, S10, V10, S11, V11, S12, V12, S13, V13, S14, V14, S15, V15, S16, V16, S17, V17, S18, V18, S19, V19, K1, K2, K3, K4, K5, K6, K7, K8, K9, K10, K11, K12, K13, K14, K15, K16, K17, K18, K19⟩ := u
  have m1 := some_ref rdRun ⟨b, 0⟩
  rw [h1, K1] at m1
  obtain ⟨i1, j1⟩ := m1
  simp only at i1 j1
  subst i1
  obtain ⟨i2, j2⟩ := Prod.mk.inj (h2.symm.trans K2)
  subst i2
  subst j2
  have m3 := some_ref rdN s2
  rw [h3, K3] at m3
  obtain ⟨i3, j3⟩ := m3
  simp only at i3 j3
  subst i3
  obtain ⟨i4, j4⟩ := Prod.mk.inj (h4.symm.trans K4)
  subst i4
  subst j4
  have m5 := some_ref rdSlo s4
  rw [h5, K5] at m5
  obtain ⟨i5, j5⟩ := m5
  simp only at i5 j5
  subst i5
  obtain ⟨i6, j6⟩ := Prod.mk.inj (h6.symm.trans K6)
  subst i6
  subst j6
  have m7 := some_ref rdN s6
  rw [h7, K7] at m7
  obtain ⟨i7, j7⟩ := m7
  simp only at i7 j7
  subst i7
  obtain ⟨i8, j8⟩ := Prod.mk.inj (h8.symm.trans K8)
  subst i8
  subst j8
  have m9 := some_ref rdWor s8
  rw [h9, K9] at m9
  obtain ⟨i9, j9⟩ := m9
  simp only at i9 j9
  subst i9
  obtain ⟨i10, j10⟩ := Prod.mk.inj (h10.symm.trans K10)
  subst i10
  subst j10
  have m11 := some_ref rdSpo s10
  rw [h11, K11] at m11
  obtain ⟨i11, j11⟩ := m11
  simp only at i11 j11
  subst i11
  obtain ⟨i12, j12⟩ := Prod.mk.inj (h12.symm.trans K12)
  subst i12
  subst j12
  obtain ⟨i13, j13⟩ := Prod.mk.inj (h13.symm.trans K13)
  subst i13
  subst j13
  obtain ⟨i14, j14⟩ := Prod.mk.inj (h14.symm.trans K14)
  subst i14
  subst j14
  obtain ⟨i15, j15⟩ := Prod.mk.inj (h15.symm.trans K15)
  subst i15
  subst j15
  obtain ⟨i16, j16⟩ := Prod.mk.inj (h16.symm.trans K16)
  subst i16
  subst j16
  obtain ⟨i17, j17⟩ := Prod.mk.inj (h17.symm.trans K17)
  subst i17
  subst j17
  obtain ⟨i18, j18⟩ := Prod.mk.inj (h18.symm.trans K18)
  subst i18
  subst j18
  obtain ⟨i19, j19⟩ := Prod.mk.inj (h19.symm.trans K19)
  subst i19
  subst j19
  refine ⟨rfl, fun he => ?_⟩
  have he : s19.e = 0 := he
  have E18 : s18.e = 0 := rd_e (lo := 0) (hi := 3) (by rw [h19]; exact he)
  have E17 : s17.e = 0 := rdN_e (by rw [h18]; exact E18)
  have E16 : s16.e = 0 := rdN_e (by rw [h17]; exact E17)
  have E15 : s15.e = 0 := rdN_e (by rw [h16]; exact E16)
  have E14 : s14.e = 0 := rdN_e (by rw [h15]; exact E15)
  have E13 : s13.e = 0 := rdN_e (by rw [h14]; exact E14)
  have E12 : s12.e = 0 := rdN_e (by rw [h13]; exact E13)
  have E11 : s11.e = 0 := rdN_e (by rw [h12]; exact E12)
  have E10 : s10.e = 0 := refRd_e spo_e (by rw [K11]; exact E11)
  have E9 : s9.e = 0 := rdN_e (by rw [h10]; exact E10)
  have E8 : s8.e = 0 := refRd_e wor_e (by rw [K9]; exact E9)
  have E7 : s7.e = 0 := rdN_e (by rw [h8]; exact E8)
  have E6 : s6.e = 0 := refRd_e (fun _ h => rdN_e h) (by rw [K7]; exact E7)
  have E5 : s5.e = 0 := rdN_e (by rw [h6]; exact E6)
  have E4 : s4.e = 0 := refRd_e slo_e (by rw [K5]; exact E5)
  have E3 : s3.e = 0 := rdN_e (by rw [h4]; exact E4)
  have E2 : s2.e = 0 := refRd_e (fun _ h => rdN_e h) (by rw [K3]; exact E3)
  have E1 : s1.e = 0 := rdN_e (by rw [h2]; exact E2)
  have q1 := j1 E1
  subst q1
  have q3 := j3 E3
  subst q3
  have q5 := j5 E5
  subst q5
  have q7 := j7 E7
  subst q7
  have q9 := j9 E9
  subst q9
  have q11 := j11 E11
  subst q11
  rfl
end Fz.D
set_option maxRecDepth 100000
namespace Fz.D
open Go
end Fz.D
set_option maxRecDepth 100000
namespace Fz.D
open Go
theorem encL_le {α : Type} {f : α → List Int} {c : Nat} : ∀ (l : List α), (∀ a ∈ l, (f a).length ≤ c) → (encL f l).length ≤ l.length * c
  | [], _ => by simp [encL, cat]
  | a :: l, h => by
    have := encL_le l fun a ha => h a (by simp [ha])
    have h1 := h a (by simp)
    rw [encL_cons, List.length_append, List.length_cons, Nat.add_mul]; omega
theorem wVal_of {v : List V} {K : List V → Prop} (h : K v) : wVal v K := by unfold wVal; exact h
theorem len_i64 {n : Nat} (h : n ≤ 1000000) : i64 (n : Int) := by unfold i64; omega
end Fz.D
set_option maxRecDepth 100000
namespace Fz.D
open Go
theorem shr_tk {α : Type} {q : α → α → Bool} (hq : ∀ a b, q a b = true → a = b) : ∀ a b : List α, b.take (shr q a b) ++ a.drop (shr q a b) = a
  | a :: x, b :: y => by
    have ih := shr_tk hq x y
    unfold shr
    by_cases h : q a b = true
    · rw [if_pos h, List.take_succ_cons, List.drop_succ_cons, List.cons_append, ih, hq a b h]
    · rw [if_neg h]; simp
  | [], b => by simp [shr]
  | _ :: _, [] => by simp [shr]
theorem in_eq (a b : Int) (h : inQ a b = true) : a = b := by unfold inQ at h; simpa using h
theorem slo_eq (a b : Slo) (h : sloQ a b = true) : a = b := by
  obtain ⟨a1, a2⟩ := a
  obtain ⟨b1, b2⟩ := b
  unfold sloQ at h
  simpa using h
theorem wor_eq (a b : Wor) (h : worQ a b = true) : a = b := by
  obtain ⟨a1, a2, a3, a4⟩ := a
  obtain ⟨b1, b2, b3, b4⟩ := b
  unfold worQ at h
  simpa using h
theorem spo_eq (a b : Spo) (h : spoQ a b = true) : a = b := by
  obtain ⟨a1, a2⟩ := a
  obtain ⟨b1, b2⟩ := b
  unfold spoQ at h
  simpa using h
theorem patch_rn {a b : List Int} {s i : Nat} (hs : s ≤ i) (hi : i ≤ a.length) : patch (a.take s ++ b.drop s) (rn a s i) = a.take i ++ b.drop i := by
  have h1 : ((a.drop s).take (i - s)).length = i - s := by simp; omega
  have h2 : (a.take s).length = s := by simp; omega
  unfold patch rn
  simp only [Int.toNat_natCast]
  rw [h1, List.take_append_of_le_length (by omega), List.take_take, Nat.min_self, List.drop_append, List.drop_eq_nil_of_le (show (a.take s).length ≤ s + (i - s) by omega), h2, List.drop_drop, List.nil_append, show s + (s + (i - s) - s) = i from by omega]
  congr 1
  rw [← List.take_append_drop s (a.take i), List.take_take, Nat.min_eq_left hs, List.drop_take]
theorem runs_G {a b : List Int} (hl : a.length = b.length) : ∀ i, i ≤ a.length → (G a b i).1.foldl patch b = a.take (G a b i).2 ++ b.drop (G a b i).2
  | 0, _ => by simp [G]
  | i + 1, hi => by
    have ih := runs_G hl i (by omega)
    have hle := G_le a b i
    by_cases h : gt a i = gt b i
    · have e : (G a b (i + 1)) = (fin a (G a b i) i, i + 1) := by rw [show G a b (i + 1) = if gt a i = gt b i then (fin a (G a b i) i, i + 1) else G a b i from rfl, if_pos h]
      rw [e]
      simp only
      have f : (fin a (G a b i) i).foldl patch b = a.take i ++ b.drop i := by
        unfold fin
        split
        · rw [List.foldl_append, ih, List.foldl_cons, List.foldl_nil, patch_rn hle (by omega)]
        · rw [ih, show (G a b i).2 = i from by omega]
      rw [f, List.take_succ_eq_append_getElem (by omega), List.drop_eq_getElem_cons (show i < b.length by omega), List.append_assoc, List.singleton_append]
      rw [show a[i] = b[i] from by rw [gt_at (by omega : i < a.length), gt_at (by omega : i < b.length), h]]
    · have e : (G a b (i + 1)) = G a b i := by rw [show G a b (i + 1) = if gt a i = gt b i then (fin a (G a b i) i, i + 1) else G a b i from rfl, if_neg h]
      rw [e]; exact ih
theorem runs_back {a b : List Int} (hl : a.length = b.length) : (runsF a b).foldl patch b = a := by
  have ih := runs_G hl a.length (Nat.le_refl _)
  have hle := G_le a b a.length
  unfold runsF fin
  split
  · rw [List.foldl_append, ih, List.foldl_cons, List.foldl_nil, patch_rn hle (Nat.le_refl _), List.take_length, List.drop_eq_nil_of_le (by omega), List.append_nil]
  · rw [ih, show (G a b a.length).2 = a.length from by omega, List.take_length, List.drop_eq_nil_of_le (by omega), List.append_nil]
theorem rn_run {a : List Int} {s i : Nat} (hs : s ≤ a.length) : runOk a.length (rn a s i) = true := by
  unfold runOk wi rn
  simp
  omega
theorem fin_run {a b : List Int} : ∀ i, i ≤ a.length → (fin a (G a b i) i).all (runOk a.length) = true
  | 0, _ => by simp [fin, G]
  | i + 1, hi => by
    have ih := fin_run (a := a) (b := b) i (by omega)
    have hle := G_le a b i
    by_cases h : gt a i = gt b i
    · rw [fin_same h]; exact ih
    · rw [fin_more h, List.all_append, List.all_cons, List.all_nil, Bool.and_true, rn_run (by omega), Bool.and_true]
      unfold fin at ih
      split at ih
      · rw [List.all_append, Bool.and_eq_true] at ih; exact ih.1
      · exact ih
theorem near_parts {f t : St} (h : nearB f t = true) : f.mem.length = t.mem.length ∧ f.out.length ≤ t.out.length ∧ bstr (t.out.take f.out.length) = bstr f.out := by
  unfold nearB at h
  simp only [Bool.and_eq_true, decide_eq_true_eq] at h
  exact h
theorem diff_fits {f t : St} (h : nearB f t = true) : fitsB t (diffD f t) = true := by
  obtain ⟨h1, h2, h3⟩ := near_parts h
  have l1 := (shr_le (q := inQ) f.data t.data).2
  have l2 := (shr_le (q := sloQ) f.ret t.ret).2
  have l3 := (shr_le (q := inQ) f.ctl t.ctl).2
  have l4 := (shr_le (q := worQ) f.words t.words).2
  have l5 := (shr_le (q := spoQ) f.spots t.spots).2
  have r : (runsF f.mem t.mem).all (runOk t.mem.length) = true := by rw [← h1]; exact fin_run _ (Nat.le_refl _)
  unfold fitsB restOk
  show ((runsF f.mem t.mem).all (runOk t.mem.length) && _) = true
  rw [r]
  unfold wi diffD
  simp only [Bool.and_eq_true, decide_eq_true_eq, Bool.true_and]
  omega
theorem diff_back {f t : St} (hf : by8 f.out) (ht : by8 t.out) (h : nearB f t = true) : backS t (diffD f t) = f := by
  obtain ⟨h1, h2, h3⟩ := near_parts h
  have e : t.out.take f.out.length = f.out := bstr_inj (fun x hx => ht x (List.mem_of_mem_take hx)) hf h3
  obtain ⟨mem, data, ret, ctl, words, spots, out, r0, r1, r2, r3, r4, r5, c, hh⟩ := f
  unfold backS diffD
  simp only [Int.toNat_natCast]
  simp only at h1 h2 e
  rw [runs_back h1, shr_tk in_eq, shr_tk slo_eq, shr_tk in_eq, shr_tk wor_eq, shr_tk spo_eq]
  rw [show t.out.length - ((t.out.length : Int) - (out.length : Int)).toNat = out.length from by omega, e]
theorem diff_tk {f t : St} (tf : StTy f) (hf : fewB f = true) (ht : fewB t = true) : TkOk (diffD f t) := by
  have ok := diff_ok tf hf ht
  have o8 := diff_by (t := t) tf
  have r := fun n hn => ok.regs n hn
  obtain ⟨o1, o2, o3, o4, o5, o6, o7, o8', o9, p1, p2, p3, p4, p5, p6, p7, p8, p9, _⟩ := ok
  refine ⟨⟨fun r hr => ⟨(o1 r hr).1, by have := (o1 r hr).2; omega, o8 r hr⟩, by omega⟩, o3, ⟨o4, by omega⟩, o6, ⟨o7, by omega⟩, o9, ⟨p1, by omega⟩, p3, ⟨fun w hw => ⟨(p4 w hw).1, by have := (p4 w hw).2; omega⟩, by omega⟩, p6, ⟨p7, by omega⟩, p9, ?_, ?_, ?_, ?_, ?_, ?_⟩ <;> exact r _ (by simp)
theorem diff_enc {f t : St} (tf : StTy f) (hf : fewB f = true) (ht : fewB t = true) : (encD (diffD f t)).length ≤ 1000000 := by
  have ok := diff_ok tf hf ht
  obtain ⟨f1, f2, f3, f4, f5, f6, f7, f8⟩ := few_len hf
  have ll : (diffD f t).mem.length ≤ f.mem.length := fin_len _ _ _
  have lr : ∀ r ∈ (diffD f t).mem, r.b.length ≤ 600 := fun r hr => by have := (runs_ok tf.mem r hr).2.1; omega
  have w1 : (diffD f t).dt.length ≤ 40 := by show (f.data.drop _).length ≤ _; simp; omega
  have w2 : (diffD f t).rt.length ≤ 40 := by show (f.ret.drop _).length ≤ _; simp; omega
  have w3 : (diffD f t).ct.length ≤ 200 := by show (f.ctl.drop _).length ≤ _; simp; omega
  have w4 : (diffD f t).wt.length ≤ 40 := by show (f.words.drop _).length ≤ _; simp; omega
  have w5 : (diffD f t).st.length ≤ 100 := by show (f.spots.drop _).length ≤ _; simp; omega
  have lw : ∀ w ∈ (diffD f t).wt, w.name.size ≤ 60 := fun w hw => f8 w (List.mem_of_mem_drop hw)
  generalize diffD f t = d at *
  have e := congrArg List.length (encD_parts d)
  simp only [List.length_append] at e
  have t8 : ∀ b : List Int, b.length ≤ 1000 → (txt b).length ≤ 65 + b.length := fun b hb => by
    have := encN_len (len_i64 (n := b.length) (by omega)); unfold txt; simp; omega
  have m1 := encL_le (f := encRun) (c := 730) d.mem fun r hr => by
    have a1 := encN_len (ok.mem r hr).1
    have a2 := t8 r.b (by have := lr r hr; omega)
    have := lr r hr
    unfold encRun; simp; omega
  have m2 := encL_le (f := encN) (c := 65) d.dt fun r hr => encN_len (ok.dt r hr)
  have e2 : ∀ a b : Int, i64 a → i64 b → (encs [a, b]).length ≤ 130 := fun a b ha hb => by
    have := encN_len ha; have := encN_len hb
    simp [encs, cat]; omega
  have m3 := encL_le (f := encSlo) (c := 130) d.rt fun r hr => e2 _ _ (ok.rt r hr) (by unfold i64; split <;> omega)
  have m4 := encL_le (f := encN) (c := 65) d.ct fun r hr => encN_len (ok.ct r hr)
  have m5 := encL_le (f := encWor) (c := 300) d.wt fun r hr => by
    have a1 := e2 r.code (flg r.now r.hid) (ok.wt r hr).1 (by unfold flg i64; cases r.now <;> cases r.hid <;> simp)
    have a2 := t8 (nmB r.name) (by rw [nmB_len]; have := lw r hr; omega)
    have := nmB_len r.name
    have := lw r hr
    unfold encWor; simp; omega
  have m6 := encL_le (f := encSpo) (c := 130) d.st fun r hr => e2 _ _ (ok.st r hr).1 (ok.st r hr).2
  have n1 := encN_len (len_i64 (n := d.mem.length) (by omega))
  have n2 := encN_len (len_i64 (n := d.dt.length) (by omega))
  have n3 := encN_len (len_i64 (n := d.rt.length) (by omega))
  have n4 := encN_len (len_i64 (n := d.ct.length) (by omega))
  have n5 := encN_len (len_i64 (n := d.wt.length) (by omega))
  have n6 := encN_len (len_i64 (n := d.st.length) (by omega))
  have k1 := encN_len ok.dk
  have k2 := encN_len ok.rk
  have k3 := encN_len ok.ck
  have k4 := encN_len ok.wk
  have k5 := encN_len ok.sk
  have k6 := encN_len ok.out
  have rg := fun n hn => encN_len (ok.regs n hn)
  have r0 := rg d.r0 (by simp)
  have r1 := rg d.r1 (by simp)
  have r2 := rg d.r2 (by simp)
  have r3 := rg d.r3 (by simp)
  have r4 := rg d.r4 (by simp)
  have r5 := rg d.r5 (by simp)
  have fl : (encN (flg d.comp d.halt)).length ≤ 65 := encN_len (by unfold flg i64; cases d.comp <;> cases d.halt <;> simp)
  omega
end Fz.D
set_option maxRecDepth 100000
namespace Fz.D
open Go
theorem equal_s {a b : List Int} (ha : by8 a) (hb : by8 b) : Comes p 12 [byV a, byV b] (.bool (decide (a = b))) := by
  have e : decide (bstr a = bstr b) = decide (a = b) := decide_eq_decide.2 ⟨bstr_inj ha hb, fun h => by rw [h]⟩
  have e1 := all8 ha
  have e2 := all8 hb
  refine Comes_of w12 rfl rfl k12 ?_ ?_ ?_ ?_
  · simp
  · simp
  · simp
  · rw [← e]
    simp -dsimp [w12, wFix_by, isInl, byV, e1, e2, bstr_fold]
def npg (b : List Int) : Nat := (b.length + 63) / 64
def pg (b : List Int) (n : Nat) : List Int := (b.drop (64 * n)).take 64
def rest (s : St) : St := { s with mem := [], out := [] }
theorem rest_s (s : St) : Comes p 19 [stV s] (stV (rest s)) := by
  refine Comes_of w19 rfl rfl k19 ?_ ?_ ?_ ?_
  · simp
  · simp
  · simp
  · simp -dsimp [w19, wFix_by, isInl, rest]
    rfl
end Fz.D
