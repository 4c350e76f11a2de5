import Derived.Test.YtnngbniomonabaaGreatDoorFzSn4M5
set_option linter.all false
set_option linter.unusedVariables false
set_option linter.unusedSimpArgs false
set_option linter.unnecessarySimpa false
set_option maxRecDepth 100000
namespace Fz.D
open Go
theorem suf_rdN {B : List Int} {s : Rs} (h : Suf B s) : Suf B (rdN s).1 := suf_rd h _ _
theorem suf_rdT {B : List Int} {s : Rs} (h : Suf B s) (m : Int) : Suf B (rdT m s).1 := by
  have h1 := suf_rd h 0 m
  unfold rdT
  split
  · exact h1
  · split
    · exact suf_drop h1 0 _
    · exact suf_drop h1 _ _
theorem readText_s {B : List Int} {s : Rs} {m : Int} (h : Suf B s) : Comes p 39 [refV B s, .int .i64 m] (.tuple [refV B (rdT m s).1, byV (rdT m s).2]) := by
  have c := read_s (lo := 0) (hi := m) h
  have h1 := suf_rd h 0 m
  have hok := @rd_ok 0 m s
  simp only [refV, refC] at c
  have hle := h1.le
  have hln := h1.len
  refine Comes_of w39 rfl rfl k39 ?_ ?_ ?_ ?_
  · simp
  · simp
  · simp
  · by_cases he : (rd 0 m s).1.e = 0
    · have hok := hok he
      have wL : IntKind.i64.wrap ((B.length : Int) - ((B.length - (rd 0 m s).1.b.length : Nat) : Int)) = ((rd 0 m s).1.b.length : Int) := by rw [Fz.w64 (by omega) (by omega)]; omega
      by_cases hn : ((rd 0 m s).1.b.length : Int) < (rd 0 m s).2
      · have hT : rdT m s = (⟨(rd 0 m s).1.b, 3⟩, []) := by unfold rdT; rw [if_neg (by rw [he]; simp), if_pos hn]
        rw [hT]
        simp -dsimp [w39, refC, call_by c, he, hn, wL, wFix_by, isInl]
        exact ⟨rfl, rfl⟩
      · have hT := rdT_eq m s he hn
        rw [hT]
        obtain ⟨q, hq⟩ : ∃ q : Nat, q = B.length - (rd 0 m s).1.b.length + (rd 0 m s).2.toNat := ⟨_, rfl⟩
        have wA : IntKind.i64.wrap (((B.length - (rd 0 m s).1.b.length : Nat) : Int) + (rd 0 m s).2) = (q : Int) := by rw [Fz.w64 (by omega) (by omega)]; omega
        have hdr : List.drop (B.length - (rd 0 m s).1.b.length) B = (rd 0 m s).1.b := h1.eq.symm
        have ht2 : q - (B.length - (rd 0 m s).1.b.length) = (rd 0 m s).2.toNat := by omega
        simp -dsimp [w39, -List.map_drop, drop_map, -List.map_take, tk_map, refC, call_by c, he, hn, wL, wA, hdr, ht2, wFix_by, isInl]
        refine ⟨⟨by omega, by omega⟩, ?_, rfl⟩
        simp only [refV, refC, List.length_drop]
        rw [show B.length - ((rd 0 m s).1.b.length - (rd 0 m s).2.toNat) = q from by omega]
    · have hT : rdT m s = ((rd 0 m s).1, []) := by unfold rdT; rw [if_pos he]
      rw [hT]
      simp -dsimp [w39, refC, call_by c, he, wFix_by, isInl]
      exact ⟨rfl, rfl⟩
theorem refEnd_s {B : List Int} {s : Rs} (h : Suf B s) : Comes p 40 [refV B s] (.int .i64 (endR s)) := by
  have hle := h.le
  refine Comes_of w40 rfl rfl k40 ?_ ?_ ?_ ?_
  · simp
  · simp
  · simp
  · by_cases he : s.e = 0
    · by_cases hb : 0 < s.b.length
      · have hE : endR s = 2 := by unfold endR; rw [if_pos ⟨he, hb⟩]
        have hlt : ((B.length - s.b.length : Nat) : Int) < B.length := by omega
        rw [hE]
        simp -dsimp [w40, refC, he, hlt, wFix_by, isInl]
      · have hE : endR s = s.e := by unfold endR; rw [if_neg (fun h => hb h.2)]
        have hlt : ¬ ((B.length - s.b.length : Nat) : Int) < B.length := by omega
        rw [hE]
        simp -dsimp [w40, refC, he, hlt, wFix_by, isInl]
    · have hE : endR s = s.e := by unfold endR; rw [if_neg (fun h => he h.1)]
      rw [hE]
      simp -dsimp [w40, refC, he, wFix_by, isInl]
theorem any64_s {B : List Int} {s : Rs} (h : Suf B s) : Comes p 100 [refV B s] (.tuple [refV B (rdN s).1, .int .i64 (rdN s).2]) := by
  have c := read_s (lo := -9223372036854775808) (hi := 9223372036854775807) h
  simp only [refV, refC] at c
  refine Comes_of w100 rfl rfl k100 ?_ ?_ ?_ ?_
  · simp
  · simp
  · simp
  · simp -dsimp [w100, refC, call_by c, wFix_by, isInl]
    exact ⟨rfl, rfl⟩
theorem many_s {B : List Int} {s : Rs} (h : Suf B s) : Comes p 116 [refV B s] (.tuple [refV B (rd 0 65536 (rdN s).1).1, .int .i64 (rdN s).2, .int .i64 (rd 0 65536 (rdN s).1).2]) := by
  have c := read_s (lo := -9223372036854775808) (hi := 9223372036854775807) h
  have c2 := read_s (lo := 0) (hi := 65536) (suf_rdN h)
  unfold rdN at c2
  simp only [refV, refC] at c c2
  refine Comes_of w116 rfl rfl k116 ?_ ?_ ?_ ?_
  · simp
  · simp
  · simp
  · simp -dsimp [w116, refC, call_by c, call_by c2, wFix_by, isInl]
    exact ⟨rfl, rfl, rfl⟩
def refK {α : Type} (f : Rs → Rs × α) : Nat → Rs → List α → Rs × List α
  | 0, s, acc => (s, acc)
  | k + 1, s, acc => if s.e ≠ 0 then (s, acc) else refK f k (f s).1 (acc ++ [(f s).2])
def refRd {α : Type} (f : Rs → Rs × α) (s : Rs) : Rs × List α := refK f (rd 0 65536 s).2.toNat (rd 0 65536 s).1 []
theorem rd3 (s : Rs) : 0 ≤ (rd 0 3 s).2 ∧ (rd 0 3 s).2 ≤ 3 := by
  refine ⟨rd_nn _ _, ?_⟩
  by_cases h : (rd 0 3 s).1.e = 0
  · exact (rd_ok h).2
  · rw [rd_err h]; omega
theorem ref_run_s {B : List Int} {s : Rs} (h : Suf B s) : Comes p 95 [refV B s] (.tuple [refV B (refRd rdRun s).1, runsV (refRd rdRun s).2]) := by
  have c0 := read_s (lo := 0) (hi := 65536) h
  have htop := rd_top s
  have hs0 := suf_rd h 0 65536
  have hres : refRd rdRun s = refK rdRun (rd 0 65536 s).2.toNat (rd 0 65536 s).1 [] := rfl
  rw [hres]
  simp only [refV, refC] at c0
  refine Comes_of w95 rfl rfl k95 ?_ ?_ ?_ ?_
  · simp
  · simp
  · simp
  · simp -dsimp [w95, refC, call_by c0, wFix_by, isInl]
    obtain ⟨N, hN⟩ : ∃ N : Nat, (rd 0 65536 s).2 = N := ⟨(rd 0 65536 s).2.toNat, by omega⟩
    rw [hN] at htop ⊢
    rw [Int.toNat_natCast]
    generalize (rd 0 65536 s).1 = s0 at *
    
    refine xL_by (by kernel_rfl) (fun k e H => ∃ (i : Nat) (v : V) (T : List Ob) (s1 : Rs) (acc : List Rn), i ≤ N ∧ k = N - i ∧ e 1 = .ptr 0 0 ∧ e 2 = .ptr 1 0 ∧ e 4 = .ptr 2 0 ∧ e 5 = .int .i64 N ∧ e 7 = .int .i64 i ∧ e 6 = v ∧ H = .live [byV B, .int .i64 (B.length - s.b.length : Nat), .int .i64 s.e] :: .live [.list [] true, .int .i64 0, .int .i64 0] :: .live [byV B, .int .i64 (B.length - s1.b.length : Nat), .int .i64 s1.e] :: T ∧ Suf B s1 ∧ Acc 2 3 T v (acc.map (runV)) ∧ acc.length ≤ i ∧ refK rdRun N s0 [] = refK rdRun (N - i) s1 acc) N ?_ ?_
    · refine ⟨0, .list [] true, [], s0, [], by omega, rfl, ?_⟩
      simp -dsimp
      exact ⟨hs0, acc_nil (by decide)⟩
    · rintro k e H ⟨i, v, T, s1, acc, hi, hk, h1, h2, h4, hn, hti, h6, rfl, hs, hac, hal, hsm⟩
      have w2 : IntKind.i64.wrap ((i : Int) + 1) = ((i + 1 : Nat) : Int) := by rw [Fz.w64 (by omega) (by omega)]; omega
      obtain ⟨xv, yv, sv⟩ := acc_val hac
      by_cases c1 : i < N
      · have hsu : N - i = (N - (i + 1)) + 1 := by omega
        by_cases c2 : s1.e = 0
        · have k1 := any64_s hs
          have k2 := readText_s (m := 65536) (suf_rdN hs)
          simp only [refV, refC] at k1 k2
          rw [c2] at k1
          simp -dsimp [h1, h2, h4, hn, hti, h6, c1, c2, call_by k1, call_by k2]
          refine app_acc 3 (m := [(runV) (rdRun s1).2]) (l := acc.map (runV)) (v := v) (by simpa using acc_ext hac _) (by simp) rfl rfl (by simp) (by simp) (by simp [capOk]; omega) fun v' J' hac' => ?_
          obtain ⟨xw, yw, sw⟩ := acc_val hac'
          simp -dsimp [h1, h2, h4, hn, hti, h6, w2, xw, yw, sw]
          refine ⟨N - (i + 1), by omega, i + 1, v', J', (rdRun s1).1, acc ++ [(rdRun s1).2], by omega, rfl, ?_⟩
          simp -dsimp [h1, h2, h4, hn, h6]
          have hsf : Suf B (rdRun s1).1 := suf_rdT (suf_rdN hs) _
          have hrk : refK rdRun N s0 [] = refK rdRun (N - (i + 1)) (rdRun s1).1 (acc ++ [(rdRun s1).2]) := by rw [hsm, hsu, refK, if_neg (by rw [c2]; simp)]
          first
          | exact ⟨⟨rfl, rfl⟩, hsf, by simpa using hac', by omega, hrk⟩
          | exact ⟨hsf, by simpa using hac', by omega, hrk⟩
        · rw [hsm, hsu, refK, if_pos c2]
          simp -dsimp [h1, h2, h4, hn, hti, h6, c1, c2, wFix_by, isInl]
          refine frz_acc 3 (k := 10) hac (by simp) (.inr ⟨by decide, fun x hx => by obtain ⟨a, _, rfl⟩ := List.mem_map.1 hx; exact ⟨_, rfl⟩⟩) fun H1 _ _ => ?_
          simp -dsimp
          first | rfl | exact ⟨rfl, rfl⟩
      · have hii : i = N := by omega
        subst hii
        rw [hsm, Nat.sub_self, refK]
        simp -dsimp [h1, h2, h4, hn, hti, h6, wFix_by, isInl]
        refine frz_acc 3 (k := 10) hac (by simp) (.inr ⟨by decide, fun x hx => by obtain ⟨a, _, rfl⟩ := List.mem_map.1 hx; exact ⟨_, rfl⟩⟩) fun H1 _ _ => ?_
        simp -dsimp
        first | rfl | exact ⟨rfl, rfl⟩
theorem ref_int_s {B : List Int} {s : Rs} (h : Suf B s) : Comes p 96 [refV B s] (.tuple [refV B (refRd rdN (rdN s).1).1, .agg [.int .i64 (rdN s).2, inV (refRd rdN (rdN s).1).2]]) := by
  have c0 := many_s h
  have htop := rd_top (rdN s).1
  have hs0 := suf_rd (suf_rdN h) 0 65536
  have hres : refRd rdN (rdN s).1 = refK rdN (rd 0 65536 (rdN s).1).2.toNat (rd 0 65536 (rdN s).1).1 [] := rfl
  rw [hres]
  simp only [refV, refC] at c0
  refine Comes_of w96 rfl rfl k96 ?_ ?_ ?_ ?_
  · simp
  · simp
  · simp
  · simp -dsimp [w96, refC, call_by c0, wFix_by, isInl]
    obtain ⟨N, hN⟩ : ∃ N : Nat, (rd 0 65536 (rdN s).1).2 = N := ⟨(rd 0 65536 (rdN s).1).2.toNat, by omega⟩
    rw [hN] at htop ⊢
    rw [Int.toNat_natCast]
    generalize (rd 0 65536 (rdN s).1).1 = s0 at *
    generalize (rdN s).2 = kp at *
    refine xL_by (by kernel_rfl) (fun k e H => ∃ (i : Nat) (v : V) (T : List Ob) (s1 : Rs) (acc : List Int), i ≤ N ∧ k = N - i ∧ e 1 = .ptr 0 0 ∧ e 2 = .ptr 1 0 ∧ e 3 = .ptr 2 0 ∧ e 4 = .ptr 3 0 ∧ e 6 = .int .i64 N ∧ e 8 = .int .i64 i ∧ e 7 = .ptr 4 0 ∧ H = .live [byV B, .int .i64 (B.length - s.b.length : Nat), .int .i64 s.e] :: .live [.list [] true, .int .i64 0, .int .i64 0] :: .live [.int .i64 0, .list [] true] :: .live [byV B, .int .i64 (B.length - s1.b.length : Nat), .int .i64 s1.e] :: .live [.int .i64 kp, v] :: T ∧ Suf B s1 ∧ Acc 1 5 T v (acc.map (V.int .i64)) ∧ acc.length ≤ i ∧ refK rdN N s0 [] = refK rdN (N - i) s1 acc) N ?_ ?_
    · refine ⟨0, .list [] true, [], s0, [], by omega, rfl, ?_⟩
      simp -dsimp
      exact ⟨hs0, acc_nil (by decide)⟩
    · rintro k e H ⟨i, v, T, s1, acc, hi, hk, h1, h2, h3, h4, hn, hti, h7, rfl, hs, hac, hal, hsm⟩
      have w2 : IntKind.i64.wrap ((i : Int) + 1) = ((i + 1 : Nat) : Int) := by rw [Fz.w64 (by omega) (by omega)]; omega
      obtain ⟨xv, yv, sv⟩ := acc_val hac
      by_cases c1 : i < N
      · have hsu : N - i = (N - (i + 1)) + 1 := by omega
        by_cases c2 : s1.e = 0
        · have k1 := any64_s hs
          simp only [refV, refC] at k1
          rw [c2] at k1
          simp -dsimp [h1, h2, h3, h4, hn, hti, h7, c1, c2, call_by k1]
          refine app_acc 5 (m := [(V.int .i64) (rdN s1).2]) (l := acc.map (V.int .i64)) (v := v) (by simpa using acc_ext hac _) (by simp) rfl rfl (by simp) (by simp) (by simp [capOk]; omega) fun v' J' hac' => ?_
          obtain ⟨xw, yw, sw⟩ := acc_val hac'
          simp -dsimp [h1, h2, h3, h4, hn, hti, h7, w2, xw, yw, sw]
          refine ⟨N - (i + 1), by omega, i + 1, v', J', (rdN s1).1, acc ++ [(rdN s1).2], by omega, rfl, ?_⟩
          simp -dsimp [h1, h2, h3, h4, hn, h7]
          have hsf : Suf B (rdN s1).1 := suf_rdN hs
          have hrk : refK rdN N s0 [] = refK rdN (N - (i + 1)) (rdN s1).1 (acc ++ [(rdN s1).2]) := by rw [hsm, hsu, refK, if_neg (by rw [c2]; simp)]
          first
          | exact ⟨⟨rfl, rfl⟩, hsf, by simpa using hac', by omega, hrk⟩
          | exact ⟨hsf, by simpa using hac', by omega, hrk⟩
        · rw [hsm, hsu, refK, if_pos c2]
          simp -dsimp [h1, h2, h3, h4, hn, hti, h7, c1, c2, wFix_by, isInl]
          refine WDraw_see (R := [.dead, .dead, .dead, .live [byV B, .int .i64 (B.length - s1.b.length : Nat), .int .i64 s1.e], .live [.int .i64 kp, v]]) (by kernel_rfl) (by simp) ?_
          simp -dsimp [h1, h2, h3, h4, hn, hti, h7, xv, yv, sv, wFix_by, isInl]
          refine frz_acc 5 (k := 9) hac (by simp) (.inl ⟨rfl, by simp⟩) fun H1 _ _ => ?_
          simp -dsimp
          first | rfl | exact ⟨rfl, rfl⟩
      · have hii : i = N := by omega
        subst hii
        rw [hsm, Nat.sub_self, refK]
        simp -dsimp [h1, h2, h3, h4, hn, hti, h7, wFix_by, isInl]
        refine WDraw_see (R := [.dead, .dead, .dead, .live [byV B, .int .i64 (B.length - s1.b.length : Nat), .int .i64 s1.e], .live [.int .i64 kp, v]]) (by kernel_rfl) (by simp) ?_
        simp -dsimp [h1, h2, h3, h4, hn, hti, h7, xv, yv, sv, wFix_by, isInl]
        refine frz_acc 5 (k := 9) hac (by simp) (.inl ⟨rfl, by simp⟩) fun H1 _ _ => ?_
        simp -dsimp
        first | rfl | exact ⟨rfl, rfl⟩
theorem ref_slo_s {B : List Int} {s : Rs} (h : Suf B s) : Comes p 97 [refV B s] (.tuple [refV B (refRd rdSlo (rdN s).1).1, .agg [.int .i64 (rdN s).2, slosV (refRd rdSlo (rdN s).1).2]]) := by
  have c0 := many_s h
  have htop := rd_top (rdN s).1
  have hs0 := suf_rd (suf_rdN h) 0 65536
  have hres : refRd rdSlo (rdN s).1 = refK rdSlo (rd 0 65536 (rdN s).1).2.toNat (rd 0 65536 (rdN s).1).1 [] := rfl
  rw [hres]
  simp only [refV, refC] at c0
  refine Comes_of w97 rfl rfl k97 ?_ ?_ ?_ ?_
  · simp
  · simp
  · simp
  · simp -dsimp [w97, refC, call_by c0, wFix_by, isInl]
    obtain ⟨N, hN⟩ : ∃ N : Nat, (rd 0 65536 (rdN s).1).2 = N := ⟨(rd 0 65536 (rdN s).1).2.toNat, by omega⟩
    rw [hN] at htop ⊢
    rw [Int.toNat_natCast]
    generalize (rd 0 65536 (rdN s).1).1 = s0 at *
    generalize (rdN s).2 = kp at *
    refine xL_by (by kernel_rfl) (fun k e H => ∃ (i : Nat) (v : V) (T : List Ob) (s1 : Rs) (acc : List Slo), i ≤ N ∧ k = N - i ∧ e 1 = .ptr 0 0 ∧ e 2 = .ptr 1 0 ∧ e 3 = .ptr 2 0 ∧ e 4 = .ptr 3 0 ∧ e 6 = .int .i64 N ∧ e 8 = .int .i64 i ∧ e 7 = .ptr 4 0 ∧ H = .live [byV B, .int .i64 (B.length - s.b.length : Nat), .int .i64 s.e] :: .live [.list [] true, .int .i64 0, .int .i64 0] :: .live [.int .i64 0, .list [] true] :: .live [byV B, .int .i64 (B.length - s1.b.length : Nat), .int .i64 s1.e] :: .live [.int .i64 kp, v] :: T ∧ Suf B s1 ∧ Acc 2 5 T v (acc.map (sloV)) ∧ acc.length ≤ i ∧ refK rdSlo N s0 [] = refK rdSlo (N - i) s1 acc) N ?_ ?_
    · refine ⟨0, .list [] true, [], s0, [], by omega, rfl, ?_⟩
      simp -dsimp
      exact ⟨hs0, acc_nil (by decide)⟩
    · rintro k e H ⟨i, v, T, s1, acc, hi, hk, h1, h2, h3, h4, hn, hti, h7, rfl, hs, hac, hal, hsm⟩
      have w2 : IntKind.i64.wrap ((i : Int) + 1) = ((i + 1 : Nat) : Int) := by rw [Fz.w64 (by omega) (by omega)]; omega
      obtain ⟨xv, yv, sv⟩ := acc_val hac
      by_cases c1 : i < N
      · have hsu : N - i = (N - (i + 1)) + 1 := by omega
        by_cases c2 : s1.e = 0
        · have k1 := any64_s hs
          have k2 := read_s (lo := 0) (hi := 1) (suf_rdN hs)
          simp only [refV, refC] at k1 k2
          rw [c2] at k1
          simp -dsimp [h1, h2, h3, h4, hn, hti, h7, c1, c2, call_by k1, call_by k2]
          refine app_acc 5 (m := [(sloV) (rdSlo s1).2]) (l := acc.map (sloV)) (v := v) (by simpa using acc_ext hac _) (by simp) rfl rfl (by simp) (by simp) (by simp [capOk]; omega) fun v' J' hac' => ?_
          obtain ⟨xw, yw, sw⟩ := acc_val hac'
          simp -dsimp [h1, h2, h3, h4, hn, hti, h7, w2, xw, yw, sw]
          refine ⟨N - (i + 1), by omega, i + 1, v', J', (rdSlo s1).1, acc ++ [(rdSlo s1).2], by omega, rfl, ?_⟩
          simp -dsimp [h1, h2, h3, h4, hn, h7]
          have hsf : Suf B (rdSlo s1).1 := suf_rd (suf_rdN hs) _ _
          have hrk : refK rdSlo N s0 [] = refK rdSlo (N - (i + 1)) (rdSlo s1).1 (acc ++ [(rdSlo s1).2]) := by rw [hsm, hsu, refK, if_neg (by rw [c2]; simp)]
          first
          | exact ⟨⟨rfl, rfl⟩, hsf, by simpa using hac', by omega, hrk⟩
          | exact ⟨hsf, by simpa using hac', by omega, hrk⟩
        · rw [hsm, hsu, refK, if_pos c2]
          simp -dsimp [h1, h2, h3, h4, hn, hti, h7, c1, c2, wFix_by, isInl]
          refine WDraw_see (R := [.dead, .dead, .dead, .live [byV B, .int .i64 (B.length - s1.b.length : Nat), .int .i64 s1.e], .live [.int .i64 kp, v]]) (by kernel_rfl) (by simp) ?_
          simp -dsimp [h1, h2, h3, h4, hn, hti, h7, xv, yv, sv, wFix_by, isInl]
          refine frz_acc 5 (k := 9) hac (by simp) (.inr ⟨by decide, fun x hx => by obtain ⟨a, _, rfl⟩ := List.mem_map.1 hx; exact ⟨_, rfl⟩⟩) fun H1 _ _ => ?_
          simp -dsimp
          first | rfl | exact ⟨rfl, rfl⟩
      · have hii : i = N := by omega
        subst hii
        rw [hsm, Nat.sub_self, refK]
        simp -dsimp [h1, h2, h3, h4, hn, hti, h7, wFix_by, isInl]
        refine WDraw_see (R := [.dead, .dead, .dead, .live [byV B, .int .i64 (B.length - s1.b.length : Nat), .int .i64 s1.e], .live [.int .i64 kp, v]]) (by kernel_rfl) (by simp) ?_
        simp -dsimp [h1, h2, h3, h4, hn, hti, h7, xv, yv, sv, wFix_by, isInl]
        refine frz_acc 5 (k := 9) hac (by simp) (.inr ⟨by decide, fun x hx => by obtain ⟨a, _, rfl⟩ := List.mem_map.1 hx; exact ⟨_, rfl⟩⟩) fun H1 _ _ => ?_
        simp -dsimp
        first | rfl | exact ⟨rfl, rfl⟩
theorem ref_wor_s {B : List Int} {s : Rs} (h : Suf B s) : Comes p 98 [refV B s] (.tuple [refV B (refRd rdWor (rdN s).1).1, .agg [.int .i64 (rdN s).2, worsV (refRd rdWor (rdN s).1).2]]) := by
  have c0 := many_s h
  have htop := rd_top (rdN s).1
  have hs0 := suf_rd (suf_rdN h) 0 65536
  have hres : refRd rdWor (rdN s).1 = refK rdWor (rd 0 65536 (rdN s).1).2.toNat (rd 0 65536 (rdN s).1).1 [] := rfl
  rw [hres]
  simp only [refV, refC] at c0
  refine Comes_of w98 rfl rfl k98 ?_ ?_ ?_ ?_
  · simp
  · simp
  · simp
  · simp -dsimp [w98, refC, call_by c0, wFix_by, isInl]
    obtain ⟨N, hN⟩ : ∃ N : Nat, (rd 0 65536 (rdN s).1).2 = N := ⟨(rd 0 65536 (rdN s).1).2.toNat, by omega⟩
    rw [hN] at htop ⊢
    rw [Int.toNat_natCast]
    generalize (rd 0 65536 (rdN s).1).1 = s0 at *
    generalize (rdN s).2 = kp at *
    refine xL_by (by kernel_rfl) (fun k e H => ∃ (i : Nat) (v : V) (T : List Ob) (s1 : Rs) (acc : List Wor), i ≤ N ∧ k = N - i ∧ e 1 = .ptr 0 0 ∧ e 2 = .ptr 1 0 ∧ e 3 = .ptr 2 0 ∧ e 4 = .ptr 3 0 ∧ e 6 = .int .i64 N ∧ e 8 = .int .i64 i ∧ e 7 = .ptr 4 0 ∧ H = .live [byV B, .int .i64 (B.length - s.b.length : Nat), .int .i64 s.e] :: .live [.list [] true, .int .i64 0, .int .i64 0] :: .live [.int .i64 0, .list [] true] :: .live [byV B, .int .i64 (B.length - s1.b.length : Nat), .int .i64 s1.e] :: .live [.int .i64 kp, v] :: T ∧ Suf B s1 ∧ Acc 4 5 T v (acc.map (worV)) ∧ acc.length ≤ i ∧ refK rdWor N s0 [] = refK rdWor (N - i) s1 acc) N ?_ ?_
    · refine ⟨0, .list [] true, [], s0, [], by omega, rfl, ?_⟩
      simp -dsimp
      exact ⟨hs0, acc_nil (by decide)⟩
    · rintro k e H ⟨i, v, T, s1, acc, hi, hk, h1, h2, h3, h4, hn, hti, h7, rfl, hs, hac, hal, hsm⟩
      have w2 : IntKind.i64.wrap ((i : Int) + 1) = ((i + 1 : Nat) : Int) := by rw [Fz.w64 (by omega) (by omega)]; omega
      obtain ⟨xv, yv, sv⟩ := acc_val hac
      by_cases c1 : i < N
      · have hsu : N - i = (N - (i + 1)) + 1 := by omega
        by_cases c2 : s1.e = 0
        · have k1 := readText_s (m := 65536) hs
          have k2 := any64_s (suf_rdT hs 65536)
          have k3 := read_s (lo := 0) (hi := 3) (suf_rdN (suf_rdT hs 65536))
          have e8 := all8 (rdT_by (m := 65536) (suf_ok hs))
          have f3 := rd3 (rdN (rdT 65536 s1).1).1
          have f4 : (rd 0 3 (rdN (rdT 65536 s1).1).1).2.tmod 2 = (rd 0 3 (rdN (rdT 65536 s1).1).1).2 % 2 := Int.tmod_eq_emod_of_nonneg f3.1
          have f5 : IntKind.i64.wrap ((rd 0 3 (rdN (rdT 65536 s1).1).1).2.tdiv 2) = (rd 0 3 (rdN (rdT 65536 s1).1).1).2 / 2 := by rw [Int.tdiv_eq_ediv_of_nonneg f3.1]; exact Fz.w64 (by omega) (by omega)
          have f6 : decide ((rd 0 3 (rdN (rdT 65536 s1).1).1).2 / 2 = 1) = decide (2 ≤ (rd 0 3 (rdN (rdT 65536 s1).1).1).2) := decide_eq_decide.2 (by omega)
          simp only [refV, refC] at k1 k2 k3
          rw [c2] at k1
          simp -dsimp [h1, h2, h3, h4, hn, hti, h7, c1, c2, call_by k1, call_by k2, call_by k3, bstr_fold, e8, f4, f5, f6]
          refine app_acc 5 (m := [(worV) (rdWor s1).2]) (l := acc.map (worV)) (v := v) (by simpa using acc_ext hac _) (by simp) rfl rfl (by simp) (by simp) (by simp [capOk]; omega) fun v' J' hac' => ?_
          obtain ⟨xw, yw, sw⟩ := acc_val hac'
          simp -dsimp [h1, h2, h3, h4, hn, hti, h7, w2, xw, yw, sw]
          refine ⟨N - (i + 1), by omega, i + 1, v', J', (rdWor s1).1, acc ++ [(rdWor s1).2], by omega, rfl, ?_⟩
          simp -dsimp [h1, h2, h3, h4, hn, h7]
          have hsf : Suf B (rdWor s1).1 := suf_rd (suf_rdN (suf_rdT hs _)) _ _
          have hrk : refK rdWor N s0 [] = refK rdWor (N - (i + 1)) (rdWor s1).1 (acc ++ [(rdWor s1).2]) := by rw [hsm, hsu, refK, if_neg (by rw [c2]; simp)]
          first
          | exact ⟨⟨rfl, rfl⟩, hsf, by simpa using hac', by omega, hrk⟩
          | exact ⟨hsf, by simpa using hac', by omega, hrk⟩
        · rw [hsm, hsu, refK, if_pos c2]
          simp -dsimp [h1, h2, h3, h4, hn, hti, h7, c1, c2, wFix_by, isInl]
          refine WDraw_see (R := [.dead, .dead, .dead, .live [byV B, .int .i64 (B.length - s1.b.length : Nat), .int .i64 s1.e], .live [.int .i64 kp, v]]) (by kernel_rfl) (by simp) ?_
          simp -dsimp [h1, h2, h3, h4, hn, hti, h7, xv, yv, sv, wFix_by, isInl]
          refine frz_acc 5 (k := 9) hac (by simp) (.inr ⟨by decide, fun x hx => by obtain ⟨a, _, rfl⟩ := List.mem_map.1 hx; exact ⟨_, rfl⟩⟩) fun H1 _ _ => ?_
          simp -dsimp
          first | rfl | exact ⟨rfl, rfl⟩
      · have hii : i = N := by omega
        subst hii
        rw [hsm, Nat.sub_self, refK]
        simp -dsimp [h1, h2, h3, h4, hn, hti, h7, wFix_by, isInl]
        refine WDraw_see (R := [.dead, .dead, .dead, .live [byV B, .int .i64 (B.length - s1.b.length : Nat), .int .i64 s1.e], .live [.int .i64 kp, v]]) (by kernel_rfl) (by simp) ?_
        simp -dsimp [h1, h2, h3, h4, hn, hti, h7, xv, yv, sv, wFix_by, isInl]
        refine frz_acc 5 (k := 9) hac (by simp) (.inr ⟨by decide, fun x hx => by obtain ⟨a, _, rfl⟩ := List.mem_map.1 hx; exact ⟨_, rfl⟩⟩) fun H1 _ _ => ?_
        simp -dsimp
        first | rfl | exact ⟨rfl, rfl⟩
theorem ref_spo_s {B : List Int} {s : Rs} (h : Suf B s) : Comes p 99 [refV B s] (.tuple [refV B (refRd rdSpo (rdN s).1).1, .agg [.int .i64 (rdN s).2, sposV (refRd rdSpo (rdN s).1).2]]) := by
  have c0 := many_s h
  have htop := rd_top (rdN s).1
  have hs0 := suf_rd (suf_rdN h) 0 65536
  have hres : refRd rdSpo (rdN s).1 = refK rdSpo (rd 0 65536 (rdN s).1).2.toNat (rd 0 65536 (rdN s).1).1 [] := rfl
  rw [hres]
  simp only [refV, refC] at c0
  refine Comes_of w99 rfl rfl k99 ?_ ?_ ?_ ?_
  · simp
  · simp
  · simp
  · simp -dsimp [w99, refC, call_by c0, wFix_by, isInl]
    obtain ⟨N, hN⟩ : ∃ N : Nat, (rd 0 65536 (rdN s).1).2 = N := ⟨(rd 0 65536 (rdN s).1).2.toNat, by omega⟩
    rw [hN] at htop ⊢
    rw [Int.toNat_natCast]
    generalize (rd 0 65536 (rdN s).1).1 = s0 at *
    generalize (rdN s).2 = kp at *
    refine xL_by (by kernel_rfl) (fun k e H => ∃ (i : Nat) (v : V) (T : List Ob) (s1 : Rs) (acc : List Spo), i ≤ N ∧ k = N - i ∧ e 1 = .ptr 0 0 ∧ e 2 = .ptr 1 0 ∧ e 3 = .ptr 2 0 ∧ e 4 = .ptr 3 0 ∧ e 6 = .int .i64 N ∧ e 8 = .int .i64 i ∧ e 7 = .ptr 4 0 ∧ H = .live [byV B, .int .i64 (B.length - s.b.length : Nat), .int .i64 s.e] :: .live [.list [] true, .int .i64 0, .int .i64 0] :: .live [.int .i64 0, .list [] true] :: .live [byV B, .int .i64 (B.length - s1.b.length : Nat), .int .i64 s1.e] :: .live [.int .i64 kp, v] :: T ∧ Suf B s1 ∧ Acc 2 5 T v (acc.map (spoV)) ∧ acc.length ≤ i ∧ refK rdSpo N s0 [] = refK rdSpo (N - i) s1 acc) N ?_ ?_
    · refine ⟨0, .list [] true, [], s0, [], by omega, rfl, ?_⟩
      simp -dsimp
      exact ⟨hs0, acc_nil (by decide)⟩
    · rintro k e H ⟨i, v, T, s1, acc, hi, hk, h1, h2, h3, h4, hn, hti, h7, rfl, hs, hac, hal, hsm⟩
      have w2 : IntKind.i64.wrap ((i : Int) + 1) = ((i + 1 : Nat) : Int) := by rw [Fz.w64 (by omega) (by omega)]; omega
      obtain ⟨xv, yv, sv⟩ := acc_val hac
      by_cases c1 : i < N
      · have hsu : N - i = (N - (i + 1)) + 1 := by omega
        by_cases c2 : s1.e = 0
        · have k1 := any64_s hs
          have k2 := any64_s (suf_rdN hs)
          simp only [refV, refC] at k1 k2
          rw [c2] at k1
          simp -dsimp [h1, h2, h3, h4, hn, hti, h7, c1, c2, call_by k1, call_by k2]
          refine app_acc 5 (m := [(spoV) (rdSpo s1).2]) (l := acc.map (spoV)) (v := v) (by simpa using acc_ext hac _) (by simp) rfl rfl (by simp) (by simp) (by simp [capOk]; omega) fun v' J' hac' => ?_
          obtain ⟨xw, yw, sw⟩ := acc_val hac'
          simp -dsimp [h1, h2, h3, h4, hn, hti, h7, w2, xw, yw, sw]
          refine ⟨N - (i + 1), by omega, i + 1, v', J', (rdSpo s1).1, acc ++ [(rdSpo s1).2], by omega, rfl, ?_⟩
          simp -dsimp [h1, h2, h3, h4, hn, h7]
          have hsf : Suf B (rdSpo s1).1 := suf_rdN (suf_rdN hs)
          have hrk : refK rdSpo N s0 [] = refK rdSpo (N - (i + 1)) (rdSpo s1).1 (acc ++ [(rdSpo s1).2]) := by rw [hsm, hsu, refK, if_neg (by rw [c2]; simp)]
          first
          | exact ⟨⟨rfl, rfl⟩, hsf, by simpa using hac', by omega, hrk⟩
          | exact ⟨hsf, by simpa using hac', by omega, hrk⟩
        · rw [hsm, hsu, refK, if_pos c2]
          simp -dsimp [h1, h2, h3, h4, hn, hti, h7, c1, c2, wFix_by, isInl]
          refine WDraw_see (R := [.dead, .dead, .dead, .live [byV B, .int .i64 (B.length - s1.b.length : Nat), .int .i64 s1.e], .live [.int .i64 kp, v]]) (by kernel_rfl) (by simp) ?_
          simp -dsimp [h1, h2, h3, h4, hn, hti, h7, xv, yv, sv, wFix_by, isInl]
          refine frz_acc 5 (k := 9) hac (by simp) (.inr ⟨by decide, fun x hx => by obtain ⟨a, _, rfl⟩ := List.mem_map.1 hx; exact ⟨_, rfl⟩⟩) fun H1 _ _ => ?_
          simp -dsimp
          first | rfl | exact ⟨rfl, rfl⟩
      · have hii : i = N := by omega
        subst hii
        rw [hsm, Nat.sub_self, refK]
        simp -dsimp [h1, h2, h3, h4, hn, hti, h7, wFix_by, isInl]
        refine WDraw_see (R := [.dead, .dead, .dead, .live [byV B, .int .i64 (B.length - s1.b.length : Nat), .int .i64 s1.e], .live [.int .i64 kp, v]]) (by kernel_rfl) (by simp) ?_
        simp -dsimp [h1, h2, h3, h4, hn, hti, h7, xv, yv, sv, wFix_by, isInl]
        refine frz_acc 5 (k := 9) hac (by simp) (.inr ⟨by decide, fun x hx => by obtain ⟨a, _, rfl⟩ := List.mem_map.1 hx; exact ⟨_, rfl⟩⟩) fun H1 _ _ => ?_
        simp -dsimp
        first | rfl | exact ⟨rfl, rfl⟩
end Fz.D
set_option maxRecDepth 100000
namespace Fz.D
open Go
structure Tr (b : List Int) where
  s1 : Rs
  mem : List Rn
  s2 : Rs
  dk : Int
  s3 : Rs
  dt : List Int
  s4 : Rs
  rk : Int
  s5 : Rs
  rt : List Slo
  s6 : Rs
  ck : Int
  s7 : Rs
  ct : List Int
  s8 : Rs
  wk : Int
  s9 : Rs
  wt : List Wor
  s10 : Rs
  sk : Int
  s11 : Rs
  st : List Spo
  s12 : Rs
  out : Int
  s13 : Rs
  r0 : Int
  s14 : Rs
  r1 : Int
  s15 : Rs
  r2 : Int
  s16 : Rs
  r3 : Int
  s17 : Rs
  r4 : Int
  s18 : Rs
  r5 : Int
  s19 : Rs
  fl : Int
  h1 : refRd rdRun ⟨b, 0⟩ = (s1, mem)
  h2 : rdN s1 = (s2, dk)
  h3 : refRd rdN s2 = (s3, dt)
  h4 : rdN s3 = (s4, rk)
  h5 : refRd rdSlo s4 = (s5, rt)
  h6 : rdN s5 = (s6, ck)
  h7 : refRd rdN s6 = (s7, ct)
  h8 : rdN s7 = (s8, wk)
  h9 : refRd rdWor s8 = (s9, wt)
  h10 : rdN s9 = (s10, sk)
  h11 : refRd rdSpo s10 = (s11, st)
  h12 : rdN s11 = (s12, out)
  h13 : rdN s12 = (s13, r0)
  h14 : rdN s13 = (s14, r1)
  h15 : rdN s14 = (s15, r2)
  h16 : rdN s15 = (s16, r3)
  h17 : rdN s16 = (s17, r4)
  h18 : rdN s17 = (s18, r5)
  h19 : rd 0 3 s18 = (s19, fl)
def tr (b : List Int) : Tr b :=
  let x1 := refRd rdRun ⟨b, 0⟩
  let x2 := rdN x1.1
  let x3 := refRd rdN x2.1
  let x4 := rdN x3.1
  let x5 := refRd rdSlo x4.1
  let x6 := rdN x5.1
  let x7 := refRd rdN x6.1
  let x8 := rdN x7.1
  let x9 := refRd rdWor x8.1
  let x10 := rdN x9.1
  let x11 := refRd rdSpo x10.1
  let x12 := rdN x11.1
  let x13 := rdN x12.1
  let x14 := rdN x13.1
  let x15 := rdN x14.1
  let x16 := rdN x15.1
  let x17 := rdN x16.1
  let x18 := rdN x17.1
  let x19 := rd 0 3 x18.1
  { s1 := x1.1, mem := x1.2, s2 := x2.1, dk := x2.2, s3 := x3.1, dt := x3.2, s4 := x4.1, rk := x4.2, s5 := x5.1, rt := x5.2, s6 := x6.1, ck := x6.2, s7 := x7.1, ct := x7.2, s8 := x8.1, wk := x8.2, s9 := x9.1, wt := x9.2, s10 := x10.1, sk := x10.2, s11 := x11.1, st := x11.2, s12 := x12.1, out := x12.2, s13 := x13.1, r0 := x13.2, s14 := x14.1, r1 := x14.2, s15 := x15.1, r2 := x15.2, s16 := x16.1, r3 := x16.2, s17 := x17.1, r4 := x17.2, s18 := x18.1, r5 := x18.2, s19 := x19.1, fl := x19.2, h1 := eta2 _, h2 := eta2 _, h3 := eta2 _, h4 := eta2 _, h5 := eta2 _, h6 := eta2 _, h7 := eta2 _, h8 := eta2 _, h9 := eta2 _, h10 := eta2 _, h11 := eta2 _, h12 := eta2 _, h13 := eta2 _, h14 := eta2 _, h15 := eta2 _, h16 := eta2 _, h17 := eta2 _, h18 := eta2 _, h19 := eta2 _ }
def Tr.d {b : List Int} (t : Tr b) : De := { mem := t.mem, dk := t.dk, dt := t.dt, rk := t.rk, rt := t.rt, ck := t.ck, ct := t.ct, wk := t.wk, wt := t.wt, sk := t.sk, st := t.st, out := t.out, r0 := t.r0, r1 := t.r1, r2 := t.r2, r3 := t.r3, r4 := t.r4, r5 := t.r5, comp := decide (t.fl % 2 = 1), halt := decide (2 ≤ t.fl) }
def refTakeV {b : List Int} (t : Tr b) : V := if endR t.s19 = 0 then .tuple [deV t.d, .int .i64 0] else .tuple [deV De0, .int .i64 (endR t.s19)]
theorem refK_suf {α : Type} {B : List Int} {f : Rs → Rs × α} (hf : ∀ s, Suf B s → Suf B (f s).1) : ∀ (k : Nat) (s : Rs) (acc : List α), Suf B s → Suf B (refK f k s acc).1
  | 0, s, acc, h => h
  | k + 1, s, acc, h => by
    unfold refK
    split
    · exact h
    · exact refK_suf hf k _ _ (hf s h)
theorem refRd_suf {α : Type} {B : List Int} {f : Rs → Rs × α} (hf : ∀ s, Suf B s → Suf B (f s).1) {s : Rs} (h : Suf B s) : Suf B (refRd f s).1 := refK_suf hf _ _ _ (suf_rd h _ _)
theorem refTake_s {b : List Int} (t : Tr b) (hb : b.length ≤ 10000000) (hby : by8 b) : Comes p 41 [byV b] (refTakeV t) := by
  obtain ⟨s1, mem, s2, dk, s3, dt, s4, rk, s5, rt, s6, ck, s7, ct, s8, wk, s9, wt, s10, sk, s11, st, s12, out, s13, r0, s14, r1, s15, r2, s16, r3, s17, r4, s18, r5, s19, fl, h1, h2, h3, h4, h5, h6, h7, h8, h9, h10, h11, h12, h13, h14, h15, h16, h17, h18, h19⟩ := t
  have u0 : Suf b ⟨b, 0⟩ := ⟨Nat.le_refl _, by simp, hb, hby⟩
  have u1 : Suf b s1 := by have := refRd_suf (f := rdRun) (fun s h => (suf_rdT (suf_rdN h) _ : Suf b (rdRun s).1)) u0; rw [h1] at this; exact this
  have u2 : Suf b s2 := by have := suf_rdN u1; rw [h2] at this; exact this
  have u3 : Suf b s3 := by have := refRd_suf (fun s h => suf_rdN h) u2; rw [h3] at this; exact this
  have u4 : Suf b s4 := by have := suf_rdN u3; rw [h4] at this; exact this
  have u5 : Suf b s5 := by have := refRd_suf (f := rdSlo) (fun s h => (suf_rd (suf_rdN h) _ _ : Suf b (rdSlo s).1)) u4; rw [h5] at this; exact this
  have u6 : Suf b s6 := by have := suf_rdN u5; rw [h6] at this; exact this
  have u7 : Suf b s7 := by have := refRd_suf (fun s h => suf_rdN h) u6; rw [h7] at this; exact this
  have u8 : Suf b s8 := by have := suf_rdN u7; rw [h8] at this; exact this
  have u9 : Suf b s9 := by have := refRd_suf (f := rdWor) (fun s h => (suf_rd (suf_rdN (suf_rdT h _)) _ _ : Suf b (rdWor s).1)) u8; rw [h9] at this; exact this
  have u10 : Suf b s10 := by have := suf_rdN u9; rw [h10] at this; exact this
  have u11 : Suf b s11 := by have := refRd_suf (f := rdSpo) (fun s h => (suf_rdN (suf_rdN h) : Suf b (rdSpo s).1)) u10; rw [h11] at this; exact this
  have u12 : Suf b s12 := by have := suf_rdN u11; rw [h12] at this; exact this
  have u13 : Suf b s13 := by have := suf_rdN u12; rw [h13] at this; exact this
  have u14 : Suf b s14 := by have := suf_rdN u13; rw [h14] at this; exact this
  have u15 : Suf b s15 := by have := suf_rdN u14; rw [h15] at this; exact this
  have u16 : Suf b s16 := by have := suf_rdN u15; rw [h16] at this; exact this
  have u17 : Suf b s17 := by have := suf_rdN u16; rw [h17] at this; exact this
  have u18 : Suf b s18 := by have := suf_rdN u17; rw [h18] at this; exact this
  have u19 : Suf b s19 := by have := suf_rd u18 0 3; rw [h19] at this; exact this
  have e0 : refV b ⟨b, 0⟩ = .agg [byV b, .int .i64 0, .int .i64 0] := by simp [refV, refC]
  have f3 : 0 ≤ fl ∧ fl ≤ 3 := by have := rd3 s18; rw [h19] at this; exact this
  have f4 : fl.tmod 2 = fl % 2 := Int.tmod_eq_emod_of_nonneg f3.1
  have f5 : IntKind.i64.wrap (fl.tdiv 2) = fl / 2 := by rw [Int.tdiv_eq_ediv_of_nonneg f3.1]; exact Fz.w64 (by omega) (by omega)
  have f6 : decide (fl / 2 = 1) = decide (2 ≤ fl) := decide_eq_decide.2 (by omega)
  have c1 := ref_run_s u0
  rw [h1, e0] at c1
  have c3 := ref_int_s u1
  rw [h2, h3] at c3
  have c5 := ref_slo_s u3
  rw [h4, h5] at c5
  have c7 := ref_int_s u5
  rw [h6, h7] at c7
  have c9 := ref_wor_s u7
  rw [h8, h9] at c9
  have c11 := ref_spo_s u9
  rw [h10, h11] at c11
  have c12 := any64_s u11
  rw [h12] at c12
  have c13 := any64_s u12
  rw [h13] at c13
  have c14 := any64_s u13
  rw [h14] at c14
  have c15 := any64_s u14
  rw [h15] at c15
  have c16 := any64_s u15
  rw [h16] at c16
  have c17 := any64_s u16
  rw [h17] at c17
  have c18 := any64_s u17
  rw [h18] at c18
  have c19 := read_s (lo := 0) (hi := 3) u18
  rw [h19] at c19
  have c20 := refEnd_s u19
  simp only [refV, refC] at c1 c3 c5 c7 c9 c11 c12 c13 c14 c15 c16 c17 c18 c19 c20
  refine Comes_of w41 rfl rfl k41 ?_ ?_ ?_ ?_
  · simp
  · simp
  · unfold refTakeV; split <;> simp
  · simp -dsimp [w41, call_by c1, call_by c3, call_by c5, call_by c7, call_by c9, call_by c11, call_by c12, call_by c13, call_by c14, call_by c15, call_by c16, call_by c17, call_by c18, call_by c19, call_by c20]
    have w1 : IntKind.i64.wrap 1 = 1 := Fz.w64 (by omega) (by omega)
    have w2 : IntKind.i64.wrap 2 = 2 := Fz.w64 (by omega) (by omega)
    have w3 : IntKind.i64.wrap 3 = 3 := Fz.w64 (by omega) (by omega)
    have w4 : IntKind.i64.wrap 4 = 4 := Fz.w64 (by omega) (by omega)
    have w5 : IntKind.i64.wrap 5 = 5 := Fz.w64 (by omega) (by omega)
    have w6 : IntKind.i64.wrap 6 = 6 := Fz.w64 (by omega) (by omega)
    refine xL_one (by kernel_rfl) ?_
    simp -dsimp [w1, w2, w3, w4, w5, w6, call_by c13, roundL]
    refine xL_one (by kernel_rfl) ?_
    simp -dsimp [w1, w2, w3, w4, w5, w6, call_by c14, roundL]
    refine xL_one (by kernel_rfl) ?_
    simp -dsimp [w1, w2, w3, w4, w5, w6, call_by c15, roundL]
    refine xL_one (by kernel_rfl) ?_
    simp -dsimp [w1, w2, w3, w4, w5, w6, call_by c16, roundL]
    refine xL_one (by kernel_rfl) ?_
    simp -dsimp [w1, w2, w3, w4, w5, w6, call_by c17, roundL]
    refine xL_one (by kernel_rfl) ?_
    simp -dsimp [w1, w2, w3, w4, w5, w6, call_by c18, roundL]
    refine xL_one (by kernel_rfl) ?_
    simp -dsimp [roundL, call_by c19, f4, f5, f6, call_by c20]
    by_cases he : endR s19 = 0
    · simp -dsimp [he, refTakeV, wFix_by, isInl]
      rfl
    · simp -dsimp [he, refTakeV, wFix_by, isInl]
      rfl
end Fz.D
set_option maxRecDepth 100000
namespace Fz.D
open Go
theorem leadK_app {c : Int} {rest : List Int} (hc : c < 128) : ∀ (l : List Int) (k : Nat), (∀ x ∈ l, 128 ≤ x) → l.length < k → leadK k (l ++ c :: rest) = l.length
  | [], k, _, hk => by
    cases k with
    | zero => simp at hk
    | succ k => rw [List.nil_append, leadK, if_neg (by omega)]; rfl
  | x :: l, k, h, hk => by
    cases k with
    | zero => simp at hk
    | succ k =>
      rw [List.cons_append, leadK, if_pos (h x (by simp)), leadK_app hc l k (fun y hy => h y (by simp [hy])) (by simpa using hk), List.length_cons]
theorem numC_ge : ∀ (n y : Nat), y ≤ n → ∀ x ∈ numC y, 128 ≤ x ∧ x < 256
  | 0, y, h, x, hx => by
    have : y = 0 := by omega
    subst this; rw [numC_zero] at hx; cases hx
  | n + 1, y, h, x, hx => by
    by_cases h0 : y = 0
    · subst h0; rw [numC_zero] at hx; cases hx
    · rw [numC_pos h0] at hx
      rcases List.mem_append.1 hx with hx | hx
      · exact numC_ge n (y / 128) (by omega) x hx
      · simp only [List.mem_cons, List.not_mem_nil, or_false] at hx
        omega
theorem num_k : ∀ (n y : Nat), y ≤ n → y ≠ 0 → ∃ k, 128 ^ k ≤ y ∧ y < 128 ^ (k + 1)
  | 0, y, h, h0 => by omega
  | n + 1, y, h, h0 => by
    by_cases hs : y < 128
    · exact ⟨0, by simp; omega, by simpa using hs⟩
    · obtain ⟨k, h1, h2⟩ := num_k n (y / 128) (by omega) (by omega)
      refine ⟨k + 1, ?_, ?_⟩
      · rw [Nat.pow_succ]; omega
      · rw [Nat.pow_succ (m := k + 1)]; omega
theorem numC_head : ∀ (k y : Nat), 128 ^ k ≤ y → y < 128 ^ (k + 1) → (numC y).length = k + 1 ∧ (numC y).head? = some (((y / 128 ^ k : Nat) : Int) + 128)
  | 0, y, h1, h2 => by
    have h2 : y < 128 := by simpa using h2
    have h1 : 1 ≤ y := by simpa using h1
    rw [numC_pos (by omega), show y / 128 = 0 from by omega, numC_zero]
    simp
    omega
  | k + 1, y, h1, h2 => by
    have h1' : 128 ^ k ≤ y / 128 := by rw [Nat.pow_succ] at h1; omega
    have h2' : y / 128 < 128 ^ (k + 1) := by rw [Nat.pow_succ (m := k + 1)] at h2; omega
    have hp : 0 < 128 ^ k := Nat.pow_pos (by omega)
    obtain ⟨i1, i2⟩ := numC_head k (y / 128) h1' h2'
    rw [numC_pos (by omega)]
    refine ⟨by simp [i1], ?_⟩
    rw [List.head?_append, i2, Nat.div_div_eq_div_mul, Nat.pow_succ, Nat.mul_comm 128]
    rfl
theorem gt_head {l r : List Int} {a : Int} (h : l.head? = some a) : gt (l ++ r) 0 = a := by
  cases l with
  | nil => cases h
  | cons x l => cases h; rfl
theorem fold_num : ∀ (n y : Nat), y ≤ n → y < 18446744073709551616 → (numC y).foldl val1 0 = (y : Int)
  | 0, y, h, _ => by
    have : y = 0 := by omega
    subst this; rw [numC_zero]; rfl
  | n + 1, y, h, hy => by
    by_cases h0 : y = 0
    · subst h0; rw [numC_zero]; rfl
    · rw [numC_pos h0, List.foldl_append, fold_num n (y / 128) (by omega) (by omega)]
      simp only [List.foldl_cons, List.foldl_nil, val1]
      omega
theorem num_A {x : Nat} (hx : x < 18446744073709551616) (rest : List Int) : endsF (numB x ++ rest) = ((numB x).length, 0) ∧ valU (numB x) = (x : Int) := by
  have hx57 : x / 128 < 144115188075855872 := by omega
  have hp9 : (128 : Nat) ^ 9 = 9223372036854775808 := by decide
  have hp8 : (128 : Nat) ^ 8 = 72057594037927936 := by decide
  have e : numB x ++ rest = numC (x / 128) ++ ((x % 128 : Nat) : Int) :: rest := by simp [numB]
  have hge := numC_ge (x / 128) (x / 128) (Nat.le_refl _)
  have hhd : x / 128 ≠ 0 → ∃ k, k ≤ 8 ∧ (numC (x / 128)).length = k + 1 ∧ ∃ a : Int, gt (numB x ++ rest) 0 = a ∧ a ≠ 128 ∧ (k = 8 → a ≤ 129) := by
    intro h0
    obtain ⟨k, h1, h2⟩ := num_k (x / 128) (x / 128) (Nat.le_refl _) h0
    obtain ⟨i1, i2⟩ := numC_head k (x / 128) h1 h2
    have hk : k ≤ 8 := by
      rcases Nat.lt_or_ge k 9 with h | h
      · omega
      · have := Nat.pow_le_pow_right (show 0 < 128 by omega) h
        omega
    have hq : 1 ≤ x / 128 / 128 ^ k := (Nat.one_le_div_iff (Nat.pow_pos (by omega))).2 h1
    have hq8 : k = 8 → x / 128 / 128 ^ k ≤ 1 := fun h8 => by subst h8; rw [hp8]; omega
    generalize x / 128 / 128 ^ k = q at i2 hq hq8
    refine ⟨k, hk, i1, (q : Int) + 128, by rw [e]; exact gt_head i2, by omega, fun h8 => ?_⟩
    have := hq8 h8
    omega
  have hlen : (numC (x / 128)).length ≤ 9 := by
    by_cases h0 : x / 128 = 0
    · rw [h0, numC_zero]; simp
    · obtain ⟨k, hk, i1, _⟩ := hhd h0; omega
  have hlead : lead (numB x ++ rest) = (numC (x / 128)).length := by
    unfold lead
    rw [e]
    exact leadK_app (by omega) _ 10 (fun y hy => (hge y hy).1) (by omega)
  refine ⟨?_, ?_⟩
  · unfold endsF
    rw [hlead]
    have hl : (numB x ++ rest).length = (numC (x / 128)).length + 1 + rest.length := by rw [e]; simp; omega
    have hn : ¬ ((0 < (numB x ++ rest).length ∧ gt (numB x ++ rest) 0 = 128) ∨ (numC (x / 128)).length = 10) := by
      rintro (⟨_, h⟩ | h)
      · by_cases h0 : x / 128 = 0
        · rw [e, h0, numC_zero] at h
          have : ((x % 128 : Nat) : Int) = 128 := h
          omega
        · obtain ⟨k, _, _, a, h1, h2, _⟩ := hhd h0
          exact h2 (by rw [← h1]; exact h)
      · omega
    rw [if_neg hn, if_neg (by omega), if_neg]
    · simp [numB]
    · rintro ⟨h9, h⟩
      by_cases h0 : x / 128 = 0
      · rw [h0, numC_zero] at h9; simp at h9
      · obtain ⟨k, _, i1, a, h1, _, h3⟩ := hhd h0
        have := h3 (by omega)
        omega
  · unfold valU numB
    rw [List.foldl_append, fold_num (x / 128) (x / 128) (Nat.le_refl _) (by omega)]
    simp only [List.foldl_cons, List.foldl_nil, val1]
    omega
theorem unzz_zz {n : Int} (h : i64 n) : unzz (zz n) = n := by
  unfold unzz zz i64 at *
  split <;> split <;> omega
theorem zz_unzz {x : Int} (h : 0 ≤ x ∧ x < 18446744073709551616) : zz (unzz x) = x := by
  unfold unzz zz
  split <;> split <;> omega
theorem rd_A {n lo hi : Int} (h : i64 n) (h1 : lo ≤ n) (h2 : n ≤ hi) (rest : List Int) : rd lo hi ⟨encN n ++ rest, 0⟩ = (⟨rest, 0⟩, n) := by
  obtain ⟨z0, z1⟩ := zz_le h
  obtain ⟨a, b⟩ := num_A (x := (zz n).toNat) (by omega) rest
  have et : (encN n ++ rest).take (numB (zz n).toNat).length = numB (zz n).toNat := List.take_left' rfl
  have ed : (encN n ++ rest).drop (numB (zz n).toNat).length = rest := List.drop_left' rfl
  have a' : endsF (encN n ++ rest) = ((numB (zz n).toNat).length, 0) := a
  unfold rd
  simp only [a']
  rw [if_neg (by simp), if_neg (by simp), et, ed, b, show (((zz n).toNat : Nat) : Int) = zz n from by omega, unzz_zz h, if_neg (by omega)]
end Fz.D
set_option maxRecDepth 100000
namespace Fz.D
open Go
theorem lead_split : ∀ (k : Nat) (b : List Int), leadK k b < k → leadK k b < b.length → (∀ x ∈ b.take (leadK k b), 128 ≤ x) ∧ gt b (leadK k b) < 128
  | 0, b, h, _ => by omega
  | k + 1, [], _, h => by simp [leadK] at h
  | k + 1, x :: l, h, h' => by
    unfold leadK at h h' ⊢
    split
    · rename_i hx
      rw [if_pos hx] at h h'
      obtain ⟨h1, h2⟩ := lead_split k l (by omega) (by simpa using h')
      refine ⟨fun y hy => ?_, by simpa [gt] using h2⟩
      rw [List.take_succ_cons] at hy
      rcases List.mem_cons.1 hy with rfl | hy
      · exact hx
      · exact h1 y hy
    · rename_i hx
      exact ⟨fun y hy => by simp at hy, by simp [gt]; omega⟩
def valN (l : List Int) : Nat := l.foldl (fun v c => v * 128 + (c.toNat - 128)) 0
theorem valN_snoc (l : List Int) (c : Int) : valN (l ++ [c]) = valN l * 128 + (c.toNat - 128) := by
  unfold valN; rw [List.foldl_append]; rfl
theorem canon : ∀ (n : Nat) (l : List Int), l.length = n → (∀ x ∈ l, 128 ≤ x ∧ x < 256) → (l ≠ [] → gt l 0 ≠ 128) → numC (valN l) = l ∧ (l ≠ [] → valN l ≠ 0) ∧ valN l < 128 ^ n ∧ (l ≠ [] → gt l 0 ≤ 129 → valN l < 2 * 128 ^ (n - 1))
  | 0, l, h, _, _ => by
    have : l = [] := List.length_eq_zero_iff.1 h
    subst this
    exact ⟨numC_zero, fun h => absurd rfl h, by simp [valN], fun h => absurd rfl h⟩
  | n + 1, l, h, hx, hg => by
    rcases List.eq_nil_or_concat l with rfl | ⟨L, c, rfl⟩
    · simp at h
    · rw [List.concat_eq_append] at *
      have hL : L.length = n := by simpa using h
      have hc := hx c (by simp)
      have hgL : L ≠ [] → gt L 0 = gt (L ++ [c]) 0 := fun hne => by
        cases L with
        | nil => exact absurd rfl hne
        | cons a L => rfl
      obtain ⟨i1, i2, i3, i4⟩ := canon n L hL (fun x hxx => hx x (by simp [hxx])) (fun hne => by rw [hgL hne]; exact hg (by simp))
      rw [valN_snoc]
      obtain ⟨d, hd⟩ : ∃ d : Nat, c = d + 128 ∧ d < 128 := ⟨c.toNat - 128, by omega, by omega⟩
      obtain ⟨hd, hd'⟩ := hd
      have e1 : c.toNat - 128 = d := by omega
      rw [e1]
      have hne0 : valN L * 128 + d ≠ 0 := by
        by_cases hn : L = []
        · subst hn
          have := hg (by simp)
          have : c ≠ 128 := this
          omega
        · have := i2 hn; omega
      refine ⟨?_, fun _ => hne0, ?_, fun _ hle => ?_⟩
      · rw [numC_pos hne0, show (valN L * 128 + d) / 128 = valN L from by omega, i1, show (valN L * 128 + d) % 128 = d from by omega, hd]
      · rw [Nat.pow_succ]; omega
      · by_cases hn : L = []
        · subst hn
          have hn0 : n = 0 := by simpa using hL.symm
          subst hn0
          have : c ≤ 129 := hle
          simp [valN]
          omega
        · have := i4 hn (by rw [hgL hn]; exact hle)
          have hnp : n ≠ 0 := fun h0 => hn (List.length_eq_zero_iff.1 (by omega))
          obtain ⟨m, rfl⟩ : ∃ m, n = m + 1 := ⟨n - 1, by omega⟩
          simp only [Nat.add_sub_cancel] at this ⊢
          rw [Nat.pow_succ]; omega
theorem fold_valN : ∀ (n : Nat) (l : List Int), l.length = n → (∀ x ∈ l, 128 ≤ x ∧ x < 256) → valN l < 18446744073709551616 → l.foldl val1 0 = (valN l : Int)
  | 0, l, h, _, _ => by
    have : l = [] := List.length_eq_zero_iff.1 h
    subst this; rfl
  | n + 1, l, h, hx, hv => by
    rcases List.eq_nil_or_concat l with rfl | ⟨L, c, rfl⟩
    · simp at h
    · rw [List.concat_eq_append] at *
      rw [valN_snoc] at hv ⊢
      have hc := hx c (by simp)
      rw [List.foldl_append, fold_valN n L (by simpa using h) (fun x hxx => hx x (by simp [hxx])) (by omega)]
      simp only [List.foldl_cons, List.foldl_nil, val1]
      omega
theorem num_B {b : List Int} (h8 : by8 b) (he : (endsF b).2 = 0) : (endsF b).1 ≤ b.length ∧ b.take (endsF b).1 = numB (valU (b.take (endsF b).1)).toNat := by
  have hle := lead_le b
  have hp9 : (128 : Nat) ^ 9 = 9223372036854775808 := by decide
  have hp8 : (128 : Nat) ^ 8 = 72057594037927936 := by decide
  have hE : endsF b = (lead b + 1, 0) ∧ ¬ ((0 < b.length ∧ gt b 0 = 128) ∨ lead b = 10) ∧ lead b ≠ b.length ∧ ¬ (lead b = 9 ∧ 129 < gt b 0) := by
    unfold endsF at he ⊢
    split at he
    · simp at he
    · rename_i c1
      rw [if_neg c1]
      split at he
      · simp at he
      · rename_i c2
        rw [if_neg c2]
        split at he
        · simp at he
        · rename_i c3
          rw [if_neg c3]
          exact ⟨rfl, c1, c2, c3⟩
  obtain ⟨hE, n1, n2, n3⟩ := hE
  rw [hE]
  simp only
  have hlt : lead b < b.length := by omega
  have hl10 : lead b < 10 := by omega
  obtain ⟨s1, s2⟩ := lead_split 10 b hl10 hlt
  have s1 : ∀ x ∈ b.take (lead b), 128 ≤ x := s1
  have s2 : gt b (lead b) < 128 := s2
  have hge : ∀ x ∈ b.take (lead b), 128 ≤ x ∧ x < 256 := fun x hx => ⟨s1 x hx, (h8 x (List.mem_of_mem_take hx)).2⟩
  have hbl : b[lead b] = gt b (lead b) := gt_at hlt
  have hg0 := h8 b[lead b] (List.getElem_mem hlt)
  have hll : (b.take (lead b)).length = lead b := by simp; omega
  have hgt : b.take (lead b) ≠ [] → gt (b.take (lead b)) 0 = gt b 0 := fun hne => by
    cases b with
    | nil => simp at hne
    | cons a b' =>
      cases hl : lead (a :: b') with
      | zero => rw [hl] at hne; simp at hne
      | succ k => rfl
  obtain ⟨i1, i2, i3, i4⟩ := canon (lead b) (b.take (lead b)) hll hge (fun hne => by rw [hgt hne]; intro h; exact n1 (.inl ⟨by omega, h⟩))
  have hv : valN (b.take (lead b)) < 144115188075855872 := by
    by_cases h9 : lead b = 9
    · have hne : b.take (lead b) ≠ [] := fun h => by rw [h] at hll; simp at hll; omega
      have := i4 hne (by rw [hgt hne]; omega)
      rw [h9] at this
      simp only [show 9 - 1 = 8 from rfl] at this
      rw [h9]
      omega
    · have := Nat.pow_le_pow_right (show 0 < 128 by omega) (show lead b ≤ 8 by omega)
      omega
  have htk : b.take (lead b + 1) = b.take (lead b) ++ [gt b (lead b)] := by
    rw [List.take_succ_eq_append_getElem hlt, hbl]
  have hval : valU (b.take (lead b + 1)) = (valN (b.take (lead b)) * 128 + (gt b (lead b)).toNat : Nat) := by
    rw [htk]
    unfold valU
    rw [List.foldl_append, fold_valN (lead b) (b.take (lead b)) hll hge (by omega)]
    simp only [List.foldl_cons, List.foldl_nil, val1]
    omega
  refine ⟨by omega, ?_⟩
  rw [hval, Int.toNat_natCast, htk]
  unfold numB
  rw [show (valN (b.take (lead b)) * 128 + (gt b (lead b)).toNat) / 128 = valN (b.take (lead b)) from by omega, i1, show (valN (b.take (lead b)) * 128 + (gt b (lead b)).toNat) % 128 = (gt b (lead b)).toNat from by omega]
  congr 2
  omega
theorem rd_B {lo hi : Int} {s : Rs} (h8 : by8 s.b) (h : (rd lo hi s).1.e = 0) : s.e = 0 ∧ s.b = encN (rd lo hi s).2 ++ (rd lo hi s).1.b ∧ i64 (rd lo hi s).2 ∧ lo ≤ (rd lo hi s).2 ∧ (rd lo hi s).2 ≤ hi := by
  have hok := rd_ok h
  unfold rd at h hok ⊢
  split at h
  · rename_i c; exact absurd h c
  · rename_i c
    rw [if_neg c] at hok ⊢
    split at h
    · rename_i c2; exact absurd h c2
    · rename_i c2
      rw [if_neg c2] at hok ⊢
      split at h
      · simp at h
      · rename_i c3
        rw [if_neg c3] at hok ⊢
        obtain ⟨b1, b2⟩ := num_B h8 (by omega)
        have hr := valU_rng (s.b.take (endsF s.b).1)
        refine ⟨by omega, ?_, unzz_rng hr, hok⟩
        show s.b = encN (unzz (valU (s.b.take (endsF s.b).1))) ++ s.b.drop (endsF s.b).1
        unfold encN
        rw [zz_unzz hr, ← b2, List.take_append_drop]
end Fz.D
set_option maxRecDepth 100000
namespace Fz.D
open Go
structure Enc {α : Type} (f : Rs → Rs × α) (enc : α → List Int) (P : α → Prop) : Prop where
  A : ∀ x rest, P x → f ⟨enc x ++ rest, 0⟩ = (⟨rest, 0⟩, x)
  B : ∀ s, by8 s.b → (f s).1.e = 0 → s.e = 0 ∧ s.b = enc (f s).2 ++ (f s).1.b ∧ P (f s).2
theorem by8_right {a b c : List Int} (h : by8 c) (e : c = a ++ b) : by8 b := fun x hx => h x (by rw [e]; exact List.mem_append_right _ hx)
theorem enc_n : Enc rdN encN i64 where
  A x rest h := rd_A h h.1 h.2 rest
  B s h8 h := by
    obtain ⟨h1, h2, h3, _⟩ := rd_B h8 h
    exact ⟨h1, h2, h3⟩
theorem enc_r (hi : Int) (hh : 0 ≤ hi ∧ hi ≤ 65536) : Enc (rd 0 hi) encN (fun n => 0 ≤ n ∧ n ≤ hi) where
  A x rest h := rd_A (by unfold i64; omega) h.1 h.2 rest
  B s h8 h := by
    obtain ⟨h1, h2, h3, h4⟩ := rd_B h8 h
    exact ⟨h1, h2, h4⟩
theorem enc_t : Enc (rdT 65536) txt (fun b => b.length ≤ 65536 ∧ by8 b) where
  A x rest h := by
    have := (enc_r 65536 (by omega)).A (x.length : Int) (x ++ rest) (by omega)
    have e : txt x ++ rest = encN x.length ++ (x ++ rest) := by simp [txt]
    rw [e]
    unfold rdT
    rw [this]
    simp only
    rw [if_neg (by simp), if_neg (by simp; omega), Int.toNat_natCast, List.drop_left' rfl, List.take_left' rfl]
  B s h8 h := by
    have hb := @rd_B 0 65536 s h8
    by_cases he : (rd 0 65536 s).1.e = 0
    · obtain ⟨h1, h2, h3, h4, h5⟩ := hb he
      by_cases hn : ((rd 0 65536 s).1.b.length : Int) < (rd 0 65536 s).2
      · exfalso
        unfold rdT at h
        rw [if_neg (by rw [he]; simp), if_pos hn] at h
        simp at h
      · rw [rdT_eq 65536 s he hn]
        simp only
        have hl : ((rd 0 65536 s).1.b.take (rd 0 65536 s).2.toNat).length = (rd 0 65536 s).2.toNat := by simp; omega
        refine ⟨h1, ?_, by omega, fun x hx => by8_right h8 h2 x (List.mem_of_mem_take hx)⟩
        unfold txt
        rw [hl, show (((rd 0 65536 s).2.toNat : Nat) : Int) = (rd 0 65536 s).2 from by omega, List.append_assoc, List.take_append_drop]
        exact h2
    · exfalso
      unfold rdT at h
      rw [if_pos he] at h
      exact he h
theorem enc_run : Enc rdRun encRun (fun r => i64 r.at_ ∧ r.b.length ≤ 65536 ∧ by8 r.b) where
  A x rest h := by
    have e : encRun x ++ rest = encN x.at_ ++ (txt x.b ++ rest) := by simp [encRun]
    unfold rdRun
    rw [e, enc_n.A _ _ h.1]
    simp only
    rw [enc_t.A _ _ h.2]
  B s h8 h := by
    obtain ⟨h1, h2, h3⟩ := enc_t.B (rdN s).1 (by
      have := @rd_by (-9223372036854775808) 9223372036854775807 s h8; exact this) h
    obtain ⟨g1, g2, g3⟩ := enc_n.B s h8 h1
    refine ⟨g1, ?_, g3, h3⟩
    show s.b = encN (rdN s).2 ++ txt (rdT 65536 (rdN s).1).2 ++ (rdT 65536 (rdN s).1).1.b
    rw [List.append_assoc, ← h2, ← g2]
theorem encs_two (a b : Int) : encs [a, b] = encN a ++ encN b := by simp [encs, cat]
theorem enc_slo : Enc rdSlo encSlo (fun s => i64 s.v) where
  A x rest h := by
    have e : encSlo x ++ rest = encN x.v ++ (encN (if x.call then 1 else 0) ++ rest) := by unfold encSlo; rw [encs_two, List.append_assoc]
    unfold rdSlo
    rw [e, enc_n.A _ _ h]
    simp only
    rw [(enc_r 1 (by omega)).A _ _ (by split <;> omega)]
    obtain ⟨v, c⟩ := x
    cases c <;> rfl
  B s h8 h := by
    obtain ⟨h1, h2, h3⟩ := (enc_r 1 (by omega)).B (rdN s).1 (@rd_by _ _ s h8) h
    obtain ⟨g1, g2, g3⟩ := enc_n.B s h8 h1
    refine ⟨g1, ?_, g3⟩
    show s.b = encs [(rdN s).2, if decide ((rd 0 1 (rdN s).1).2 = 1) = true then 1 else 0] ++ (rd 0 1 (rdN s).1).1.b
    have e : (if decide ((rd 0 1 (rdN s).1).2 = 1) = true then (1 : Int) else 0) = (rd 0 1 (rdN s).1).2 := by
      by_cases hc : (rd 0 1 (rdN s).1).2 = 1
      · simp [hc]
      · simp [hc]; omega
    rw [e, encs_two, List.append_assoc, ← h2, ← g2]
theorem enc_spo : Enc rdSpo encSpo (fun s => i64 s.addr ∧ i64 s.at_) where
  A x rest h := by
    have e : encSpo x ++ rest = encN x.addr ++ (encN x.at_ ++ rest) := by unfold encSpo; rw [encs_two, List.append_assoc]
    unfold rdSpo
    rw [e, enc_n.A _ _ h.1]
    simp only
    rw [enc_n.A _ _ h.2]
  B s h8 h := by
    obtain ⟨h1, h2, h3⟩ := enc_n.B (rdN s).1 (@rd_by _ _ s h8) h
    obtain ⟨g1, g2, g3⟩ := enc_n.B s h8 h1
    refine ⟨g1, ?_, g3, h3⟩
    show s.b = encs [(rdN s).2, (rdN (rdN s).1).2] ++ (rdN (rdN s).1).1.b
    rw [encs_two, List.append_assoc, ← h2, ← g2]
theorem flg_of {n : Int} (h : 0 ≤ n ∧ n ≤ 3) : flg (decide (n % 2 = 1)) (decide (2 ≤ n)) = n := by
  unfold flg
  by_cases h1 : n % 2 = 1 <;> by_cases h2 : 2 ≤ n <;> simp [h1, h2] <;> omega
theorem of_flg (a b : Bool) : (0 ≤ flg a b ∧ flg a b ≤ 3) ∧ decide (flg a b % 2 = 1) = a ∧ decide (2 ≤ flg a b) = b := by
  cases a <;> cases b <;> decide
theorem nm_bstr {b : List Int} (h : by8 b) : nmB (bstr b) = b := by
  rw [bstr_eq]
  unfold nmB
  simp only [List.map_map]
  conv => rhs; rw [← List.map_id b]
  refine List.map_congr_left fun x hx => ?_
  have := h x hx
  have e : (u8f x).toNat = x.toNat := by
    show x.toNat % 256 = _
    omega
  simp only [Function.comp_apply, id_eq, e]
  omega
theorem bstr_nm (s : ByteArray) : bstr (nmB s) = s := by
  rw [bstr_eq]
  unfold nmB
  obtain ⟨d⟩ := s
  congr 1
  apply Array.ext'
  simp only [List.map_map]
  conv => rhs; rw [← List.map_id d.toList]
  refine List.map_congr_left fun x _ => ?_
  simp only [Function.comp_apply, id_eq]
  unfold u8f
  simp
theorem enc_wor : Enc rdWor encWor (fun s => i64 s.code ∧ (nmB s.name).length ≤ 65536) where
  A x rest h := by
    have e : encWor x ++ rest = txt (nmB x.name) ++ (encN x.code ++ (encN (flg x.now x.hid) ++ rest)) := by unfold encWor; rw [encs_two]; simp
    obtain ⟨f1, f2, f3⟩ := of_flg x.now x.hid
    unfold rdWor
    rw [e, enc_t.A _ _ ⟨h.2, by8_nmB _⟩]
    simp only
    rw [enc_n.A _ _ h.1]
    simp only
    rw [(enc_r 3 (by omega)).A _ _ f1, bstr_nm]
    simp only [f2, f3]
  B s h8 h := by
    have hT8 : (rdT 65536 s).1.e = 0 → by8 (rdT 65536 s).1.b := fun he => by
      obtain ⟨_, g2, _⟩ := enc_t.B s h8 he
      exact by8_right h8 g2
    have hT8' : by8 (rdT 65536 s).1.b := by
      unfold rdT
      have := @rd_by 0 65536 s h8
      split
      · exact this
      · split
        · exact this
        · exact fun x hx => this x (List.mem_of_mem_drop hx)
    obtain ⟨h1, h2, h3⟩ := (enc_r 3 (by omega)).B (rdN (rdT 65536 s).1).1 (@rd_by _ _ _ hT8') h
    obtain ⟨g1, g2, g3⟩ := enc_n.B (rdT 65536 s).1 hT8' h1
    obtain ⟨k1, k2, k3, k4⟩ := enc_t.B s h8 g1
    refine ⟨k1, ?_, g3, ?_⟩
    · show s.b = txt (nmB (bstr (rdT 65536 s).2)) ++ encs [(rdN (rdT 65536 s).1).2, flg (decide ((rd 0 3 (rdN (rdT 65536 s).1).1).2 % 2 = 1)) (decide (2 ≤ (rd 0 3 (rdN (rdT 65536 s).1).1).2))] ++ (rd 0 3 (rdN (rdT 65536 s).1).1).1.b
      rw [nm_bstr k4, flg_of h3, encs_two, List.append_assoc, List.append_assoc, ← h2, ← g2, ← k2]
    · show (nmB (bstr (rdT 65536 s).2)).length ≤ _
      rw [nm_bstr k4]; exact k3
theorem encL_cons {α : Type} (f : α → List Int) (a : α) (l : List α) : encL f (a :: l) = f a ++ encL f l := by simp [encL, cat]
theorem refK_A {α : Type} {f : Rs → Rs × α} {enc : α → List Int} {P : α → Prop} (h : Enc f enc P) : ∀ (l : List α) (rest : List Int) (acc : List α), (∀ x ∈ l, P x) → refK f l.length ⟨encL enc l ++ rest, 0⟩ acc = (⟨rest, 0⟩, acc ++ l)
  | [], rest, acc, _ => by simp [refK, encL]
  | a :: l, rest, acc, hp => by
    rw [List.length_cons, refK, if_neg (by simp), encL_cons, List.append_assoc, h.A _ _ (hp a (by simp))]
    simp only
    rw [refK_A h l rest (acc ++ [a]) fun x hx => hp x (by simp [hx])]
    simp
theorem refK_B {α : Type} {f : Rs → Rs × α} {enc : α → List Int} {P : α → Prop} (h : Enc f enc P) : ∀ (k : Nat) (s : Rs) (acc : List α), by8 s.b → (refK f k s acc).1.e = 0 →
    s.e = 0 ∧ ∃ l, (refK f k s acc).2 = acc ++ l ∧ l.length = k ∧ s.b = encL enc l ++ (refK f k s acc).1.b ∧ ∀ x ∈ l, P x
  | 0, s, acc, _, he => ⟨he, [], by simp [refK], rfl, by simp [refK, encL], by simp⟩
  | k + 1, s, acc, h8, he => by
    unfold refK at he ⊢
    split at he
    · rename_i c; exact absurd he c
    · rename_i c
      rw [if_neg c]
      have hse : s.e = 0 := by omega
      have hfe : (f s).1.e = 0 := by
        rcases Classical.em ((f s).1.e = 0) with hh | hh
        · exact hh
        · exfalso
          have : ∀ (k : Nat) (s' : Rs) (acc : List α), s'.e ≠ 0 → (refK f k s' acc).1.e ≠ 0 := by
            intro k
            cases k with
            | zero => intro s' acc h; exact h
            | succ k => intro s' acc h; rw [refK, if_pos h]; exact h
          exact this k _ _ hh he
      obtain ⟨h1, h2, h3⟩ := h.B s h8 hfe
      obtain ⟨_, l, g1, g2, g3, g4⟩ := refK_B h k (f s).1 (acc ++ [(f s).2]) (by8_right h8 h2) he
      refine ⟨hse, (f s).2 :: l, by rw [g1]; simp, by simp [g2], ?_, ?_⟩
      · rw [encL_cons, List.append_assoc, ← g3, ← h2]
      · intro x hx
        rcases List.mem_cons.1 hx with rfl | hx
        · exact h3
        · exact g4 x hx
theorem enc_l {α : Type} {f : Rs → Rs × α} {enc : α → List Int} {P : α → Prop} (h : Enc f enc P) : Enc (refRd f) (fun l => encN l.length ++ encL enc l) (fun l => (∀ x ∈ l, P x) ∧ l.length ≤ 65536) where
  A l rest hp := by
    unfold refRd
    rw [List.append_assoc, (enc_r 65536 (by omega)).A (l.length : Int) (encL enc l ++ rest) (by omega)]
    simp only
    rw [Int.toNat_natCast, refK_A h l rest [] hp.1, List.nil_append]
  B s h8 he := by
    have hb := @rd_by 0 65536 s h8
    obtain ⟨h1, l, g1, g2, g3, g4⟩ := refK_B h (rd 0 65536 s).2.toNat (rd 0 65536 s).1 [] hb he
    obtain ⟨k1, k2, k3⟩ := (enc_r 65536 (by omega)).B s h8 h1
    have hl : (refRd f s).2 = l := by show (refK f _ _ []).2 = l; rw [g1, List.nil_append]
    refine ⟨k1, ?_, ?_⟩
    · rw [hl, g2, show (((rd 0 65536 s).2.toNat : Nat) : Int) = (rd 0 65536 s).2 from by omega, List.append_assoc]
      rw [k2]
      exact congrArg (encN (rd 0 65536 s).2 ++ ·) g3
    · rw [hl]; exact ⟨g4, by omega⟩
end Fz.D
set_option maxRecDepth 100000
namespace Fz.D
open Go
theorem rdT_by8 {m : Int} {s : Rs} (h8 : by8 s.b) : by8 (rdT m s).1.b := by
  unfold rdT
  have := @rd_by 0 m s h8
  split
  · exact this
  · split
    · exact this
    · exact fun x hx => this x (List.mem_of_mem_drop hx)
theorem refKK_by {α : Type} {f : Rs → Rs × α} (hf : ∀ s, by8 s.b → by8 (f s).1.b) : ∀ (k : Nat) (s : Rs) (acc : List α), by8 s.b → by8 (refK f k s acc).1.b
  | 0, s, acc, h => h
  | k + 1, s, acc, h => by
    unfold refK
    split
    · exact h
    · exact refKK_by hf k _ _ (hf s h)
theorem refK_by {α : Type} {f : Rs → Rs × α} (hf : ∀ s, by8 s.b → by8 (f s).1.b) {s : Rs} (h : by8 s.b) : by8 (refRd f s).1.b := refKK_by hf _ _ _ (@rd_by 0 65536 s h)
theorem encD_parts (d : De) : encD d = (encN d.mem.length ++ encL encRun d.mem) ++ ((encN d.dk) ++ ((encN d.dt.length ++ encL encN d.dt) ++ ((encN d.rk) ++ ((encN d.rt.length ++ encL encSlo d.rt) ++ ((encN d.ck) ++ ((encN d.ct.length ++ encL encN d.ct) ++ ((encN d.wk) ++ ((encN d.wt.length ++ encL encWor d.wt) ++ ((encN d.sk) ++ ((encN d.st.length ++ encL encSpo d.st) ++ ((encN d.out) ++ ((encN d.r0) ++ ((encN d.r1) ++ ((encN d.r2) ++ ((encN d.r3) ++ ((encN d.r4) ++ ((encN d.r5) ++ (encN (flg d.comp d.halt))))))))))))))))))) := by
  unfold encD
  simp only [encs, encL, cat, List.map_cons, List.map_nil, List.flatten_cons, List.flatten_nil, List.append_nil, List.append_assoc]
structure TkOk (d : De) : Prop where
  mem : (∀ r ∈ d.mem, i64 r.at_ ∧ r.b.length ≤ 65536 ∧ by8 r.b) ∧ d.mem.length ≤ 65536
  dk : i64 d.dk
  dt : (∀ n ∈ d.dt, i64 n) ∧ d.dt.length ≤ 65536
  rk : i64 d.rk
  rt : (∀ s ∈ d.rt, i64 s.v) ∧ d.rt.length ≤ 65536
  ck : i64 d.ck
  ct : (∀ n ∈ d.ct, i64 n) ∧ d.ct.length ≤ 65536
  wk : i64 d.wk
  wt : (∀ s ∈ d.wt, i64 s.code ∧ (nmB s.name).length ≤ 65536) ∧ d.wt.length ≤ 65536
  sk : i64 d.sk
  st : (∀ s ∈ d.st, i64 s.addr ∧ i64 s.at_) ∧ d.st.length ≤ 65536
  out : i64 d.out
  r0 : i64 d.r0
  r1 : i64 d.r1
  r2 : i64 d.r2
  r3 : i64 d.r3
  r4 : i64 d.r4
  r5 : i64 d.r5
theorem tr_B {b : List Int} (hby : by8 b) (t : Tr b) (he : t.s19.e = 0) : b = encD t.d ++ t.s19.b ∧ TkOk t.d := by
  obtain ⟨s1, mem, s2, dk, s3, dt, s4, rk, s5, rt, s6, ck, s7, ct, s8, wk, s9, wt, s10, sk, s11, st, s12, out, s13, r0, s14, r1, s15, r2, s16, r3, s17, r4, s18, r5, s19, fl, h1, h2, h3, h4, h5, h6, h7, h8, h9, h10, h11, h12, h13, h14, h15, h16, h17, h18, h19⟩ := t
  have he : s19.e = 0 := he
  have q0 : by8 b := hby
  have q1 : by8 s1.b := by have := refK_by (f := rdRun) (fun s h => (rdT_by8 (rd_by h) : by8 (rdRun s).1.b)) (s := ⟨b, 0⟩) q0; rw [h1] at this; exact this
  have q2 : by8 s2.b := by have := @rd_by (-9223372036854775808) 9223372036854775807 s1 q1; rw [show rd (-9223372036854775808) 9223372036854775807 s1 = (s2, dk) from h2] at this; exact this
  have q3 : by8 s3.b := by have := refK_by (f := rdN) (fun s h => rd_by h) (s := s2) q2; rw [h3] at this; exact this
  have q4 : by8 s4.b := by have := @rd_by (-9223372036854775808) 9223372036854775807 s3 q3; rw [show rd (-9223372036854775808) 9223372036854775807 s3 = (s4, rk) from h4] at this; exact this
  have q5 : by8 s5.b := by have := refK_by (f := rdSlo) (fun s h => (rd_by (rd_by h) : by8 (rdSlo s).1.b)) (s := s4) q4; rw [h5] at this; exact this
  have q6 : by8 s6.b := by have := @rd_by (-9223372036854775808) 9223372036854775807 s5 q5; rw [show rd (-9223372036854775808) 9223372036854775807 s5 = (s6, ck) from h6] at this; exact this
  have q7 : by8 s7.b := by have := refK_by (f := rdN) (fun s h => rd_by h) (s := s6) q6; rw [h7] at this; exact this
  have q8 : by8 s8.b := by have := @rd_by (-9223372036854775808) 9223372036854775807 s7 q7; rw [show rd (-9223372036854775808) 9223372036854775807 s7 = (s8, wk) from h8] at this; exact this
  have q9 : by8 s9.b := by have := refK_by (f := rdWor) (fun s h => (rd_by (rd_by (rdT_by8 h)) : by8 (rdWor s).1.b)) (s := s8) q8; rw [h9] at this; exact this
  have q10 : by8 s10.b := by have := @rd_by (-9223372036854775808) 9223372036854775807 s9 q9; rw [show rd (-9223372036854775808) 9223372036854775807 s9 = (s10, sk) from h10] at this; exact this
  have q11 : by8 s11.b := by have := refK_by (f := rdSpo) (fun s h => (rd_by (rd_by h) : by8 (rdSpo s).1.b)) (s := s10) q10; rw [h11] at this; exact this
  have q12 : by8 s12.b := by have := @rd_by (-9223372036854775808) 9223372036854775807 s11 q11; rw [show rd (-9223372036854775808) 9223372036854775807 s11 = (s12, out) from h12] at this; exact this
  have q13 : by8 s13.b := by have := @rd_by (-9223372036854775808) 9223372036854775807 s12 q12; rw [show rd (-9223372036854775808) 9223372036854775807 s12 = (s13, r0) from h13] at this; exact this
  have q14 : by8 s14.b := by have := @rd_by (-9223372036854775808) 9223372036854775807 s13 q13; rw [show rd (-9223372036854775808) 9223372036854775807 s13 = (s14, r1) from h14] at this; exact this
  have q15 : by8 s15.b := by have := @rd_by (-9223372036854775808) 9223372036854775807 s14 q14; rw [show rd (-9223372036854775808) 9223372036854775807 s14 = (s15, r2) from h15] at this; exact this
  have q16 : by8 s16.b := by have := @rd_by (-9223372036854775808) 9223372036854775807 s15 q15; rw [show rd (-9223372036854775808) 9223372036854775807 s15 = (s16, r3) from h16] at this; exact this
  have q17 : by8 s17.b := by have := @rd_by (-9223372036854775808) 9223372036854775807 s16 q16; rw [show rd (-9223372036854775808) 9223372036854775807 s16 = (s17, r4) from h17] at this; exact this
  have q18 : by8 s18.b := by have := @rd_by (-9223372036854775808) 9223372036854775807 s17 q17; rw [show rd (-9223372036854775808) 9223372036854775807 s17 = (s18, r5) from h18] at this; exact this
  have q19 : by8 s19.b := by have := @rd_by 0 3 s18 q18; rw [show rd 0 3 s18 = (s19, fl) from h19] at this; exact this
  have b19 := (enc_r 3 (by omega)).B s18 q18 (by rw [h19]; exact he)
  rw [h19] at b19
  obtain ⟨e19, x19, p19⟩ := b19
  have b18 := enc_n.B s17 q17 (by rw [h18]; exact e19)
  rw [h18] at b18
  obtain ⟨e18, x18, p18⟩ := b18
  have b17 := enc_n.B s16 q16 (by rw [h17]; exact e18)
  rw [h17] at b17
  obtain ⟨e17, x17, p17⟩ := b17
  have b16 := enc_n.B s15 q15 (by rw [h16]; exact e17)
  rw [h16] at b16
  obtain ⟨e16, x16, p16⟩ := b16
  have b15 := enc_n.B s14 q14 (by rw [h15]; exact e16)
  rw [h15] at b15
  obtain ⟨e15, x15, p15⟩ := b15
  have b14 := enc_n.B s13 q13 (by rw [h14]; exact e15)
  rw [h14] at b14
  obtain ⟨e14, x14, p14⟩ := b14
  have b13 := enc_n.B s12 q12 (by rw [h13]; exact e14)
  rw [h13] at b13
  obtain ⟨e13, x13, p13⟩ := b13
  have b12 := enc_n.B s11 q11 (by rw [h12]; exact e13)
  rw [h12] at b12
  obtain ⟨e12, x12, p12⟩ := b12
  have b11 := (enc_l enc_spo).B s10 q10 (by rw [h11]; exact e12)
  rw [h11] at b11
  obtain ⟨e11, x11, p11⟩ := b11
  have b10 := enc_n.B s9 q9 (by rw [h10]; exact e11)
  rw [h10] at b10
  obtain ⟨e10, x10, p10⟩ := b10
  have b9 := (enc_l enc_wor).B s8 q8 (by rw [h9]; exact e10)
  rw [h9] at b9
  obtain ⟨e9, x9, p9⟩ := b9
  have b8 := enc_n.B s7 q7 (by rw [h8]; exact e9)
  rw [h8] at b8
  obtain ⟨e8, x8, p8⟩ := b8
  have b7 := (enc_l enc_n).B s6 q6 (by rw [h7]; exact e8)
  rw [h7] at b7
  obtain ⟨e7, x7, p7⟩ := b7
  have b6 := enc_n.B s5 q5 (by rw [h6]; exact e7)
  rw [h6] at b6
  obtain ⟨e6, x6, p6⟩ := b6
  have b5 := (enc_l enc_slo).B s4 q4 (by rw [h5]; exact e6)
  rw [h5] at b5
  obtain ⟨e5, x5, p5⟩ := b5
  have b4 := enc_n.B s3 q3 (by rw [h4]; exact e5)
  rw [h4] at b4
  obtain ⟨e4, x4, p4⟩ := b4
  have b3 := (enc_l enc_n).B s2 q2 (by rw [h3]; exact e4)
  rw [h3] at b3
  obtain ⟨e3, x3, p3⟩ := b3
  have b2 := enc_n.B s1 q1 (by rw [h2]; exact e3)
  rw [h2] at b2
  obtain ⟨e2, x2, p2⟩ := b2
  have b1 := (enc_l enc_run).B ⟨b, 0⟩ q0 (by rw [h1]; exact e2)
  rw [h1] at b1
  obtain ⟨e1, x1, p1⟩ := b1
  refine ⟨?_, ⟨p1, p2, p3, p4, p5, p6, p7, p8, p9, p10, p11, p12, p13, p14, p15, p16, p17, p18⟩⟩
  rw [encD_parts]
  simp only [List.append_assoc]
  have z : flg (decide (fl % 2 = 1)) (decide (2 ≤ fl)) = fl := flg_of p19
  show b = _
  simp only [Tr.d, z]
  simp only [List.append_assoc] at x1 x3 x5 x7 x9 x11
  rw [← x19, ← x18, ← x17, ← x16, ← x15, ← x14, ← x13, ← x12, ← x11, ← x10, ← x9, ← x8, ← x7, ← x6, ← x5, ← x4, ← x3, ← x2]
  exact x1
end Fz.D
set_option maxRecDepth 100000
namespace Fz.D
open Go
theorem someK_ref {α : Type} {f : Rs → Rs × α} : ∀ (k : Nat) (s : Rs) (acc : List α), (someK f k s acc).1 = (refK f k s acc).1 ∧ ((refK f k s acc).1.e = 0 → (someK f k s acc).2 = (refK f k s acc).2)
  | 0, s, acc => ⟨rfl, fun _ => rfl⟩
  | k + 1, s, acc => by
    unfold someK refK
    by_cases h : s.e ≠ 0
    · rw [if_pos h, if_pos h]
      exact ⟨rfl, fun h' => absurd h' h⟩
    · rw [if_neg h, if_neg h]
      exact someK_ref k _ _
theorem some_ref {α : Type} (f : Rs → Rs × α) (s : Rs) : (someF f s).1 = (refRd f s).1 ∧ ((refRd f s).1.e = 0 → (someF f s).2 = (refRd f s).2) := someK_ref _ _ _
theorem refK_e {α : Type} {f : Rs → Rs × α} (hf : ∀ s, (f s).1.e = 0 → s.e = 0) : ∀ (k : Nat) (s : Rs) (acc : List α), (refK f k s acc).1.e = 0 → s.e = 0
  | 0, s, acc, h => h
  | k + 1, s, acc, h => by
    unfold refK at h
    split at h
    · exact h
    · exact hf s (refK_e hf k _ _ h)
theorem rd_e {lo hi : Int} {s : Rs} (h : (rd lo hi s).1.e = 0) : s.e = 0 := by
  unfold rd at h
  split at h
  · exact h
  · omega
theorem rdN_e {s : Rs} (h : (rdN s).1.e = 0) : s.e = 0 := rd_e h
theorem rdT_e {m : Int} {s : Rs} (h : (rdT m s).1.e = 0) : s.e = 0 := by
  unfold rdT at h
  split at h
  · exact rd_e h
  · rename_i c
    exact rd_e (show (rd 0 m s).1.e = 0 by omega)
theorem refRd_e {α : Type} {f : Rs → Rs × α} (hf : ∀ s, (f s).1.e = 0 → s.e = 0) {s : Rs} (h : (refRd f s).1.e = 0) : s.e = 0 := rd_e (refK_e hf _ _ _ h)
theorem slo_e (s : Rs) (h : (rdSlo s).1.e = 0) : s.e = 0 := rdN_e (rd_e h)
theorem wor_e (s : Rs) (h : (rdWor s).1.e = 0) : s.e = 0 := rdT_e (rdN_e (rd_e h))
theorem spo_e (s : Rs) (h : (rdSpo s).1.e = 0) : s.e = 0 := rdN_e (rdN_e h)
theorem tk_tr {b : List Int} (t : Tk b) (u : Tr b) : t.s19 = u.s19 ∧ (u.s19.e = 0 → t.d = u.d) := by
  obtain ⟨s1, mem, s2, dk, s3, dt, s4, rk, s5, rt, s6, ck, s7, ct, s8, wk, s9, wt, s10, sk, s11, st, s12, out, s13, r0, s14, r1, s15, r2, s16, r3, s17, r4, s18, r5, s19, fl, h1, h2, h3, h4, h5, h6, h7, h8, h9, h10, h11, h12, h13, h14, h15, h16, h17, h18, h19⟩ := t
  obtain ⟨S1, V1, S2, V2, S3, V3, S4, V4, S5, V5, S6, V6, S7, V7, S8, V8, S9, V9, S10, V10, S11, V11, S12, V12, S13, V13, S14, V14, S15, V15, S16, V16, S17, V17, S18, V18, S19, V19, K1, K2, K3, K4, K5, K6, K7, K8, K9, K10, K11, K12, K13, K14, K15, K16, K17, K18, K19⟩ := u
  have m1 := some_ref rdRun ⟨b, 0⟩
  rw [h1, K1] at m1
  obtain ⟨i1, j1⟩ := m1
  simp only at i1 j1
  subst i1
  obtain ⟨i2, j2⟩ := Prod.mk.inj (h2.symm.trans K2)
  subst i2
  subst j2
  have m3 := some_ref rdN s2
  rw [h3, K3] at m3
  obtain ⟨i3, j3⟩ := m3
  simp only at i3 j3
  subst i3
  obtain ⟨i4, j4⟩ := Prod.mk.inj (h4.symm.trans K4)
  subst i4
  subst j4
  have m5 := some_ref rdSlo s4
  rw [h5, K5] at m5
  obtain ⟨i5, j5⟩ := m5
  simp only at i5 j5
  subst i5
  obtain ⟨i6, j6⟩ := Prod.mk.inj (h6.symm.trans K6)
  subst i6
  subst j6
  have m7 := some_ref rdN s6
  rw [h7, K7] at m7
  obtain ⟨i7, j7⟩ := m7
  simp only at i7 j7
  subst i7
  obtain ⟨i8, j8⟩ := Prod.mk.inj (h8.symm.trans K8)
  subst i8
  subst j8
  have m9 := some_ref rdWor s8
  rw [h9, K9] at m9
  obtain ⟨i9, j9⟩ := m9
  simp only at i9 j9
  subst i9
  obtain ⟨i10, j10⟩ := Prod.mk.inj (h10.symm.trans K10)
  subst i10
  subst j10
  have m11 := some_ref rdSpo s10
  rw [h11, K11] at m11
  obtain ⟨i11, j11⟩ := m11
  simp only at i11 j11
  subst i11
  obtain ⟨i12, j12⟩ := Prod.mk.inj (h12.symm.trans K12)
  subst i12
  subst j12
  obtain ⟨i13, j13⟩ := Prod.mk.inj (h13.symm.trans K13)
  subst i13
  subst j13
  obtain ⟨i14, j14⟩ := Prod.mk.inj (h14.symm.trans K14)
  subst i14
  subst j14
  obtain ⟨i15, j15⟩ := Prod.mk.inj (h15.symm.trans K15)
  subst i15
  subst j15
  obtain ⟨i16, j16⟩ := Prod.mk.inj (h16.symm.trans K16)
  subst i16
  subst j16
  obtain ⟨i17, j17⟩ := Prod.mk.inj (h17.symm.trans K17)
  subst i17
  subst j17
  obtain ⟨i18, j18⟩ := Prod.mk.inj (h18.symm.trans K18)
  subst i18
  subst j18
  obtain ⟨i19, j19⟩ := Prod.mk.inj (h19.symm.trans K19)
  subst i19
  subst j19
  refine ⟨rfl, fun he => ?_⟩
  have he : s19.e = 0 := he
  have E18 : s18.e = 0 := rd_e (lo := 0) (hi := 3) (by rw [h19]; exact he)
  have E17 : s17.e = 0 := rdN_e (by rw [h18]; exact E18)
  have E16 : s16.e = 0 := rdN_e (by rw [h17]; exact E17)
  have E15 : s15.e = 0 := rdN_e (by rw [h16]; exact E16)
  have E14 : s14.e = 0 := rdN_e (by rw [h15]; exact E15)
  have E13 : s13.e = 0 := rdN_e (by rw [h14]; exact E14)
  have E12 : s12.e = 0 := rdN_e (by rw [h13]; exact E13)
  have E11 : s11.e = 0 := rdN_e (by rw [h12]; exact E12)
  have E10 : s10.e = 0 := refRd_e spo_e (by rw [K11]; exact E11)
  have E9 : s9.e = 0 := rdN_e (by rw [h10]; exact E10)
  have E8 : s8.e = 0 := refRd_e wor_e (by rw [K9]; exact E9)
  have E7 : s7.e = 0 := rdN_e (by rw [h8]; exact E8)
  have E6 : s6.e = 0 := refRd_e (fun _ h => rdN_e h) (by rw [K7]; exact E7)
  have E5 : s5.e = 0 := rdN_e (by rw [h6]; exact E6)
  have E4 : s4.e = 0 := refRd_e slo_e (by rw [K5]; exact E5)
  have E3 : s3.e = 0 := rdN_e (by rw [h4]; exact E4)
  have E2 : s2.e = 0 := refRd_e (fun _ h => rdN_e h) (by rw [K3]; exact E3)
  have E1 : s1.e = 0 := rdN_e (by rw [h2]; exact E2)
  have q1 := j1 E1
  subst q1
  have q3 := j3 E3
  subst q3
  have q5 := j5 E5
  subst q5
  have q7 := j7 E7
  subst q7
  have q9 := j9 E9
  subst q9
  have q11 := j11 E11
  subst q11
  rfl
end Fz.D
set_option maxRecDepth 100000
namespace Fz.D
open Go
end Fz.D
set_option maxRecDepth 100000
namespace Fz.D
open Go
end Fz.D
set_option maxRecDepth 100000
namespace Fz.D
open Go
end Fz.D
set_option maxRecDepth 100000
namespace Fz.D
open Go
theorem equal_s {a b : List Int} (ha : by8 a) (hb : by8 b) : Comes p 14 [byV a, byV b] (.bool (decide (a = b))) := by
  have e : decide (bstr a = bstr b) = decide (a = b) := decide_eq_decide.2 ⟨bstr_inj ha hb, fun h => by rw [h]⟩
  have e1 := all8 ha
  have e2 := all8 hb
  refine Comes_of w14 rfl rfl k14 ?_ ?_ ?_ ?_
  · simp
  · simp
  · simp
  · rw [← e]
    simp -dsimp [w14, wFix_by, isInl, byV, e1, e2, bstr_fold]
def npg (b : List Int) : Nat := (b.length + 63) / 64
theorem pages_s {b : List Int} (hb : b.length ≤ 100000) : Comes p 22 [byV b] (.int .i64 (npg b)) := by
  have w1 : IntKind.i64.wrap ((b.length : Int) + 63) = b.length + 63 := Fz.w64 (by omega) (by omega)
  have w2 : IntKind.i64.wrap (Int.tdiv ((b.length : Int) + 63) 64) = npg b := by
    rw [Int.tdiv_eq_ediv_of_nonneg (by omega), Fz.w64 (by omega) (by omega)]; unfold npg; omega
  refine Comes_of w22 rfl rfl k22 ?_ ?_ ?_ ?_
  · simp
  · simp
  · simp
  · simp -dsimp [w22, wFix_by, isInl, byV, w1, w2]
def pg (b : List Int) (n : Nat) : List Int := (b.drop (64 * n)).take 64
def rest (s : St) : St := { s with mem := [], out := [] }
theorem page_s {b : List Int} {n : Nat} (hb : b.length ≤ 100000) (hn : 64 * n ≤ b.length) : Comes p 23 [byV b, .int .i64 n] (byV (pg b n)) := by
  obtain ⟨q, hq⟩ : ∃ q, q = 64 * n := ⟨_, rfl⟩
  have w1 : IntKind.i64.wrap (64 * (n : Int)) = (q : Int) := by rw [Fz.w64 (by omega) (by omega)]; omega
  have w2 : IntKind.i64.wrap ((q : Int) + 64) = ((q + 64 : Nat) : Int) := by rw [Fz.w64 (by omega) (by omega)]; omega
  refine Comes_of w23 rfl rfl k23 ?_ ?_ ?_ ?_
  · simp
  · simp
  · simp
  · simp -dsimp [w23, wFix_by, isInl, byV, w1, w2, pg]
    have hm : (if (b.length : Int) < (q : Int) + 64 then (b.length : Int) else (q : Int) + 64) = ((min (q + 64) b.length : Nat) : Int) := by split <;> omega
    rw [hm, Int.toNat_natCast]
    refine ⟨by omega, ⟨by omega, by omega⟩, ?_⟩
    have e : List.take (min (q + 64) b.length - q) (List.drop q (List.map (V.int .u8) b)) = ((b.drop (64 * n)).take 64).map (V.int .u8) := by
      rw [← hq, List.map_take, List.map_drop]
      by_cases c : q + 64 ≤ b.length
      · rw [show min (q + 64) b.length - q = 64 from by omega]
      · rw [List.take_of_length_le (by simp; omega), List.take_of_length_le (by simp; omega)]
    have e2 : List.take 64 (List.drop (64 * n) (List.map (V.int .u8) b)) = ((b.drop (64 * n)).take 64).map (V.int .u8) := by rw [List.map_take, List.map_drop]
    rw [e, e2]
    generalize (b.drop (64 * n)).take 64 = L
    simp
end Fz.D
set_option maxRecDepth 100000
namespace Fz.D
open Go
def Acb (b : Nat) (J : List Ob) (v : V) (l : List Int) : Prop :=
  (l = [] ∧ v = .list [] true) ∨ ∃ (j : Nat) (bs : List Int), v = .own (b + j) 0 l.length 1 ∧ J[j]? = some (.live (bs.map (V.int .u8))) ∧ l.length ≤ bs.length ∧ bs.take l.length = l
theorem acb_nil {b : Nat} {J : List Ob} : Acb b J (.list [] true) [] := .inl ⟨rfl, rfl⟩
theorem acb_ac {b : Nat} {J : List Ob} {v : V} {l : List Int} (h : Acb b J v l) : Ac 1 b J v (l.map (V.int .u8)) := by
  refine ⟨by simp, by decide, ?_⟩
  rcases h with ⟨rfl, h⟩ | ⟨j, bs, rfl, h1, h2, h3⟩
  · exact .inl ⟨rfl, h⟩
  · exact .inr ⟨j, _, by simp, h1, by simpa using h2, by rw [flat_int, ← List.map_take]; simp [h3]⟩
theorem acb_ext {b : Nat} {J : List Ob} {v : V} {l : List Int} (h : Acb b J v l) (G : List Ob) : Acb b (J ++ G) v l := by
  rcases h with h | ⟨j, bs, h1, h2, h3⟩
  · exact .inl h
  · exact .inr ⟨j, bs, h1, by rw [List.getElem?_append_left (List.getElem?_eq_some_iff.1 h2).1]; exact h2, h3⟩
theorem app_acb (b : Nat) {H : List Ob} {v : V} {l m : List Int} {K : V → List Ob → Prop} (ha : Acb b (H.drop b) v l) (hb : b ≤ H.length) (hc : capOk (l.length + m.length) 1 = true)
    (hK : ∀ v' J', Acb b J' v' (l ++ m) → K v' (H.take b ++ J')) : xAppend H 1 1 v (m.map (V.int .u8)) m.length K := by
  by_cases h0 : m.length = 0
  · have hm : m = [] := List.length_eq_zero_iff.1 h0
    subst hm
    have hk := hK v (H.drop b) (by simpa using ha)
    rw [List.take_append_drop] at hk
    rcases ha with ⟨rfl, rfl⟩ | ⟨j, bs, rfl, h4, _⟩
    · rw [wAppend_list, if_pos (by rfl)]; exact hk
    · rw [wAppend_own, if_pos (by rfl)]; exact ⟨rfl, hk⟩
  · rcases ha with ⟨rfl, rfl⟩ | ⟨j, bs, rfl, h4, h5, h6⟩
    · rw [wAppend_list, if_neg h0]
      refine ⟨⟨rfl, rfl, by simp, by simpa using hc⟩, ?_⟩
      have := hK (.own H.length 0 (0 + m.length) 1) (H.drop b ++ [.live (m.map (V.int .u8))]) (.inr ⟨(H.drop b).length, m, ?_, by simp, by simp, by simp⟩)
      · rw [← List.append_assoc, List.take_append_drop] at this
        exact this
      · rw [List.length_drop, show b + (H.length - b) = H.length from by omega, List.nil_append, Nat.zero_add]
    · rw [wAppend_own, if_neg h0]
      refine ⟨rfl, ?_⟩
      rw [List.getElem?_drop] at h4
      refine ⟨bs.map (V.int .u8), h4, ⟨rfl, by simpa using h5, by simp [storable], hc⟩, ?_⟩
      have e1 : (bs.map (V.int .u8)).take (l.length * 1) = l.map (V.int .u8) := by rw [← List.map_take, Nat.mul_one, h6]
      show K _ _
      rw [e1, ← List.map_append]
      have := hK (.own H.length 0 (l.length + m.length) 1) ((H.drop b).set j .dead ++ [.live ((l ++ m).map (V.int .u8))]) (.inr ⟨(H.drop b).length, l ++ m, ?_, ?_, by simp, List.take_of_length_le (by simp)⟩)
      · rw [← List.append_assoc] at this
        have e2 : H.take b ++ (H.drop b).set j .dead = H.set (b + j) .dead := by
          conv => rhs; rw [← List.take_append_drop b H]
          rw [List.set_append_right _ _ (by rw [List.length_take]; omega), List.length_take]
          congr 2
          omega
        rw [e2] at this
        exact this
      · rw [List.length_drop, show b + (H.length - b) = H.length from by omega, List.length_append]
      · rw [List.getElem?_append_right (by simp)]; simp
theorem acb_back {b n : Nat} {g : Nat → Nat} {J : List Ob} {id len : Nat} {out : List Int} (hg : ∀ j, g (b + j) = n + j) (h : Acb b J (.own id 0 len 1) out) : Acb n (J.map (renOb g)) (.own (g id) 0 len 1) out := by
  rcases h with ⟨_, h3⟩ | ⟨j, bs, h3, h4, h5, h6⟩
  · cases h3
  · cases h3
    exact .inr ⟨j, bs, by rw [hg], by rw [List.getElem?_map, h4]; simp only [Option.map_some, renOb, ren_ints], h5, h6⟩
theorem acb_cases {b : Nat} {J : List Ob} {v : V} {l : List Int} (h : Acb b J v l) : v = .list [] true ∧ l = [] ∨ ∃ j len, v = .own (b + j) 0 len 1 ∧ len = l.length := by
  rcases h with ⟨h3, h4⟩ | ⟨j, cells, h3, _⟩
  · exact .inl ⟨h4, h3⟩
  · exact .inr ⟨j, _, h3, rfl⟩
theorem acb_val {b : Nat} {J : List Ob} {v : V} {l : List Int} (h : Acb b J v l) : cellsOf v = [v] ∧ isAny v = false ∧ storable v = true := by
  rcases h with ⟨_, rfl⟩ | ⟨j, bs, rfl, _⟩ <;> exact ⟨rfl, rfl, rfl⟩
theorem acb_shift {b n : Nat} {T J : List Ob} {v : V} {l : List Int} (h : Acb n J v l) (hn : n = b + T.length) : Acb b (T ++ J) v l := by
  rcases h with h | ⟨j, bs, h1, h2, h3⟩
  · exact .inl h
  · exact .inr ⟨T.length + j, bs, by rw [h1, hn, Nat.add_assoc], by rw [List.getElem?_append_right (by omega), Nat.add_sub_cancel_left]; exact h2, h3⟩
def El (H : List Ob) (v : V) (l : List Int) : Prop :=
  (∃ c, v = .list (l.map (V.int .u8)) c) ∨ ∃ id cells, v = .own id 0 l.length 1 ∧ H[id]? = some (.live cells) ∧ l.length ≤ cells.length ∧ cells.take l.length = l.map (V.int .u8)
theorem el_ac {b : Nat} {H : List Ob} {v : V} {l : List Int} (h : Ac 1 b (H.drop b) v (l.map (V.int .u8))) : El H v l := by
  obtain ⟨_, _, h3⟩ := h
  rcases h3 with ⟨h3, h4⟩ | ⟨j, cells, h3, h4, h5, h6⟩
  · have : l = [] := by simpa using h3
    subst this
    exact .inl ⟨true, h4⟩
  · rw [List.getElem?_drop] at h4
    rw [flat_int] at h6
    exact .inr ⟨b + j, cells, by simpa using h3, h4, by simpa using h5, by simpa using h6⟩
theorem wLive_is {H : List Ob} {id : Nat} {l : List V} {K : List V → Prop} (h : H[id]? = some (.live l)) : wLive H id K = K l := by
  refine propext ⟨?_, fun k => ⟨l, .inl h, k⟩⟩
  rintro ⟨l', h1, h2⟩
  rw [h] at h1
  rcases h1 with h1 | h1
  · cases h1; exact h2
  · cases h1
theorem el_acb {b : Nat} {H : List Ob} {v : V} {l : List Int} (h : Acb b (H.drop b) v l) : El H v l := el_ac (acb_ac h)
end Fz.D
set_option maxRecDepth 100000
namespace Fz.D
open Go
abbrev Lm (i : Nat) : Ob := .loop 310 [5] [.ptr i 0] .ready
theorem yldA_s {B : Ob} {v : V} {n : Nat} {P : List Int} {ps : List (List Int)} {T : List Ob} {Q : CR → List Ob → Prop} (hlen : ps.length ≤ 1000000) (ha : Acc 1 3 T v (ps.map byT))
    (hq : ∀ v' T', Acc 1 3 T' v' ((ps ++ [P]).map byT) → Q (.ret (.bool true)) (Lm 2 :: B :: .live [v'] :: T')) :
    WCall p YF [.yld 0, .int .i64 n, byT P] (Lm 2 :: B :: .live [v] :: T) Q := by
  have h0 : refsL [.yld 0, .int .i64 n, byT P] = [0] := by
    rw [refsL, refsL, refsL, ground_refs _ (byT.gd _)]; simp [refs, refsL]
  have bp : bd310.ps = [18, 19] := rfl
  have i2 : ∀ l, List.idxOf 2 (0 :: 2 :: l) = 1 := fun _ => rfl
  have rt : ∀ g P, ren g (byT P) = byT P := fun g P => ground_ren g _ (byT.gd _)
  have rf : ∀ P, refs (byT P) = [] := fun P => ground_refs _ (byT.gd _)
  have uT : ∀ l : List (List Int), uni 1 (l.map byT) = true := fun l => uni_map fun _ => rfl
  have fT : ∀ l : List (List Int), flat (l.map byT) = l.map byT := fun l => flat_one fun _ => rfl
  have gT : ∀ l : List (List Int), groundL (l.map byT) = true := fun l => by simp
  obtain ⟨u1, u2, u3⟩ := ha
  rcases u3 with ⟨u3, rfl⟩ | ⟨j, rfl, hj⟩
  · have hre1 : reach (Lm 2 :: B :: .live [.list [] true] :: T) 1000 (refsL [.yld 0, .int .i64 n, byT P]) [] = some [0, 2] := by
      rw [h0]
      show reach _ (997 + 1 + 1 + 1) [0] [] = _
      simp [reach, refsOb, refsL, refs]
    refine WCall_inl rfl hre1 ?_
    simp -dsimp [renL, ren, renOb, i2, rt]
    refine WFun_round ca310 cb310 (k := 310) rfl rfl rfl rfl rfl ka310 kb310 ?_
    simp -dsimp [ca310, cb310, setPs, envT, assignQ, bp, i2, roundQ, fillV, splice, wOpt, chunk]
    have o0 : ps = [] := by simpa using u3
    subst o0
    have k0 : backK [0, 2] (T.length + 1 + 1 + 1) 0 = 0 := rfl
    have k1 : backK [0, 2] (T.length + 1 + 1 + 1) 1 = 2 := rfl
    have k3 : backK [0, 2] (T.length + 1 + 1 + 1) 3 = T.length + 1 + 1 + 1 + 1 := rfl
    refine ⟨by simp [capOk], ?_⟩
    have := hq (.own (T.length + 1 + 1 + 1 + 1) 0 1 1) (T ++ [.live [byT P], .live [byT P]])
      ⟨by simp [uni, byT, cellsOf], by decide, .inr ⟨T.length + 1, by simp; omega, by simp [flat, cellsOf, byT]⟩⟩
    simp [backH, setAll, renOb, ren, renL, renR, crV, refs, refsL, refsOb, k0, k1, k3, rt, rf]
    simpa using this
  · have hjl : j < T.length := (List.getElem?_eq_some_iff.1 hj).1
    rw [fT] at hj
    have hj3 : (Lm 2 :: B :: .live [.own (3 + j) 0 (ps.map byT).length 1] :: T)[3 + j]? = some (.live (ps.map byT)) := by
      rw [show 3 + j = j + 1 + 1 + 1 from by omega]; simpa using hj
    have hre1 : reach (Lm 2 :: B :: .live [.own (3 + j) 0 (ps.map byT).length 1] :: T) 1000 (refsL [.yld 0, .int .i64 n, byT P]) [] = some [0, 2, 3 + j] := by
      rw [h0]
      refine (reach_go (k := 999) rfl rfl).trans ?_
      refine (reach_go (k := 998) (by rfl) rfl).trans ?_
      simp only [refsOb, refsL, refs, List.nil_append, List.cons_append, List.append_nil]
      refine (reach_go (k := 997) (by simp; omega) hj3).trans ?_
      simp only [refsOb, groundL_refs _ (gT ps), List.append_nil, List.nil_append]
      exact reach_end (k := 996)
    have i3 : List.idxOf (3 + j) [0, 2, 3 + j] = 2 := by
      have e0 : (0 == 3 + j) = false := by rw [beq_eq_false_iff_ne]; omega
      have e3 : (2 == 3 + j) = false := by rw [beq_eq_false_iff_ne]; omega
      simp [List.idxOf_cons, e0, e3]
    have hj5 : (Lm 2 :: B :: .live [.own (3 + j) 0 ps.length 1] :: T)[3 + j]?.getD .dead = .live (ps.map byT) := by
      rw [show ps.length = (ps.map byT).length from by simp, hj3]; rfl
    have rG : ∀ g, renL g (ps.map byT) = ps.map byT := fun g => groundL_ren g _ (gT ps)
    refine WCall_inl rfl hre1 ?_
    simp -dsimp [renL, ren, renOb, i2, i3, hj5, rt]
    simp -dsimp [renL, ren, renOb, rG]
    refine WFun_round ca310 cb310 (k := 310) rfl rfl rfl rfl rfl ka310 kb310 ?_
    simp -dsimp [ca310, cb310, setPs, envT, assignQ, bp, i2, i3, roundQ, fillV, splice, wOpt, chunk]
    have k0 : backK [0, 2, 3 + j] (T.length + 1 + 1 + 1) 0 = 0 := rfl
    have k1 : backK [0, 2, 3 + j] (T.length + 1 + 1 + 1) 1 = 2 := rfl
    have k4 : backK [0, 2, 3 + j] (T.length + 1 + 1 + 1) 4 = T.length + 1 + 1 + 1 + 1 := rfl
    refine ⟨by simp [capOk]; omega, ?_⟩
    have := hq (.own (T.length + 1 + 1 + 1 + 1) 0 (ps.length + 1) 1) (T.set j .dead ++ [.live [byT P], .live ((ps ++ [P]).map byT)])
      ⟨uT _, by decide, .inr ⟨T.length + 1, by simp; omega, by rw [fT]; simp⟩⟩
    have s3 : ∀ (x : Ob), (Lm 2 :: B :: .live [.own (T.length + 1 + 1 + 1 + 1) 0 (ps.length + 1) 1] :: T).set (3 + j) x = Lm 2 :: B :: .live [.own (T.length + 1 + 1 + 1 + 1) 0 (ps.length + 1) 1] :: T.set j x := fun x => by
      rw [show 3 + j = j + 1 + 1 + 1 from by omega]; rfl
    have f2 : ∀ g, renL g (ps.map byT ++ [byT P]) = ps.map byT ++ [byT P] := fun g => groundL_ren g _ (by simp)
    simp only [List.map_append, List.map_cons, List.map_nil] at this
    simp [-List.append_assoc, backH, setAll, renOb, ren, renL, renR, crV, refs, refsL, refsOb, k0, k1, k4, rt, rf, f2]
    rw [s3]
    exact this
def pgl (b : List Int) (n : Nat) : List (List Int) := (List.range n).map (pg b)
theorem pgl_succ (b : List Int) (n : Nat) : pgl b (n + 1) = pgl b n ++ [pg b n] := by simp [pgl, List.range_succ]
@[simp] theorem pgl_len (b : List Int) (n : Nat) : (pgl b n).length = n := by simp [pgl]
theorem pagesA_s {base : List Int} (hm0 : base.length ≤ 100000) {Q : CR → List Ob → Prop}
    (hq : ∀ v T, Acc 1 3 T v ((pgl base (npg base)).map byT) → Q (.ret (.tuple [])) (Lm 2 :: .live [byV base] :: .live [v] :: T)) :
    WFun p 47 [.yld 0, .ptr 1 0] [Lm 2, .live [byV base], .live [.list [] true]] Q := by
  have hN : npg base ≤ 2000 := by unfold npg; omega
  have hN1 : ∀ n, n < npg base ↔ 64 * n < base.length := fun n => by unfold npg; omega
  refine WFun_of w47 rfl rfl k47 ?_
  simp -dsimp [w47]
  refine xL_by (by kernel_rfl) (fun k e H => ∃ (n : Nat) (v : V) (T : List Ob), n ≤ npg base ∧ k = npg base - n ∧ e 0 = .yld 0 ∧ e 1 = .ptr 1 0 ∧ e 3 = .int .i64 n ∧ H = Lm 2 :: .live [byV base] :: .live [v] :: T ∧ Acc 1 3 T v ((pgl base n).map byT)) (npg base) ?_ ?_
  · exact ⟨0, .list [] true, [], by omega, rfl, rfl, rfl, rfl, rfl, acc_nil (by decide)⟩
  · rintro k e H ⟨n, v, T, hn, hk, h0, h1, h3, rfl, ha⟩
    obtain ⟨q, hq'⟩ : ∃ q, q = 64 * n := ⟨_, rfl⟩
    have w1 : IntKind.i64.wrap ((n : Int) * 64) = (q : Int) := by rw [Fz.w64 (by omega) (by omega)]; omega
    have w2 : IntKind.i64.wrap ((q : Int) + 64) = ((q + 64 : Nat) : Int) := by rw [Fz.w64 (by omega) (by omega)]; omega
    have w3 : IntKind.i64.wrap ((n : Int) + 1) = ((n + 1 : Nat) : Int) := by rw [Fz.w64 (by omega) (by omega)]; omega
    by_cases c1 : n < npg base
    · have c2 := (hN1 n).1 c1
      have c3 : q < base.length := by omega
      obtain ⟨z, hz⟩ : ∃ z, z = min (q + 64) base.length := ⟨_, rfl⟩
      have hm : (if (base.length : Int) < (q : Int) + 64 then (base.length : Int) else (q : Int) + 64) = (z : Int) := by split <;> omega
      simp -dsimp [h0, h1, h3, w1, w2, c3, hm]
      refine ⟨⟨by omega, by omega⟩, ?_⟩
      have e2 : V.list (List.take (z - q) (List.drop q (List.map (V.int .u8) base))) true = byT (pg base n) := by
        unfold byT pg
        rw [← hq', ← List.map_drop, ← List.map_take]
        congr 2
        by_cases c : q + 64 ≤ base.length
        · rw [show z - q = 64 from by omega]
        · rw [List.take_of_length_le (by rw [List.length_drop]; omega), List.take_of_length_le (by rw [List.length_drop]; omega)]
      rw [e2]
      refine yldA_s (by simp; omega) ha fun v' T' ha' => ?_
      simp -dsimp [h0, h1, h3, w3]
      refine ⟨npg base - (n + 1), by omega, n + 1, v', T', by omega, rfl, ?_⟩
      simp -dsimp [h0, h1]
      rw [pgl_succ]
      exact ha'
    · have hnn : n = npg base := by omega
      subst hnn
      have c2 : ¬ q < base.length := by have := hN1 (npg base); omega
      simp -dsimp [h0, h1, h3, w1, c2]
      exact hq v T ha
end Fz.D
set_option maxRecDepth 100000
namespace Fz.D
open Go
def lastIs (out : List Int) (c : Int) : Bool := decide (0 < out.length) && decide (gt out (out.length - 1) = c)
def tkR (many : Nat) : Nat → List Int → List Int → List Int × Int
  | 0, _, _ => ([], 2)
  | k + 1, out, b =>
    if out.length < many then
      if (rd 1 (many - out.length : Nat) ⟨b, 0⟩).1.e ≠ 0 then ([], (rd 1 (many - out.length : Nat) ⟨b, 0⟩).1.e)
      else if (rd 1 (many - out.length : Nat) ⟨b, 0⟩).1.b.length = 0 then ([], 3)
      else if lastIs out (gt (rd 1 (many - out.length : Nat) ⟨b, 0⟩).1.b 0) = true then ([], 2)
      else tkR many k (out ++ List.replicate (rd 1 (many - out.length : Nat) ⟨b, 0⟩).2.toNat (gt (rd 1 (many - out.length : Nat) ⟨b, 0⟩).1.b 0)) ((rd 1 (many - out.length : Nat) ⟨b, 0⟩).1.b.drop 1)
    else if 0 < b.length then ([], 2) else (out, 0)
def takeR (b : List Int) (many : Nat) : List Int × Int := tkR many (many + 1) [] b
theorem first_s {b : List Int} {m : Int} (hb : b.length ≤ 1000000) (h8 : by8 b) (hm : i64 m) : Comes p 108 [byV b, .int .i64 m] (.tuple [.int .i64 (rd 1 m ⟨b, 0⟩).2, .int .i64 (encN (rd 1 m ⟨b, 0⟩).2).length, .int .i64 (rd 1 m ⟨b, 0⟩).1.e]) := by
  have hi : i64 (rd 1 m ⟨b, 0⟩).2 := by
    by_cases he : (rd 1 m ⟨b, 0⟩).1.e = 0
    · exact (rd_B (s := ⟨b, 0⟩) h8 he).2.2.1
    · rw [rd_err he]; unfold i64; omega
  have cN := num_s hi
  have ok : RsOk ⟨b, 0⟩ := ⟨by simpa using (by omega : b.length ≤ 10000000), h8⟩
  refine Comes_of w108 rfl rfl k108 ?_ ?_ ?_ ?_
  · simp
  · simp
  · simp
  · simp -dsimp [w108, wFix_by, isInl]
    refine new_s b ?_
    simp -dsimp [isInl]
    refine num_go (s := ⟨b, 0⟩) ok rfl ?_
    simp -dsimp [isInl, call_by cN]
    refine err_go (s := (rd 1 m ⟨b, 0⟩).1) rfl ?_
    simp -dsimp [isInl, wFix_by, encN]
end Fz.D
set_option maxRecDepth 100000
namespace Fz.D
open Go
theorem elen {H : List Ob} {v : V} {l : List Int} (h : El H v l) {K : V → Prop} : wSl v (fun l _ => wVal (V.int .i64 l.length) fun v => K v) (fun _ _ n _ => K (.int .i64 n)) = K (.int .i64 l.length) := by
  rcases h with ⟨c, rfl⟩ | ⟨id, cells, rfl, h2, h3, h4⟩
  · simp
  · simp
theorem acb_at {bs l : List Int} {k : Nat} (h : bs.take l.length = l) (hk : k < l.length) : List.take 1 (List.drop k (bs.map (V.int .u8))) = [V.int .u8 (gt l k)] := by
  have hl := congrArg List.length h
  rw [List.length_take] at hl
  have e : gt l k = bs[k]'(by omega) := by
    rw [← gt_at hk]
    have : l[k] = (bs.take l.length)[k]'(by rw [h]; exact hk) := by simp only [h]
    rw [this, List.getElem_take]
  rw [e, ← List.map_drop, ← List.map_take, List.drop_eq_getElem_cons (by omega)]
  rfl
theorem live_at1 {A : Ob} {J K : List Ob} {j : Nat} {o : Ob} (h : J[j]? = some o) : (A :: (J ++ K))[1 + j]? = some o := by
  rw [Nat.add_comm, List.getElem?_cons_succ, List.getElem?_append_left (List.getElem?_eq_some_iff.1 h).1]; exact h
theorem rd_pos {lo hi : Int} {s : Rs} (h : (rd lo hi s).1.e = 0) : lo ≤ (rd lo hi s).2 ∧ (rd lo hi s).2 ≤ hi := rd_ok h
theorem refTakeR_s {b : List Int} {many : Nat} (hb : b.length ≤ 1000000) (h8 : by8 b) (hm : many ≤ 8192) : Comes p 94 [byV b, .int .i64 many] (.tuple [byV (takeR b many).1, .int .i64 (takeR b many).2]) := by
  refine Comes_of w94 rfl rfl k94 ?_ ?_ ?_ ?_
  · simp
  · simp
  · simp
  · simp -dsimp [w94, wFix_by, isInl]
    rw [if_neg (by omega)]
    refine xL_by (by kernel_rfl) (fun k e H => ∃ (kf : Nat) (s : Rs) (v : V) (J : List Ob) (out : List Int), e 0 = byV b ∧ e 1 = .int .i64 many ∧ e 6 = .ptr 0 0 ∧ e 7 = v ∧ H = .live (refC b s) :: J ∧ s.e = 0 ∧ Suf b s ∧ out.length ≤ many ∧ many < out.length + kf ∧ k = many - out.length ∧ tkR many kf out s.b = takeR b many ∧ Acb 1 J v out) many ?_ ?_
    · refine ⟨many + 1, ⟨b, 0⟩, .list [] true, [], [], ?_⟩
      simp -dsimp [refC, takeR]
      exact ⟨⟨Nat.le_refl _, by simp, by omega, h8⟩, acb_nil⟩
    · rintro k e H ⟨kf, s, v, J, out, h0, h1, h6, h7, rfl, hse, hs, hol, hkf, hk, hT, ha⟩
      obtain ⟨kf, rfl⟩ : ∃ z, kf = z + 1 := ⟨kf - 1, by omega⟩
      have hs0 : s = ⟨s.b, 0⟩ := by cases s; simp only at hse; rw [hse]
      have ha' := acb_ac ha
      have el := el_acb (b := 1) (H := .live (refC b s) :: J) ha
      by_cases c1 : out.length < many
      · have w1 : IntKind.i64.wrap ((many : Int) - (out.length : Int)) = ((many - out.length : Nat) : Int) := by rw [Fz.w64 (by omega) (by omega)]; omega
        have cr := read_s (lo := 1) (hi := ((many - out.length : Nat) : Int)) hs
        have hs1 := suf_rd hs 1 ((many - out.length : Nat) : Int)
        have hR := @rd_pos 1 ((many - out.length : Nat) : Int) s
        rw [tkR, if_pos c1, ← hs0] at hT
        simp only [refV, refC] at cr
        generalize rd 1 ((many - out.length : Nat) : Int) s = R at *
        have hle := hs1.le
        have hle0 := hs.le
        by_cases c2 : R.1.e = 0
        · rw [if_neg (by omega)] at hT
          by_cases c3 : R.1.b.length = 0
          · rw [if_pos c3] at hT
            have c3' : ((b.length - R.1.b.length : Nat) : Int) = (b.length : Int) := by omega
            rw [← hT]
            simp -dsimp [h0, h1, h6, h7, elen el, c1, w1, refC, call_by cr, c2, c3', wFix_by, isInl]
            simp -dsimp [byV]
          · rw [if_neg c3] at hT
            obtain ⟨at_, hat⟩ : ∃ z, z = b.length - R.1.b.length := ⟨_, rfl⟩
            have c3' : ¬ ((at_ : Int) = (b.length : Int)) := by omega
            have c3'' : at_ < b.length := by omega
            have g1 : b[at_] = gt R.1.b 0 := by
              have : R.1.b = b.drop at_ := by rw [hat]; exact hs1.eq
              rw [gt_at c3'', this]
              unfold gt
              rw [List.getD_eq_getElem?_getD, List.getD_eq_getElem?_getD, List.getElem?_drop]; rfl
            have w2 : IntKind.i64.wrap ((at_ : Int) + 1) = ((at_ + 1 : Nat) : Int) := by rw [Fz.w64 (by omega) (by omega)]; omega
            rw [← hat] at cr
            obtain ⟨hR1, hR2⟩ := hR c2
            obtain ⟨q, hq⟩ : ∃ q : Nat, R.2 = q := ⟨R.2.toNat, by omega⟩
            rw [hq] at cr hT
            rw [Int.toNat_natCast] at hT
            have hlast : lastIs out (gt R.1.b 0) = (decide (0 < out.length) && decide (gt out (out.length - 1) = gt R.1.b 0)) := rfl
            have hs2 : R.1.b.drop 1 = (⟨R.1.b.drop 1, 0⟩ : Rs).b := rfl
            have hsuf : Suf b ⟨R.1.b.drop 1, 0⟩ := suf_drop hs1 1 0
            have hat2 : at_ + 1 = b.length - (R.1.b.drop 1).length := by rw [List.length_drop]; omega
            have hrefC : refC b ⟨R.1.b.drop 1, 0⟩ = [byV b, .int .i64 ((at_ : Int) + 1), .int .i64 0] := by
              unfold refC
              simp only [← hat2]
              simp
            simp only [List.drop_one] at hsuf hrefC
            by_cases c5 : lastIs out (gt R.1.b 0) = true
            · rw [if_pos c5] at hT
              rw [hlast, Bool.and_eq_true, decide_eq_true_eq, decide_eq_true_eq] at c5
              obtain ⟨c4, c6⟩ := c5
              rcases ha with ⟨rfl, rfl⟩ | ⟨j, bs, rfl, a1, a2, a3⟩
              · simp at c4
              · have w3 : IntKind.i64.wrap ((out.length : Int) - 1) = ((out.length - 1 : Nat) : Int) := by rw [Fz.w64 (by omega) (by omega)]; omega
                rw [← hT]
                simp -dsimp [h0, h1, h6, h7, c1, w1, refC, call_by cr, c2, c3', c3'', g1, w2, c4, w3]
                refine ⟨by omega, ?_⟩
                rw [wLive_is (live_at1 a1)]
                refine ⟨by simp; omega, ?_⟩
                rw [acb_at a3 (by omega), c6]
                simp -dsimp [wFix_by, isInl]
                simp -dsimp [byV]
            · rw [if_neg c5] at hT
              have c7 : 0 < out.length → ¬ gt out (out.length - 1) = gt R.1.b 0 := fun h h2 => c5 (by rw [hlast]; simp [h, h2])
              by_cases c4 : 0 < out.length
              · have w3 : IntKind.i64.wrap ((out.length : Int) - 1) = ((out.length - 1 : Nat) : Int) := by rw [Fz.w64 (by omega) (by omega)]; omega
                have c6 := c7 c4
                have ha0 := ha
                rcases ha with ⟨rfl, rfl⟩ | ⟨j, bs, rfl, a1, a2, a3⟩
                · simp at c4
                simp -dsimp [h0, h1, h6, h7, c1, w1, refC, call_by cr, c2, c3', c3'', g1, w2, c4, w3]
                refine ⟨by omega, ?_⟩
                rw [wLive_is (live_at1 a1)]
                refine ⟨by simp; omega, ?_⟩
                rw [acb_at a3 (by omega)]
                simp -dsimp [c6]
                refine xL_by (by kernel_rfl) (fun k' e' H' => ∃ (i : Nat) (v' : V) (J' : List Ob), i ≤ q ∧ k' = q - i ∧ e' 0 = byV b ∧ e' 1 = .int .i64 many ∧ e' 6 = .ptr 0 0 ∧ e' 7 = v' ∧ e' 9 = .int .i64 q ∧ e' 10 = .int .u8 (gt R.1.b 0) ∧ e' 11 = .int .i64 i ∧ H' = .live (refC b ⟨R.1.b.drop 1, 0⟩) :: J' ∧ Acb 1 J' v' (out ++ List.replicate i (gt R.1.b 0))) q ?_ ?_
                · refine ⟨0, .own (1 + j) 0 out.length 1, J ++ [.live [byV b, .int .i64 ((at_ : Int) + 1), .int .i64 0]], by omega, rfl, ?_⟩
                  simp -dsimp [h0, h1, h6, h7, hrefC]
                  exact acb_ext ha0 _
                · rintro k' e' H' ⟨i, v', J', hi, hk', g0, g1', g6, g7, g9, g10, g11, rfl, gA⟩
                  by_cases d : i < q
                  · have w4 : IntKind.i64.wrap ((i : Int) + 1) = ((i + 1 : Nat) : Int) := by rw [Fz.w64 (by omega) (by omega)]; omega
                    simp -dsimp [-wAppend_list, g0, g1', g6, g7, g9, g10, g11, d, fillV, splice, wOpt, chunk]
                    refine app_acb 1 (l := out ++ List.replicate i (gt R.1.b 0)) (m := [gt R.1.b 0]) (by simpa using acb_ext gA _) (by simp) (by simp [capOk]; omega) fun v2 J2 b2 => ?_
                    simp -dsimp [-wAppend_list, g0, g1', g6, g7, g9, g10, g11, w4]
                    refine ⟨q - (i + 1), by omega, i + 1, v2, J2, by omega, rfl, ?_⟩
                    simp -dsimp [g0, g1', g6, g9, g10]
                    rw [List.replicate_succ', ← List.append_assoc]
                    exact b2
                  · have hiq : i = q := by omega
                    subst hiq
                    simp -dsimp [g0, g1', g6, g7, g9, g10, g11]
                    refine ⟨many - (out.length + i), by omega, kf, ⟨R.1.b.drop 1, 0⟩, v', J', out ++ List.replicate i (gt R.1.b 0), ?_⟩
                    simp -dsimp [g0, g1', g6, g7]
                    exact ⟨hsuf, by omega, by omega, by simpa using hT, gA⟩
              · simp -dsimp [h0, h1, h6, h7, elen el, c1, w1, refC, call_by cr, c2, c3', c3'', g1, w2, c4]
                refine xL_by (by kernel_rfl) (fun k' e' H' => ∃ (i : Nat) (v' : V) (J' : List Ob), i ≤ q ∧ k' = q - i ∧ e' 0 = byV b ∧ e' 1 = .int .i64 many ∧ e' 6 = .ptr 0 0 ∧ e' 7 = v' ∧ e' 9 = .int .i64 q ∧ e' 10 = .int .u8 (gt R.1.b 0) ∧ e' 11 = .int .i64 i ∧ H' = .live (refC b ⟨R.1.b.drop 1, 0⟩) :: J' ∧ Acb 1 J' v' (out ++ List.replicate i (gt R.1.b 0))) q ?_ ?_
                · refine ⟨0, v, J ++ [.live [byV b, .int .i64 ((at_ : Int) + 1), .int .i64 0]], by omega, rfl, ?_⟩
                  simp -dsimp [h0, h1, h6, h7, hrefC]
                  exact acb_ext ha _
                · rintro k' e' H' ⟨i, v', J', hi, hk', g0, g1', g6, g7, g9, g10, g11, rfl, gA⟩
                  by_cases d : i < q
                  · have w4 : IntKind.i64.wrap ((i : Int) + 1) = ((i + 1 : Nat) : Int) := by rw [Fz.w64 (by omega) (by omega)]; omega
                    simp -dsimp [-wAppend_list, g0, g1', g6, g7, g9, g10, g11, d, fillV, splice, wOpt, chunk]
                    refine app_acb 1 (l := out ++ List.replicate i (gt R.1.b 0)) (m := [gt R.1.b 0]) (by simpa using acb_ext gA _) (by simp) (by simp [capOk]; omega) fun v2 J2 b2 => ?_
                    simp -dsimp [-wAppend_list, g0, g1', g6, g7, g9, g10, g11, w4]
                    refine ⟨q - (i + 1), by omega, i + 1, v2, J2, by omega, rfl, ?_⟩
                    simp -dsimp [g0, g1', g6, g9, g10]
                    rw [List.replicate_succ', ← List.append_assoc]
                    exact b2
                  · have hiq : i = q := by omega
                    subst hiq
                    simp -dsimp [g0, g1', g6, g7, g9, g10, g11]
                    refine ⟨many - (out.length + i), by omega, kf, ⟨R.1.b.drop 1, 0⟩, v', J', out ++ List.replicate i (gt R.1.b 0), ?_⟩
                    simp -dsimp [g0, g1', g6, g7]
                    exact ⟨hsuf, by omega, by omega, by simpa using hT, gA⟩
        · rw [if_pos c2] at hT
          rw [← hT]
          simp -dsimp [h0, h1, h6, h7, elen el, c1, w1, refC, call_by cr, c2, wFix_by, isInl]
          simp -dsimp [byV]
      · rw [tkR, if_neg c1] at hT
        by_cases c2 : 0 < s.b.length
        · rw [if_pos c2] at hT
          have c2' : b.length - s.b.length < b.length := by have := hs.le; omega
          rw [← hT]
          simp -dsimp [h0, h1, h6, h7, elen el, c1, refC, c2', wFix_by, isInl]
          simp -dsimp [byV]
        · rw [if_neg c2] at hT
          have c2' : ¬ b.length - s.b.length < b.length := by have := hs.le; omega
          rw [← hT]
          simp -dsimp [h0, h1, h6, h7, elen el, c1, refC, c2', wFix_by, isInl]
          refine frz_acg 1 (k := 10) (by simpa using ha') (by simp) (.inl ⟨rfl, by simp⟩) fun H' _ _ => ?_
          simp -dsimp [byV]
end Fz.D
set_option maxRecDepth 100000
namespace Fz.D
open Go
abbrev Lq (i : Nat) : Ob := .loop 180 [3] [.ptr i 0] .ready
end Fz.D
set_option maxRecDepth 100000
namespace Fz.D
open Go
theorem tk_all {α β : Type} {f : α → β} {l : List α} {n : Nat} : List.take (l.length - n) (List.drop n (l.map f)) = (l.drop n).map f := by
  rw [List.take_of_length_le (by simp), List.map_drop]
end Fz.D
set_option maxRecDepth 100000
namespace Fz.D
open Go
theorem last_s {H : List Ob} {i : Nat} {v : V} {out : List Int} {c : Int} {b : Nat} (hi : H[i]? = some (.live [v])) (ha : Acb b (H.drop b) v out) (hib : i < b) (hl : out.length ≤ 1000000) {Q : CR → List Ob → Prop} (hq : Q (.ret (.bool (lastIs out c))) H) : WCall p 107 [.int .u8 c, .ptr i 0] H Q := by
  have hlast : lastIs out c = (decide (0 < out.length) && decide (gt out (out.length - 1) = c)) := rfl
  rcases ha with ⟨rfl, rfl⟩ | ⟨j, bs, rfl, a1, a2, a3⟩
  · have hre : reach H 1000 (refsL [.int .u8 c, .ptr i 0]) [] = some [i] := reach_one hi (by simp [refsL, refs])
    refine WCall_inl (by kernel_rfl) hre ?_
    have e1 : ([i] : List Nat).idxOf i = 0 := by simp
    have hi' : H[i]?.getD .dead = .live [.list [] true] := by rw [hi]; rfl
    simp -dsimp [renL, ren, renOb, e1, hi']
    refine WFun_of w107 rfl rfl k107 ?_
    simp -dsimp [w107]
    rw [hlast] at hq
    simp at hq
    simp [backH, setAll, renOb, ren, renL, renR, crV, refs, refsL, refsOb, set_same hi]
    exact hq
  · rw [List.getElem?_drop] at a1
    have hne : i ≠ b + j := by omega
    have hre : reach H 1000 (refsL [.int .u8 c, .ptr i 0]) [] = some [i, b + j] := by
      have : refsL [.int .u8 c, .ptr i 0] = [i] := by simp [refsL, refs]
      rw [this]
      refine (reach_go (k := 999) rfl hi).trans ?_
      simp only [refsOb, refsL, refs, List.nil_append, List.cons_append, List.append_nil]
      refine (reach_go (k := 998) (by simp; omega) a1).trans ?_
      simp only [refsOb, refs_ints, List.append_nil, List.nil_append, List.cons_append]
      exact reach_end (k := 997)
    refine WCall_inl (by kernel_rfl) hre ?_
    have e1 : ([i, b + j] : List Nat).idxOf i = 0 := by simp
    have e2 : ([i, b + j] : List Nat).idxOf (b + j) = 1 := by
      have e0 : (i == b + j) = false := by rw [beq_eq_false_iff_ne]; omega
      simp [List.idxOf_cons, e0]
    have hi' : H[i]?.getD .dead = .live [.own (b + j) 0 out.length 1] := by rw [hi]; rfl
    have hj' : H[b + j]?.getD .dead = .live (bs.map (V.int .u8)) := by rw [a1]; rfl
    simp -dsimp [renL, ren, renOb, e1, e2, hi', hj']
    refine WFun_of w107 rfl rfl k107 ?_
    have fin : ∀ x, lastIs out c = x → Q (renR (backK [i, b + j] H.length) (CR.ret (V.bool x))) (backH [i, b + j] (CR.ret (V.bool x)) [Ob.live [V.own 1 0 out.length 1], Ob.live (bs.map (V.int .u8))] H) := by
      intro x hx
      rw [hx] at hq
      have k1 : backK [i, b + j] H.length 1 = b + j := rfl
      simp [backH, setAll, renOb, ren, renL, renR, crV, refs, refsL, refsOb, k1, set_same hi, set_same a1]
      exact hq
    by_cases c4 : 0 < out.length
    · have w3 : IntKind.i64.wrap ((out.length : Int) - 1) = ((out.length - 1 : Nat) : Int) := by rw [Fz.w64 (by omega) (by omega)]; omega
      by_cases c5 : gt out (out.length - 1) = c
      · simp -dsimp [w107, c4, w3]
        refine ⟨by omega, by omega, ?_⟩
        rw [acb_at a3 (by omega), c5]
        simp -dsimp []
        exact fin true (by rw [hlast]; simp [c4, c5])
      · simp -dsimp [w107, c4, w3]
        refine ⟨by omega, by omega, ?_⟩
        rw [acb_at a3 (by omega)]
        simp -dsimp [c5]
        exact fin false (by rw [hlast]; simp [c4, c5])
    · simp -dsimp [w107, c4]
      exact fin false (by rw [hlast]; simp [c4])
theorem takeR_s {b : List Int} {many : Nat} (hb : b.length ≤ 1000000) (h8 : by8 b) (hm : many ≤ 8192) : Comes p 76 [byV b, .int .i64 many] (.tuple [byV (takeR b many).1, .int .i64 (takeR b many).2]) := by
  refine Comes_of w76 rfl rfl k76 ?_ ?_ ?_ ?_
  · simp
  · simp
  · simp
  · simp -dsimp [w76, wFix_by, isInl]
    rw [if_neg (by omega)]
    refine xL_by (by kernel_rfl) (fun k e H => ∃ (kf : Nat) (l : List Int) (v : V) (J : List Ob) (out : List Int), e 0 = byV l ∧ e 1 = .int .i64 many ∧ e 6 = .ptr 0 0 ∧ e 7 = .fn (.func 107) [] [.ptr 0 0] ∧ H = .live [v] :: J ∧ by8 l ∧ l.length ≤ 1000000 ∧ out.length ≤ many ∧ many < out.length + kf ∧ k = many - out.length ∧ tkR many kf out l = takeR b many ∧ Acb 1 J v out) many ?_ ?_
    · refine ⟨many + 1, b, .list [] true, [], [], ?_⟩
      simp -dsimp [takeR]
      exact ⟨h8, by omega, acb_nil⟩
    · rintro k e H ⟨kf, l, v, J, out, h0, h1, h6, h7, rfl, l8, ll, hol, hkf, hk, hT, ha⟩
      obtain ⟨kf, rfl⟩ : ∃ z, kf = z + 1 := ⟨kf - 1, by omega⟩
      have el := el_acb (b := 1) (H := .live [v] :: J) ha
      obtain ⟨x1, x2, x3⟩ := acb_val ha
      by_cases c1 : out.length < many
      · have w1 : IntKind.i64.wrap ((many : Int) - (out.length : Int)) = ((many - out.length : Nat) : Int) := by rw [Fz.w64 (by omega) (by omega)]; omega
        have cr := first_s (m := ((many - out.length : Nat) : Int)) ll l8 (by unfold i64; omega)
        have hB := @rd_B 1 ((many - out.length : Nat) : Int) ⟨l, 0⟩ l8
        rw [tkR, if_pos c1] at hT
        generalize rd 1 ((many - out.length : Nat) : Int) ⟨l, 0⟩ = R at *
        by_cases c2 : R.1.e = 0
        · rw [if_neg (by omega)] at hT
          obtain ⟨_, hl, hi, hn1, hn2⟩ := hB c2
          simp only at hl
          obtain ⟨q, hq⟩ : ∃ q : Nat, R.2 = q := ⟨R.2.toNat, by omega⟩
          rw [hq] at cr hT hl
          rw [Int.toNat_natCast] at hT
          rw [c2] at cr
          have hlen := congrArg List.length hl
          rw [List.length_append] at hlen
          obtain ⟨z, hz⟩ : ∃ z, z = (encN (q : Int)).length := ⟨_, rfl⟩
          rw [← hz] at cr hlen
          have hdrop : l.drop z = R.1.b := by rw [hl, hz]; exact List.drop_left
          by_cases c3 : R.1.b.length = 0
          · rw [if_pos c3] at hT
            have c3' : z = l.length := by omega
            rw [← hT]
            simp -dsimp [h0, h1, h6, h7, x1, x2, x3, elen el, c1, w1, call_by cr, c3', wFix_by, isInl]
            simp -dsimp [byV]
          · rw [if_neg c3] at hT
            have c3' : ¬ z = l.length := by omega
            have c3'' : z < l.length := by omega
            have g1 : l[z] = gt R.1.b 0 := by
              rw [gt_at c3'', ← hdrop]
              unfold gt
              rw [List.getD_eq_getElem?_getD, List.getD_eq_getElem?_getD, List.getElem?_drop]; rfl
            have w2 : IntKind.i64.wrap ((z : Int) + 1) = ((z + 1 : Nat) : Int) := by rw [Fz.w64 (by omega) (by omega)]; omega
            simp -dsimp [h0, h1, h6, h7, x1, x2, x3, elen el, c1, w1, call_by cr, c3', c3'', g1, w2]
            rw [if_neg (by omega)]
            refine last_s (i := 0) (b := 1) rfl (by simpa using ha) (by omega) (by omega) ?_
            cases hls : lastIs out (gt R.1.b 0) with
            | true =>
              rw [hls, if_pos rfl] at hT
              rw [← hT]
              simp -dsimp [h0, h1, h6, h7, wFix_by, isInl]
              simp -dsimp [byV]
            | false =>
              rw [hls] at hT
              simp only [Bool.false_eq_true, if_false] at hT
              have cRep := rep_s (c := gt R.1.b 0) (n := q) (by omega) (by omega)
              have hone : List.take 1 (List.drop z (List.map (V.int .u8) l)) = [V.int .u8 (gt R.1.b 0)] := by
                rw [← List.map_drop, ← List.map_take, List.drop_eq_getElem_cons c3'', g1]
                rfl
              have cRep' : ∀ H K, xQuiet p 109 [.list [V.int .u8 (gt R.1.b 0)] false, .int .i64 q] H K = K (byV (List.replicate q (gt R.1.b 0))) := fun H K => quiet_by cRep
              have hrl : (List.replicate q (gt R.1.b 0)).length = q := List.length_replicate ..
              generalize List.replicate q (gt R.1.b 0) = rep at *
              simp -dsimp [-wAppend_list, h0, h1, h6, h7, w2, c3'', hone, cRep']
              refine ⟨by omega, by omega, ?_⟩
              refine app_acb 1 (by simpa using ha) (by simp) (by simp [capOk]; omega) fun v2 J2 b2 => ?_
              obtain ⟨y1, y2, y3⟩ := acb_val b2
              simp -dsimp [-wAppend_list, h0, h1, h6, h7, w2, y1, y2, y3]
              refine ⟨by omega, by omega, many - (out.length + q), by omega, kf, l.drop (z + 1), v2, J2, out ++ rep, ?_⟩
              simp -dsimp [h0, h1, h6, h7]
              refine ⟨by rw [tk_all]; rfl, fun x hx => l8 x (List.mem_of_mem_drop hx), by omega, by omega, by omega, by omega, ?_, b2⟩
              rw [← hT, ← hdrop, List.drop_drop]
        · rw [if_pos c2] at hT
          rw [← hT]
          simp -dsimp [h0, h1, h6, h7, x1, x2, x3, elen el, c1, w1, call_by cr, c2, wFix_by, isInl]
          simp -dsimp [byV]
      · rw [tkR, if_neg c1] at hT
        by_cases c2 : 0 < l.length
        · rw [if_pos c2] at hT
          rw [← hT]
          simp -dsimp [h0, h1, h6, h7, x1, x2, x3, elen el, c1, c2, wFix_by, isInl]
          simp -dsimp [byV]
        · rw [if_neg c2] at hT
          have c2' : l = [] := List.length_eq_zero_iff.1 (by omega)
          rw [← hT]
          simp -dsimp [h0, h1, h6, h7, x1, x2, x3, elen el, c1, c2', wFix_by, isInl]
          refine frz_acg 1 (k := 10) (by simpa using acb_ac ha) (by simp) (.inl ⟨rfl, by simp⟩) fun H' _ _ => ?_
          simp -dsimp [byV]
end Fz.D
set_option maxRecDepth 100000
namespace Fz.D
open Go
abbrev Ls (a b c : Nat) : Ob := .loop 70 [3, 5, 6] [.ptr a 0, .ptr b 0, .ptr c 0] .ready
def chg1 (m base : List Int) (n : Nat) : List Int := if pg m n = pg base n then [] else encN n ++ txt (rleF (pg m n))
def cnt1 (m base : List Int) (n : Nat) : Nat := if pg m n = pg base n then 0 else 1
theorem pg_len (b : List Int) (n : Nat) : (pg b n).length ≤ 64 ∧ 64 * n + (pg b n).length ≤ max b.length (64 * n) := by
  unfold pg
  rw [List.length_take, List.length_drop]; omega
theorem pg_by {b : List Int} (h : by8 b) (n : Nat) : by8 (pg b n) := fun x hx => h x (List.mem_of_mem_drop (List.mem_of_mem_take hx))
end Fz.D
set_option maxRecDepth 100000
namespace Fz.D
open Go
def chgK (m base : List Int) : Nat → List Int
  | 0 => []
  | k + 1 => chgK m base k ++ chg1 m base k
def cntK (m base : List Int) : Nat → Nat
  | 0 => 0
  | k + 1 => cntK m base k + cnt1 m base k
theorem pagesP_s (b : List Int) {H : List Ob} {Q : CR → List Ob → Prop} (hq : Q (.ret (.fn (.func 47) [] [.ptr H.length 0])) (H ++ [.live [byV b]])) : xCall p 13 [byV b] H Q := by
  have h0 : refsL [byV b] = [] := groundL_refs _ (by simp)
  refine WCall_inl (by kernel_rfl) (ids := []) (by rw [h0]; rfl) ?_
  have r0 : renL (fun i => List.idxOf i ([] : List Nat)) [byV b] = [byV b] := groundL_ren _ _ (by simp)
  rw [r0]
  refine WFun_of w13 rfl rfl k13 ?_
  simp -dsimp [w13, renL, ren]
  have rb : ∀ g, ren g (byV b) = byV b := fun g => ground_ren g _ (byV.gd b)
  simpa [renR, ren, renL, backH, crV, refs, refsL, setAll, renOb, backK, rb] using hq
def snapF (s : St) (base : List Int) : List Int := encN (cntK s.mem base (npg s.mem) : Nat) ++ (chgK s.mem base (npg s.mem) ++ (txt s.out ++ txt (encD (diffD (rest s) St0))))
end Fz.D
set_option maxRecDepth 100000
namespace Fz.D
open Go
def wrong (e : Int) : V := .iface wrongT (.int .i64 e)
theorem must_0 {H : List Ob} {Q : CR → List Ob → Prop} (hq : Q (.ret (.tuple [])) H) : xCall p 33 [.int .i64 0] H Q := by
  refine WCall_inl (ids := []) rfl rfl ?_
  refine WFun_of w33 rfl rfl k33 ?_
  simp -dsimp [w33, backH, setAll, renR, crV, refs, refsL, renL, ren, hq]
theorem must_x {e : Int} (he : e ≠ 0) {H : List Ob} {Q : CR → List Ob → Prop} (hq : Q (.panic (wrong e)) H) : xCall p 33 [.int .i64 e] H Q := by
  refine WCall_inl (ids := []) rfl rfl ?_
  refine WFun_of w33 rfl rfl k33 ?_
  unfold wrong wrongT at hq
  simp -dsimp [w33, backH, setAll, renR, crV, refs, refsL, renL, ren, he, hq]
end Fz.D
set_option maxRecDepth 100000
namespace Fz.D
open Go
theorem rcount_app (c : Int) (n : Nat) (r : List Int) (h : ∀ x t, r = x :: t → x ≠ c) : rcount c (List.replicate n c ++ r) = n := by
  induction n with
  | zero =>
    cases r with
    | nil => rfl
    | cons x t => simp only [List.replicate_zero, List.nil_append]; rw [rcount, if_neg (h x t rfl)]
  | succ n ih => rw [List.replicate_succ, List.cons_append, rcount, if_pos rfl, ih]
theorem lastIs_app (out : List Int) (n : Nat) (c d : Int) (hn : 1 ≤ n) : lastIs (out ++ List.replicate n c) d = decide (c = d) := by
  obtain ⟨m, rfl⟩ : ∃ m, n = m + 1 := ⟨n - 1, by omega⟩
  have e : gt (out ++ List.replicate (m + 1) c) ((out ++ List.replicate (m + 1) c).length - 1) = c := by
    unfold gt
    rw [List.getD_eq_getElem?_getD, List.length_append, List.length_replicate, List.getElem?_append_right (by omega), List.getElem?_replicate, if_pos (by omega)]
    rfl
  unfold lastIs
  rw [e, List.length_append, List.length_replicate]
  simp
  omega
theorem rle_B {many : Nat} (hm : many ≤ 1000000) : ∀ (k : Nat) (out b : List Int), by8 b → many < out.length + k → out.length ≤ many → (tkR many k out b).2 = 0 → ∃ r, (tkR many k out b).1 = out ++ r ∧ (out ++ r).length = many ∧ (∀ x t, r = x :: t → lastIs out x = false) ∧ by8 r ∧ ∀ m, r.length ≤ m → b = rleK m r := by
  intro k
  induction k with
  | zero => intro out b _ _ _; omega
  | succ k ih =>
    intro out b h8 hk ho he
    rw [tkR] at he ⊢
    by_cases c1 : out.length < many
    · rw [if_pos c1] at he ⊢
      have hB := @rd_B 1 (many - out.length : Nat) ⟨b, 0⟩ h8
      generalize rd 1 (many - out.length : Nat) ⟨b, 0⟩ = R at *
      obtain ⟨⟨rb, re⟩, n⟩ := R
      simp only at he hB ⊢
      by_cases c2 : re ≠ 0
      · rw [if_pos c2] at he; exact absurd he c2
      rw [if_neg c2] at he ⊢
      obtain ⟨_, hb, hn, hn1, hn2⟩ := hB (by omega)
      by_cases c3 : rb.length = 0
      · rw [if_pos c3] at he; simp at he
      rw [if_neg c3] at he ⊢
      cases c4 : lastIs out (gt rb 0) with
      | true => rw [c4] at he; simp at he
      | false =>
        rw [c4] at he
        simp only [Bool.false_eq_true, if_false] at he ⊢
        cases rb with
        | nil => simp at c3
        | cons c t =>
          have g0 : gt (c :: t) 0 = c := rfl
          rw [g0] at he c4 ⊢
          rw [List.drop_succ_cons, List.drop_zero] at he ⊢
          have h8' : by8 (c :: t) := fun x hx => h8 x (by rw [hb]; exact List.mem_append_right _ hx)
          obtain ⟨q, hq⟩ : ∃ q : Nat, n = q := ⟨n.toNat, by omega⟩
          subst hq
          rw [Int.toNat_natCast] at he ⊢
          obtain ⟨r, i1, i2, i3, i5, i4⟩ := ih (out ++ List.replicate q c) t (fun x hx => h8' x (List.mem_cons_of_mem _ hx)) (by simp; omega) (by simp; omega) he
          have hrc : rcount c (List.replicate q c ++ r) = q := rcount_app c q r fun x t' hx => by
            have := i3 x t' hx
            rw [lastIs_app _ _ _ _ (by omega)] at this
            simpa using fun h : x = c => (by simpa using this : ¬ c = x) h.symm
          refine ⟨List.replicate q c ++ r, by rw [i1, List.append_assoc], by rw [← i2, List.append_assoc], ?_, ?_, ?_⟩
          · intro x t' hx
            obtain ⟨q', rfl⟩ : ∃ z, q = z + 1 := ⟨q - 1, by omega⟩
            rw [List.replicate_succ, List.cons_append] at hx
            cases hx
            exact c4
          · intro x hx
            rcases List.mem_append.1 hx with h | h
            · rw [(List.mem_replicate.1 h).2]; exact h8' c (List.mem_cons_self ..)
            · exact i5 x h
          · intro m hm
            obtain ⟨q', hq'⟩ : ∃ z, q = z + 1 := ⟨q - 1, by omega⟩
            obtain ⟨m, rfl⟩ : ∃ z, m = z + 1 := ⟨m - 1, by rw [List.length_append, List.length_replicate] at hm; omega⟩
            have e2 : List.replicate q c ++ r = c :: (List.replicate q' c ++ r) := by rw [hq', List.replicate_succ, List.cons_append]
            have e3 : rleK (m + 1) (List.replicate q c ++ r) = encN (q : Int) ++ c :: rleK m r := by
              have e4 : rleK (m + 1) (List.replicate q c ++ r) = encN (rcount c (List.replicate q c ++ r) : Nat) ++ c :: rleK m ((List.replicate q c ++ r).drop (rcount c (List.replicate q c ++ r))) := by
                rw [e2]; rfl
              rw [e4, hrc, List.drop_append_of_le_length (by simp), List.drop_of_length_le (by simp), List.nil_append]
            rw [e3, ← i4 m (by rw [List.length_append, List.length_replicate] at hm; omega)]
            exact hb
    · rw [if_neg c1] at he ⊢
      by_cases c5 : 0 < b.length
      · rw [if_pos c5] at he; simp at he
      · rw [if_neg c5]
        refine ⟨[], by simp, by simp; omega, fun _ _ h => by simp at h, fun _ h => by simp at h, fun m _ => ?_⟩
        rw [rleK_nil]
        exact List.length_eq_zero_iff.1 (by omega)
theorem takeR_B {b : List Int} {many : Nat} (hm : many ≤ 1000000) (h8 : by8 b) (he : (takeR b many).2 = 0) : (takeR b many).1.length = many ∧ by8 (takeR b many).1 ∧ rleF (takeR b many).1 = b := by
  obtain ⟨r, h1, h2, _, h5, h4⟩ := rle_B hm (many + 1) [] b h8 (by simp) (by simp) he
  unfold takeR
  rw [h1]
  exact ⟨h2, by simpa using h5, (h4 _ (by simp)).symm⟩
end Fz.D
set_option maxRecDepth 100000
namespace Fz.D
open Go
theorem is_t {H : List Ob} {Q : CR → List Ob → Prop} (hq : Q (.ret (.tuple [])) H) : xCall p 77 [.bool true] H Q := by
  refine WCall_inl (ids := []) rfl rfl ?_
  refine WFun_of w77 rfl rfl k77 ?_
  simp -dsimp [w77, backH, setAll, renR, crV, refs, refsL, renL, ren, hq]
theorem is_f {H : List Ob} {Q : CR → List Ob → Prop} (hq : Q (.panic (wrong 2)) H) : xCall p 77 [.bool false] H Q := by
  refine WCall_inl (ids := []) rfl rfl ?_
  refine WFun_of w77 rfl rfl k77 ?_
  unfold wrong wrongT at hq
  simp -dsimp [w77, renL, ren]
  refine must_x (by decide) ?_
  simp [wrong, wrongT, backH, setAll, renR, crV, refs, refsL, renL, ren, hq]
theorem rangeA_s {R : Ob} {base : List Int} {e : Env} {Q : QX} (hm : base.length ≤ 100000) (h5 : e 5 = .ptr 1 0)
    (hq : ∀ v T, Acc 1 4 T v ((pgl base (npg base)).map byT) → Q .normal e (R :: .live [v] :: .live [byV base] :: .dead :: T)) :
    WRange p 310 (.fn (.func 47) [] [.ptr 2 0]) e [R, .live [.list [] true], .live [byV base]] Q := by
  have e1 : ∀ b, refs (byV b) = [] := fun b => ground_refs _ (byV.gd b)
  have ra : ∀ g b, ren g (byV b) = byV b := fun g b => ground_ren g _ (byV.gd b)
  have hk : bd310.keep.map e = [.ptr 1 0] := by show [e 5] = _; rw [h5]
  refine WRange_of (ab := bd310) (ids := [3, 2, 1]) rfl (by decide) rfl rfl ?_ ?_
  · have : refsL ([] ++ [V.yld 3] ++ [V.ptr 2 0]) = [3, 2] := by simp [refsL, refs]
    show reach _ 1000 (refsL ([] ++ [V.yld 3] ++ [V.ptr 2 0])) [] = _
    rw [this, hk]
    refine (reach_go (k := 999) rfl rfl).trans ?_
    refine (reach_go (k := 998) rfl rfl).trans ?_
    simp only [refsOb, refsL, refs, e1, List.nil_append, List.cons_append, List.append_nil]
    refine (reach_go (k := 997) rfl rfl).trans ?_
    simp only [refsOb, refsL, refs, List.nil_append, List.cons_append, List.append_nil]
    exact reach_end (k := 996)
  · rw [hk]
    have i3 : List.idxOf 3 [3, 2, 1] = 0 := rfl
    have i2 : List.idxOf 2 [3, 2, 1] = 1 := rfl
    have i1 : List.idxOf 1 [3, 2, 1] = 2 := rfl
    have ka : bd310.keep = [5] := rfl
    simp [renL, ren, renOb, i2, i1, i3, ra, ka]
    refine pagesA_s hm fun v T hac => ⟨by simp, ?_⟩
    have k0 : backK [3, 2, 1] 4 2 = 1 := rfl
    have kk : backK [3, 2, 1] 4 0 = 3 := rfl
    obtain ⟨u1, u2, u3⟩ := hac
    rcases u3 with ⟨u3, rfl⟩ | ⟨j, rfl, hj⟩
    · refine ⟨.normal, e, _, ?_, hq (.list [] true) [] ⟨u1, u2, .inl ⟨u3, rfl⟩⟩⟩
      simp [backH, setAll, renOb, ren, renL, renR, crV, refs, refsL, refsOb, e1, ra, k0, kk, endRange]
    · have k1 : backK [3, 2, 1] 4 (3 + j) = 4 + j := by simp [backK]; omega
      refine ⟨.normal, e, _, ?_, hq (.own (4 + j) 0 ((pgl base (npg base)).map byT).length 1) (T.map (renOb (backK [3, 2, 1] 4))) ⟨u1, u2, .inr ⟨j, rfl, ?_⟩⟩⟩
      · simp [backH, setAll, renOb, ren, renL, renR, crV, refs, refsL, refsOb, e1, ra, k0, kk, k1, endRange]
      · rw [List.getElem?_map, hj]
        simp only [Option.map_some, renOb]
        rw [flat_one (fun _ => rfl), groundL_ren _ _ (by simp)]
def lay64 (m : List Int) (n : Nat) (q : List Int) : List Int := m.take (64 * n) ++ q ++ m.drop (64 * n + q.length)
theorem lay_len {m q : List Int} {n : Nat} (h : 64 * n + q.length ≤ m.length) : (lay64 m n q).length = m.length := by
  unfold lay64
  simp only [List.length_append, List.length_take, List.length_drop]; omega
theorem lay_take {bs q : List Int} {n L : Nat} (h : 64 * n + q.length ≤ L) (hL : L ≤ bs.length) : (lay64 bs n q).take L = lay64 (bs.take L) n q := by
  unfold lay64
  have e1 : (bs.take L).take (64 * n) = bs.take (64 * n) := by rw [List.take_take, Nat.min_eq_left (by omega)]
  have e2 : (bs.take L).drop (64 * n + q.length) = (bs.drop (64 * n + q.length)).take (L - (64 * n + q.length)) := List.drop_take ..
  have e3 : ∀ (A B C : List Int), A.length + B.length ≤ L → (A ++ (B ++ C)).take L = A ++ (B ++ C.take (L - (A.length + B.length))) := by
    intro A B C h
    rw [List.take_append, List.take_of_length_le (by omega), List.take_append, List.take_of_length_le (by omega), Nat.sub_sub]
  rw [e1, e2, List.append_assoc, List.append_assoc, e3 _ _ _ (by rw [List.length_take]; omega), List.length_take, Nat.min_eq_left (by omega)]
def memK (base : List Int) : Nat → Rs → Nat → List Int → Rs × List Int
  | 0, s, _, m => (s, m)
  | k + 1, s, next, m =>
    if (rdT 65536 (rd next ((npg base : Int) - 1) s).1).1.e ≠ 0 then ((rdT 65536 (rd next ((npg base : Int) - 1) s).1).1, [])
    else if (takeR (rdT 65536 (rd next ((npg base : Int) - 1) s).1).2 (pg base (rd next ((npg base : Int) - 1) s).2.toNat).length).2 ≠ 0 then
      (⟨(rdT 65536 (rd next ((npg base : Int) - 1) s).1).1.b, (takeR (rdT 65536 (rd next ((npg base : Int) - 1) s).1).2 (pg base (rd next ((npg base : Int) - 1) s).2.toNat).length).2⟩, [])
    else if (takeR (rdT 65536 (rd next ((npg base : Int) - 1) s).1).2 (pg base (rd next ((npg base : Int) - 1) s).2.toNat).length).1 = pg base (rd next ((npg base : Int) - 1) s).2.toNat then
      (⟨(rdT 65536 (rd next ((npg base : Int) - 1) s).1).1.b, 2⟩, [])
    else memK base k (rdT 65536 (rd next ((npg base : Int) - 1) s).1).1 ((rd next ((npg base : Int) - 1) s).2.toNat + 1) (lay64 m (rd next ((npg base : Int) - 1) s).2.toNat (takeR (rdT 65536 (rd next ((npg base : Int) - 1) s).1).2 (pg base (rd next ((npg base : Int) - 1) s).2.toNat).length).1)
def memR (base : List Int) (s : Rs) : Rs × List Int := memK base (rd 0 (npg base) s).2.toNat (rd 0 (npg base) s).1 0 base
theorem rdT_len {m : Nat} {s : Rs} : (rdT m s).2.length ≤ m := by
  have h1 := @rd_ok 0 m s
  unfold rdT
  split
  · simp
  · split
    · simp
    · rename_i h _
      have := h1 (by omega)
      simp only [List.length_take]; omega
theorem live_at4 {A B C D : Ob} {J K : List Ob} {j : Nat} {o : Ob} (h : J[j]? = some o) : (A :: B :: C :: D :: (J ++ K))[4 + j]? = some o := by
  rw [show 4 + j = j + 1 + 1 + 1 + 1 from by omega]
  simp only [List.getElem?_cons_succ]
  rw [List.getElem?_append_left (List.getElem?_eq_some_iff.1 h).1]; exact h
theorem live_at4b {A B C D : Ob} {J K : List Ob} {j : Nat} {o : Ob} (h : J[j]? = some o) : (A :: B :: C :: D :: (K ++ J))[4 + K.length + j]? = some o := by
  rw [show 4 + K.length + j = K.length + j + 1 + 1 + 1 + 1 from by omega]
  simp only [List.getElem?_cons_succ]
  rw [List.getElem?_append_right (by omega), Nat.add_sub_cancel_left]; exact h
theorem set_at4b {A B C D : Ob} {J K : List Ob} {j : Nat} {o : Ob} : (A :: B :: C :: D :: (K ++ J)).set (4 + K.length + j) o = A :: B :: C :: D :: (K ++ J.set j o) := by
  rw [show 4 + K.length + j = K.length + j + 1 + 1 + 1 + 1 from by omega]
  simp only [List.set_cons_succ]
  rw [List.set_append_right _ _ (by omega), Nat.add_sub_cancel_left]
theorem wMut_is {H : List Ob} {id : Nat} {l : List V} {K : List V → Prop} (h : H[id]? = some (.live l)) : wMut H id K = K l := by
  refine propext ⟨?_, fun k => ⟨l, h, k⟩⟩
  rintro ⟨l', h1, h2⟩
  rw [h] at h1
  cases h1
  exact h2
theorem pgl_at {b : List Int} {n N : Nat} (h : n < N) : List.take 1 (List.drop n ((pgl b N).map byT)) = [byT (pg b n)] := by
  rw [← List.map_drop, ← List.map_take, List.drop_eq_getElem_cons (by simpa using h)]
  simp [pgl]
theorem accv {n b : Nat} {J : List Ob} {v : V} {l : List V} (h : Acc n b J v l) : cellsOf v = [v] ∧ isAny v = false ∧ storable v = true := by
  obtain ⟨_, _, h3⟩ := h
  rcases h3 with ⟨_, rfl⟩ | ⟨j, rfl, _⟩ <;> exact ⟨rfl, rfl, rfl⟩
theorem acc_acb {b : Nat} {J : List Ob} {v : V} {l : List Int} (h : Acc 1 b J v (l.map (V.int .u8))) : Acb b J v l := by
  obtain ⟨_, _, h3⟩ := h
  rcases h3 with ⟨h3, rfl⟩ | ⟨j, rfl, h4⟩
  · exact .inl ⟨by simpa using h3, rfl⟩
  · rw [flat_int] at h4
    exact .inr ⟨j, l, by simp, h4, by simp, by simp⟩
theorem memory_s {s : Rs} {base : List Int} (hs : RsOk s) (hb8 : by8 base) (hbl : base.length ≤ 100000) (hse : s.e = 0) {Q : CR → List Ob → Prop}
    (hq0 : (memR base s).1.e = 0 → ∀ vm G J, Acb (1 + G.length) J vm (memR base s).2 → Q (.ret vm) (Rd (memR base s).1 :: (G ++ J)))
    (hq1 : (memR base s).1.e ≠ 0 → ∀ s' G, Q (.panic (wrong (memR base s).1.e)) (Rd s' :: G)) :
    WFun p 31 [.ptr 0 0, byV base] [Rd s] Q := by
  refine WFun_of w31 rfl rfl k31 ?_
  simp -dsimp [w31]
  refine pagesP_s _ ?_
  simp -dsimp [isInl]
  refine rangeA_s hbl rfl fun va T ha => ?_
  simp -dsimp [isInl]
  have hN : npg base ≤ 2000 := by unfold npg; omega
  refine clone_list (by omega) fun vm J hm => ?_
  obtain ⟨x1, x2, x3⟩ := accv ha
  obtain ⟨y1, y2, y3⟩ := accv hm
  simp -dsimp [x1, x2, x3, y1, y2, y3, acc_len ha]
  refine num_go hs rfl ?_
  simp -dsimp [x1, x2, x3, y1, y2, y3]
  refine err_go (s := (rd 0 (npg base : Nat) s).1) rfl ?_
  simp -dsimp []
  have hR := @rd_pos 0 (npg base : Nat) s
  have hE := @rd_err 0 (npg base : Nat) s
  have hRs := rd_rs (lo := 0) (hi := (npg base : Nat)) hs
  unfold memR at hq0 hq1
  generalize rd 0 ((npg base : Nat) : Int) s = R at *
  by_cases c1 : R.1.e = 0
  · rw [c1]
    refine must_0 ?_
    obtain ⟨q, hq⟩ : ∃ q : Nat, R.2 = q := ⟨R.2.toNat, by have := hR c1; omega⟩
    have hqN : q ≤ npg base := by have := hR c1; omega
    rw [hq, Int.toNat_natCast] at hq0 hq1
    simp -dsimp [hq]
    refine xL_by (by kernel_rfl) (fun k e H => ∃ (i : Nat) (s2 : Rs) (next : Nat) (m : List Int) (J : List Ob), i ≤ q ∧ k = q - i ∧ e 0 = .ptr 0 0 ∧ e 1 = byV base ∧ e 5 = .ptr 1 0 ∧ e 8 = vm ∧ e 10 = .int .i64 next ∧ e 33 = .int .i64 q ∧ e 34 = .int .i64 i ∧ H = Rd s2 :: .live [va] :: .live [byV base] :: .dead :: (T ++ J) ∧ RsOk s2 ∧ s2.e = 0 ∧ m.length = base.length ∧ next ≤ npg base ∧ Acb (4 + T.length) J vm m ∧ memK base (q - i) s2 next m = memK base q R.1 0 base) q ?_ ?_
    · refine ⟨0, R.1, 0, base, J, by omega, rfl, ?_⟩
      simp -dsimp [c1]
      exact ⟨hRs, by have := acc_acb hm; simpa [show T.length + 1 + 1 + 1 + 1 = 4 + T.length from by omega] using this⟩
    · rintro k e H ⟨i, s2, next, m, J, hi, hk, h0, h1, h5, h8, h10, h33, h34, rfl, hs2, hse2, hml, hnx, hacb, hK⟩
      by_cases c2 : i < q
      · have hp : 0 < npg base := by omega
        have hbp : 0 < base.length := by unfold npg at hp; omega
        obtain ⟨k', hk'⟩ : ∃ z, q - i = z + 1 := ⟨q - i - 1, by omega⟩
        rw [hk', memK] at hK
        have w1 : IntKind.i64.wrap ((npg base : Int) - 1) = (npg base : Int) - 1 := Fz.w64 (by omega) (by omega)
        have w2 : IntKind.i64.wrap ((i : Int) + 1) = ((i + 1 : Nat) : Int) := by rw [Fz.w64 (by omega) (by omega)]; omega
        simp -dsimp [h0, h1, h5, h8, h10, h33, h34, c2, x1, x2, x3, y1, y2, y3, acc_len ha, w1]
        refine num_go hs2 rfl ?_
        simp -dsimp [h0, h1, h5, h8, h10, h33, h34, x1, x2, x3]
        have hA := @rd_pos next ((npg base : Int) - 1) s2
        have hAr := rd_rs (lo := next) (hi := (npg base : Int) - 1) hs2
        have hAn : 0 ≤ (rd next ((npg base : Int) - 1) s2).2 := by
          by_cases c : (rd next ((npg base : Int) - 1) s2).1.e = 0
          · have := hA c; omega
          · rw [rd_err c]; omega
        generalize rd (next : Int) ((npg base : Int) - 1) s2 = A at *
        obtain ⟨A1, A2⟩ := A
        simp only at hA hAr hAn hK ⊢
        obtain ⟨n, rfl⟩ : ∃ n : Nat, A2 = (n : Int) := ⟨A2.toNat, by omega⟩
        rw [Int.toNat_natCast] at hK
        refine text_go hAr rfl ?_
        simp -dsimp [h0, h1, h5, h8, h10, h33, h34, x1, x2, x3]
        have hTr := rdT_rs (m := 65536) hAr
        have hT8 := @rdT_by 65536 A1 hAr
        have hTe := @rdT_e 65536 A1
        have hTl := @rdT_len 65536 A1
        generalize rdT 65536 A1 = X at *
        refine err_go (s := X.1) rfl ?_
        simp -dsimp [h0, h1, h5, h8, h10, h33, h34, x1, x2, x3]
        by_cases c3 : X.1.e = 0
        · rw [if_neg (by omega)] at hK
          rw [c3]
          refine must_0 ?_
          obtain ⟨hA1, hA2⟩ := hA (hTe c3)
          have hnN : n < npg base := by omega
          rcases ha with ⟨_, _, ⟨z, _⟩ | ⟨jt, rfl, hjt⟩⟩
          · have := congrArg List.length z; simp at this; omega
          rw [flat_one (fun _ => rfl)] at hjt
          rcases hacb with ⟨rfl, _⟩ | ⟨jm, bs, rfl, z1, z2, z3⟩
          · simp at hml; omega
          simp -dsimp [h0, h1, h5, h8, h10, h33, h34, hnN]
          have wsl : ∀ (P : List Int) (L : List V → Bool → Prop) (O : Nat → Nat → Nat → Nat → Prop), wSl (byT P) L O = L (P.map (V.int .u8)) true := fun _ _ _ => rfl
          have pl := pg_len base n
          have hTl' : X.2.length ≤ 65536 := hTl
          have cTk := takeR_s (b := X.2) (many := (pg base n).length) (by omega) (hT8) (by omega)
          have cTk' : ∀ H Q, xCall p 76 [byT X.2, .int .i64 (pg base n).length] H Q = Q (.ret (.tuple [byV (takeR X.2 (pg base n).length).1, .int .i64 (takeR X.2 (pg base n).length).2])) H := fun H Q => call_nrm rfl (by simp [byT]) (by simp [byT, byV, nrm, nrmL_eq]) cTk
          have hB := @takeR_B X.2 (pg base n).length (by omega) hT8
          generalize takeR X.2 (pg base n).length = Y at *
          rw [wLive_is (live_at4 hjt), pgl_at hnN]
          refine ⟨by simp; omega, ?_⟩
          simp -dsimp [h0, h1, h5, h8, h10, h33, h34, wsl, cTk']
          by_cases c4 : Y.2 = 0
          · rw [if_neg (by omega)] at hK
            rw [c4]
            refine must_0 ?_
            obtain ⟨hY1, hY2, _⟩ := hB c4
            have cE := equal_s hY2 (pg_by hb8 n)
            have cE' : ∀ H Q, xCall p 14 [byV Y.1, byT (pg base n)] H Q = Q (.ret (.bool (decide (Y.1 = pg base n)))) H := fun H Q => call_nrm rfl (by simp [byT]) (by simp [byT, byV, nrm, nrmL_eq]) cE
            simp -dsimp [h0, h1, h5, h8, h10, h33, h34, hnN]
            rw [wLive_is (live_at4 hjt), pgl_at hnN]
            refine ⟨by simp; omega, ?_⟩
            simp -dsimp [h0, h1, h5, h8, h10, h33, h34, cE']
            by_cases c5 : Y.1 = pg base n
            · rw [if_pos c5] at hK
              rw [decide_eq_true c5]
              refine is_f ?_
              simp -dsimp []
              rw [← hK] at hq1
              exact hq1 (by simp) X.1 _
            · rw [if_neg c5] at hK
              rw [decide_eq_false c5]
              refine is_t ?_
              obtain ⟨z, hz⟩ : ∃ z, z = 64 * n := ⟨_, rfl⟩
              have hzl : z < base.length := by unfold npg at hnN; omega
              have hzm : ¬ m.length = z := by omega
              have hzm2 : z ≤ m.length := by omega
              have w64 : IntKind.i64.wrap ((n : Int) * 64) = (z : Int) := by rw [Fz.w64 (by omega) (by omega)]; omega
              simp -dsimp [h0, h1, h5, h8, h10, h33, h34, w64, hzm, hzm2]
              have hYl : Y.1.length = (pg base n).length := hY1
              have hYm : Y.1.length.min (m.length - z) = Y.1.length := Nat.min_eq_left (by omega)
              have hT1 : List.take (Y.1.length * 1) (Y.1.map (V.int .u8)) = Y.1.map (V.int .u8) := List.take_of_length_le (by simp)
              rw [wMut_is (live_at4b z1)]
              rw [hYm, hT1]
              refine ⟨⟨rfl, by simp; omega, by simp [storable]⟩, ?_⟩
              have w5 : IntKind.i64.wrap ((n : Int) + 1) = ((n + 1 : Nat) : Int) := by rw [Fz.w64 (by omega) (by omega)]; omega
              simp -dsimp [h0, h1, h5, h8, h10, h33, h34, w2, w5]
              refine ⟨q - (i + 1), by omega, i + 1, X.1, n + 1, lay64 m n Y.1, J.set jm (.live ((lay64 bs n Y.1).map (V.int .u8))), by omega, rfl, ?_⟩
              simp -dsimp [h0, h1, h5, h8, h33, c3]
              rw [set_at4b]
              have hlm : (lay64 m n Y.1).length = m.length := lay_len (by omega)
              have hlb : (lay64 bs n Y.1).length = bs.length := lay_len (by omega)
              have hjm : jm < J.length := (List.getElem?_eq_some_iff.1 z1).1
              refine ⟨by unfold lay64; rw [← hz]; simp, hTr, by omega, by omega, .inr ⟨jm, lay64 bs n Y.1, by rw [hlm], by simp [hjm], by omega, ?_⟩, by rw [show q - (i + 1) = k' from by omega]; exact hK⟩
              rw [hlm, lay_take (by omega) z2, z3]
          · rw [if_pos c4] at hK
            refine must_x c4 ?_
            simp -dsimp []
            rw [← hK] at hq1
            exact hq1 c4 X.1 _
        · rw [if_pos c3] at hK
          refine must_x c3 ?_
          simp -dsimp []
          rw [← hK] at hq1
          exact hq1 c3 X.1 _
      · have hiq : i = q := by omega
        subst hiq
        rw [Nat.sub_self, memK] at hK
        rw [← hK] at hq0
        simp -dsimp [h0, h1, h5, h8, h10, h33, h34]
        exact hq0 hse2 vm (.live [va] :: .live [byV base] :: .dead :: T) J (by simpa [show 1 + (T.length + 1 + 1 + 1) = 4 + T.length from by omega] using hacb)
  · rw [hE c1] at hq1
    refine must_x c1 ?_
    simp -dsimp []
    exact hq1 c1 R.1 _
end Fz.D
set_option maxRecDepth 100000
namespace Fz.D
open Go
theorem mem_call {s : Rs} {base : List Int} {H : List Ob} {i : Nat} (hi : H[i]? = some (Rd s)) (hs : RsOk s) (hb8 : by8 base) (hbl : base.length ≤ 100000) (hse : s.e = 0) {Q : CR → List Ob → Prop}
    (hq0 : (memR base s).1.e = 0 → ∀ vm J, Acb H.length J vm (memR base s).2 → Q (.ret vm) (H.set i (Rd (memR base s).1) ++ J))
    (hq1 : (memR base s).1.e ≠ 0 → ∀ s', Q (.panic (wrong (memR base s).1.e)) (H.set i (Rd s'))) :
    WCall p 31 [.ptr i 0, byV base] H Q := by
  have rb : ∀ g b, ren g (byV b) = byV b := fun g b => ground_ren g _ (byV.gd b)
  have hb0 : ∀ b, refs (byV b) = [] := fun b => ground_refs _ (byV.gd b)
  have h0 : refsL [.ptr i 0, byV base] = [i] := by simp [refsL, refs, hb0]
  have hre : reach H 1000 (refsL [.ptr i 0, byV base]) [] = some [i] := by
    rw [h0]
    refine (reach_go (k := 999) rfl hi).trans ?_
    simp only [rd_refs, List.append_nil, List.nil_append]
    exact reach_end (k := 998)
  refine WCall_inl (by kernel_rfl) hre ?_
  have e1 : ([i] : List Nat).idxOf i = 0 := by simp
  have hi' : H[i]?.getD .dead = Rd s := by rw [hi]; rfl
  simp -dsimp [renL, ren, e1, hi', rb, rd_ren]
  refine memory_s hs hb8 hbl hse (fun he vm G J ha => ⟨by simp, ?_⟩) (fun he s' G => ⟨by simp, ?_⟩)
  · have hq := hq0 he
    rcases acb_cases ha with ⟨rfl, h⟩ | ⟨j, len, rfl, _⟩
    · have := hq (.list [] true) [] (.inl ⟨h, rfl⟩)
      have e4 : backH [i] (.ret (.list [] true)) (Rd (memR base s).1 :: (G ++ J)) H = H.set i (Rd (memR base s).1) := by
        unfold backH
        rw [if_neg (by simp [crV, refs, refsL, rd_refs])]
        simp [setAll, rd_ren]
      rw [e4]
      simpa [renR, ren, renL] using this
    · have hg : ∀ j, backK [i] H.length (1 + G.length + j) = H.length + G.length + j := fun j => by simp [backK]; omega
      have e4 : backH [i] (.ret (.own (1 + G.length + j) 0 len 1)) (Rd (memR base s).1 :: (G ++ J)) H = H.set i (Rd (memR base s).1) ++ (G.map (renOb (backK [i] H.length)) ++ J.map (renOb (backK [i] H.length))) := by
        unfold backH
        rw [if_pos (by simp [crV, refs]; omega)]
        simp [setAll, rd_ren]
      rw [e4]
      have a2 := acb_back hg ha
      have := hq _ (G.map (renOb (backK [i] H.length)) ++ J.map (renOb (backK [i] H.length))) (acb_shift a2 (by simp))
      simpa [renR, ren] using this
  · have hq := hq1 he s'
    have e4 : backH [i] (.panic (wrong (memR base s).1.e)) (Rd s' :: G) H = H.set i (Rd s') := by
      unfold backH
      rw [if_neg (by simp [crV, wrong, refs, refsL, rd_refs])]
      simp [setAll, rd_ren]
    rw [e4]
    simpa [renR, wrong, ren] using hq
theorem live_at3 {A B C : Ob} {J : List Ob} {j : Nat} {o : Ob} (h : J[j]? = some o) : (A :: B :: C :: J)[3 + j]? = some o := by
  rw [show 3 + j = j + 1 + 1 + 1 from by omega]; exact h
theorem set_at3b {A B C : Ob} {J : List Ob} {j : Nat} {o : Ob} : (A :: B :: C :: J).set (3 + j) o = A :: B :: C :: J.set j o := by
  rw [show 3 + j = j + 1 + 1 + 1 from by omega]
  rfl
theorem lay_step {bs q : List Int} {n t : Nat} (ht : t < q.length) (hb : 64 * n + q.length ≤ bs.length) : (lay64 bs n (q.take t)).take (64 * n + t) ++ gt q t :: (lay64 bs n (q.take t)).drop (64 * n + t + 1) = lay64 bs n (q.take (t + 1)) := by
  have hA : (bs.take (64 * n) ++ q.take t).length = 64 * n + t := by rw [List.length_append, List.length_take, List.length_take]; omega
  have e1 : lay64 bs n (q.take t) = (bs.take (64 * n) ++ q.take t) ++ bs.drop (64 * n + t) := by
    unfold lay64
    rw [List.length_take, Nat.min_eq_left (by omega)]
  rw [e1, List.take_append_of_le_length (by omega), List.take_of_length_le (by omega), List.drop_append, List.drop_of_length_le (by omega), hA, List.nil_append, List.drop_drop]
  unfold lay64
  rw [List.take_succ_eq_append_getElem ht, gt_at ht, List.length_append, List.length_take, Nat.min_eq_left (by omega)]
  simp only [List.append_assoc, List.length_singleton, List.cons_append, List.nil_append]
  rw [show 64 * n + t + (64 * n + t + 1 - (64 * n + t)) = 64 * n + (t + 1) from by omega]
theorem refMemory_s {B : List Int} {s : Rs} {base : List Int} (hs : Suf B s) (hb8 : by8 base) (hbl : base.length ≤ 100000) (hse : s.e = 0) : Comes p 38 [refV B s, byV base] (.tuple [refV B (memR base s).1, byV (memR base s).2]) := by
  have hN : npg base ≤ 2000 := by unfold npg; omega
  have cP := pages_s (b := base) (by omega)
  have cr := read_s (lo := 0) (hi := (npg base : Nat)) hs
  have hs1 := suf_rd hs 0 (npg base : Nat)
  have hR := @rd_pos 0 (npg base : Nat) s
  have hE := @rd_err 0 (npg base : Nat) s
  unfold memR
  simp only [refV, refC] at cr
  generalize rd 0 ((npg base : Nat) : Int) s = R at *
  refine Comes_of w38 rfl rfl k38 ?_ ?_ ?_ ?_
  · simp
  · simp
  · simp
  · have hRn : 0 ≤ R.2 := by
      by_cases c : R.1.e = 0
      · exact (hR c).1
      · rw [hE c]; omega
    obtain ⟨R1, R2⟩ := R
    obtain ⟨q, rfl⟩ : ∃ q : Nat, R2 = (q : Int) := ⟨R2.toNat, by simp only at hRn; omega⟩
    simp only at hR hE hs1 cr ⊢
    have hqe : 0 < q → R1.e = 0 := fun h => by
      by_cases c : R1.e = 0
      · exact c
      · have := hE c; omega
    have hqN : q ≤ npg base := by
      by_cases c : R1.e = 0
      · have := hR c; omega
      · have := hE c; omega
    simp -dsimp [-wAppend_list, w38, wFix_by, isInl, refC, quiet_by cP, quiet_by cr]
    refine app_acb 3 (l := []) (m := base) acb_nil (by simp) (by simp [capOk]; omega) fun v J ha => ?_
    simp -dsimp []
    refine xL_by (by kernel_rfl) (fun k e H => ∃ (i : Nat) (s2 : Rs) (next : Nat) (m : List Int) (v : V) (J : List Ob), i ≤ q ∧ k = q - i ∧ e 1 = byV base ∧ e 4 = .ptr 1 0 ∧ e 6 = .ptr 2 0 ∧ e 7 = .int .i64 q ∧ e 8 = v ∧ e 9 = .int .i64 next ∧ e 10 = .int .i64 i ∧ H = .live (refC B s) :: .live [.list [] true, .int .i64 0, .int .i64 0] :: .live (refC B s2) :: J ∧ Suf B s2 ∧ (i < q → s2.e = 0) ∧ m.length = base.length ∧ next ≤ npg base ∧ Acb 3 J v m ∧ memK base (q - i) s2 next m = memK base q R1 0 base) q ?_ ?_
    · refine ⟨0, R1, 0, base, v, J, by omega, rfl, ?_⟩
      simp -dsimp [refC]
      exact ⟨hs1, hqe, by simpa using ha⟩
    · rintro k e H ⟨i, s2, next, m, v, J, hi, hk, h1, h4, h6, h7, h8, h9, h10, rfl, hs2, hse2, hml, hnx, hacb, hK⟩
      obtain ⟨y1, y2, y3⟩ := acb_val hacb
      by_cases c2 : i < q
      · have hse2 := hse2 c2
        have hp : 0 < npg base := by omega
        have hbp : 0 < base.length := by unfold npg at hp; omega
        obtain ⟨k', hk'⟩ : ∃ z, q - i = z + 1 := ⟨q - i - 1, by omega⟩
        rw [hk', memK] at hK
        have w1 : IntKind.i64.wrap ((npg base : Int) - 1) = (npg base : Int) - 1 := Fz.w64 (by omega) (by omega)
        have w2 : IntKind.i64.wrap ((i : Int) + 1) = ((i + 1 : Nat) : Int) := by rw [Fz.w64 (by omega) (by omega)]; omega
        have cA := read_s (lo := (next : Int)) (hi := (npg base : Int) - 1) hs2
        have hA := @rd_pos next ((npg base : Int) - 1) s2
        have hAs := suf_rd hs2 (next : Int) ((npg base : Int) - 1)
        have hAn : 0 ≤ (rd next ((npg base : Int) - 1) s2).2 := by
          by_cases c : (rd next ((npg base : Int) - 1) s2).1.e = 0
          · have := hA c; omega
          · rw [rd_err c]; omega
        generalize rd (next : Int) ((npg base : Int) - 1) s2 = A at *
        obtain ⟨A1, A2⟩ := A
        simp only at hA hAs hAn hK cA
        obtain ⟨n, rfl⟩ : ∃ n : Nat, A2 = (n : Int) := ⟨A2.toNat, by omega⟩
        rw [Int.toNat_natCast] at hK
        have cT := readText_s (m := 65536) hAs
        have hTs := suf_rdT hAs 65536
        have hT8 := @rdT_by 65536 A1 (suf_ok hAs)
        have hTe := @rdT_e 65536 A1
        have hTl := @rdT_len 65536 A1
        generalize rdT 65536 A1 = X at *
        simp only [refV, refC] at cA cT
        rw [hse2] at cA
        by_cases c3 : X.1.e = 0
        · rw [if_neg (by omega)] at hK
          obtain ⟨hA1, hA2⟩ := hA (hTe c3)
          have hnN : n < npg base := by omega
          have hn64 : 64 * n < base.length := by unfold npg at hnN; omega
          have cPg := page_s (b := base) (n := n) (by omega) (by omega)
          have pl := pg_len base n
          have hTl' : X.2.length ≤ 65536 := hTl
          have cTk := refTakeR_s (b := X.2) (many := (pg base n).length) (by omega) hT8 (by omega)
          have hB := @takeR_B X.2 (pg base n).length (by omega) hT8
          generalize takeR X.2 (pg base n).length = Y at *
          by_cases c4 : Y.2 = 0
          · rw [if_neg (by omega)] at hK
            obtain ⟨hY1, hY2, _⟩ := hB c4
            have eA := all8 hY2
            have eB := all8 (pg_by hb8 n)
            have e : decide (bstr Y.1 = bstr (pg base n)) = decide (Y.1 = pg base n) := decide_eq_decide.2 ⟨bstr_inj hY2 (pg_by hb8 n), fun h => by rw [h]⟩
            rw [c4] at cTk
            by_cases c5 : Y.1 = pg base n
            · rw [if_pos c5] at hK
              rw [decide_eq_true c5] at e
              simp -dsimp [h1, h4, h6, h7, h8, h9, h10, c2, hse2, w1, refC, quiet_by cP, quiet_by cA, call_by cT, c3, call_by cPg, call_by cTk, quiet_by cPg, eA, eB, bstr_fold, e]
              rw [← hK]
              simp -dsimp [wFix_by, isInl, refV, refC]
              rfl
            · rw [if_neg c5] at hK
              rw [decide_eq_false c5] at e
              obtain ⟨z, hz⟩ : ∃ z, z = 64 * n := ⟨_, rfl⟩
              have hYl : Y.1.length = (pg base n).length := hY1
              have w5 : IntKind.i64.wrap ((n : Int) + 1) = ((n + 1 : Nat) : Int) := by rw [Fz.w64 (by omega) (by omega)]; omega
              have w64 : IntKind.i64.wrap (64 * (n : Int)) = (z : Int) := by rw [Fz.w64 (by omega) (by omega)]; omega
              simp -dsimp [h1, h4, h6, h7, h8, h9, h10, c2, hse2, w1, refC, quiet_by cP, quiet_by cA, call_by cT, c3, call_by cPg, call_by cTk, quiet_by cPg, eA, eB, bstr_fold, e]
              rcases hacb with ⟨rfl, _⟩ | ⟨jm, bs, rfl, z1, z2, z3⟩
              · simp at hml; omega
              have hjm : jm < J.length := (List.getElem?_eq_some_iff.1 z1).1
              refine xL_by (by kernel_rfl) (fun k2 e H => ∃ (t : Nat) (J2 : List Ob), t ≤ Y.1.length ∧ k2 = Y.1.length - t ∧ e 1 = byV base ∧ e 4 = .ptr 1 0 ∧ e 6 = .ptr 2 0 ∧ e 7 = .int .i64 q ∧ e 8 = .own (3 + jm) 0 m.length 1 ∧ e 10 = .int .i64 i ∧ e 12 = .int .i64 n ∧ e 15 = byV Y.1 ∧ e 17 = .int .i64 t ∧ H = .live (refC B s) :: .live [.list [] true, .int .i64 0, .int .i64 0] :: .live (refC B X.1) :: J2 ∧ J2[jm]? = some (.live ((lay64 bs n (Y.1.take t)).map (V.int .u8)))) Y.1.length ?_ ?_
              · refine ⟨0, J ++ [.live (refC B A1), .live [byV B, .int .i64 (B.length - X.1.b.length : Nat), .int .i64 0]], by omega, rfl, ?_⟩
                simp -dsimp [h1, h4, h6, h7, h8, h10, refC, c3]
                rw [List.getElem?_append_left hjm, z1, show lay64 bs n [] = bs from by simp [lay64]]
              · rintro k2 e2 H ⟨t, J2, ht, hk2, g1, g4, g6, g7, g8, g10, g12, g15, g17, rfl, gJ⟩
                by_cases c6 : t < Y.1.length
                · have gY : Y.1[t] = gt Y.1 t := gt_at c6
                  obtain ⟨u, hu⟩ : ∃ u, u = z + t := ⟨_, rfl⟩
                  have w6 : IntKind.i64.wrap ((z : Int) + (t : Int)) = (u : Int) := by rw [Fz.w64 (by omega) (by omega)]; omega
                  have hum : u < m.length := by omega
                  have hlt : (lay64 bs n (Y.1.take t)).length = bs.length := lay_len (by rw [List.length_take]; omega)
                  have w7 : IntKind.i64.wrap ((t : Int) + 1) = ((t + 1 : Nat) : Int) := by rw [Fz.w64 (by omega) (by omega)]; omega
                  simp -dsimp [g1, g4, g6, g7, g8, g10, g12, g15, g17, c6, gY, w64, w6, w7, hum]
                  rw [wMut_is (live_at3 gJ)]
                  refine ⟨⟨rfl, by simp; omega, rfl⟩, ?_⟩
                  simp -dsimp [g1, g4, g6, g7, g8, g10, g12, g15, g17, w7]
                  refine ⟨Y.1.length - (t + 1), by omega, t + 1, J2.set jm (.live ((lay64 bs n (Y.1.take (t + 1))).map (V.int .u8))), by omega, rfl, ?_⟩
                  simp -dsimp [g1, g4, g6, g7, g8, g10, g12, g15]
                  have hjm2 : jm < J2.length := (List.getElem?_eq_some_iff.1 gJ).1
                  rw [set_at3b, ← List.map_take, ← List.map_drop, hu, hz, ← lay_step c6 (by omega)]
                  refine ⟨by simp, by simp [hjm2]⟩
                · have htY : t = Y.1.length := by omega
                  subst htY
                  rw [List.take_length] at gJ
                  simp -dsimp [g1, g4, g6, g7, g8, g10, g12, g15, g17, w5, w2]
                  have hlm : (lay64 m n Y.1).length = m.length := lay_len (by omega)
                  have hlb : (lay64 bs n Y.1).length = bs.length := lay_len (by omega)
                  refine ⟨q - (i + 1), by omega, i + 1, X.1, n + 1, lay64 m n Y.1, .own (3 + jm) 0 m.length 1, J2, by omega, rfl, ?_⟩
                  simp -dsimp [g1, g4, g6, g7, g8]
                  refine ⟨hTs, fun _ => c3, by omega, by omega, .inr ⟨jm, lay64 bs n Y.1, by rw [hlm], gJ, by omega, by rw [hlm, lay_take (by omega) z2, z3]⟩, by rw [show q - (i + 1) = k' from by omega]; exact hK⟩
          · rw [if_pos c4] at hK
            simp -dsimp [h1, h4, h6, h7, h8, h9, h10, c2, hse2, w1, refC, quiet_by cP, quiet_by cA, call_by cT, c3, call_by cPg, call_by cTk, c4]
            rw [← hK]
            simp -dsimp [wFix_by, isInl, refV, refC]
            rfl
        · rw [if_pos c3] at hK
          simp -dsimp [h1, h4, h6, h7, h8, h9, h10, c2, hse2, w1, refC, quiet_by cP, quiet_by cA, call_by cT, c3]
          rw [← hK]
          simp -dsimp [wFix_by, isInl, refV, refC]
          rfl
      · have hiq : i = q := by omega
        subst hiq
        rw [Nat.sub_self, memK] at hK
        rw [← hK]
        simp -dsimp [h1, h4, h6, h7, h8, h9, h10, refC]
        simp -dsimp [wFix_by, isInl]
        refine frz_acg 3 (k := 10) (by simpa using acb_ac hacb) (by simp) (.inl ⟨rfl, by simp⟩) fun H' _ _ => ?_
        simp -dsimp [byV, refV, refC]
end Fz.D
set_option maxRecDepth 100000
namespace Fz.D
open Go
structure SnOk (s : St) (base : List Int) : Prop where
  m8 : by8 s.mem
  b8 : by8 base
  len : s.mem.length = base.length
  ml : s.mem.length ≤ 100000
  ol : s.out.length ≤ 100000
  sl : StLen s
  d : DeOk (diffD (rest s) St0)
  dl : (encD (diffD (rest s) St0)).length ≤ 10000000
theorem stlen0 : StLen St0 := by constructor <;> simp [St0]
end Fz.D
set_option maxRecDepth 100000
namespace Fz.D
open Go
theorem Comes_wf {p : AP} {f : FuncId} {args : List V} {v : V} (ha : args.all gr = true) (hn : (p.inlY f || args.all nm) = true) (hv : gr v = true) (h : WFun p f args [] (wFix p f v)) : Comes p f args v := by
  obtain ⟨n, r, H', h1, h2⟩ := h
  cases r with
  | panic _ => cases h2
  | ret u => exact ⟨ha, hv, hn, n, u, H', h1, h2⟩
def dRd (b : List Int) : De × Int := if endR (tr b).s19 = 0 then ((tr b).d, 0) else (De0, endR (tr b).s19)
theorem endR_e {s : Rs} (h : endR s = 0) : s.e = 0 ∧ s.b = [] := by
  unfold endR at h
  split at h
  · omega
  · rename_i c
    refine ⟨h, List.length_eq_zero_iff.1 ?_⟩
    by_cases c2 : 0 < s.b.length
    · exact absurd ⟨h, c2⟩ c
    · omega
theorem dTake_s {b : List Int} (hb : b.length ≤ 10000000) (hby : by8 b) : Comes p 35 [byV b] (.tuple [deV (dRd b).1, .int .i64 (dRd b).2]) := by
  have t1 := take_s (tk b) hb hby
  obtain ⟨f1, f2⟩ := tk_tr (tk b) (tr b)
  unfold takeV at t1
  rw [f1] at t1
  unfold dRd
  by_cases he : endR (tr b).s19 = 0
  · rw [if_pos he, f2 (endR_e he).1] at t1
    rw [if_pos he]
    exact t1
  · rw [if_neg he] at t1
    rw [if_neg he]
    exact t1
theorem dRefTake_s {b : List Int} (hb : b.length ≤ 10000000) (hby : by8 b) : Comes p 41 [byV b] (.tuple [deV (dRd b).1, .int .i64 (dRd b).2]) := by
  have t1 := refTake_s (tr b) hb hby
  unfold refTakeV at t1
  unfold dRd
  by_cases he : endR (tr b).s19 = 0
  · rw [if_pos he] at t1 ⊢
    exact t1
  · rw [if_neg he] at t1 ⊢
    exact t1
def emptyD (d : De) : Bool := decide (d.mem.length = 0) && (decide (d.out = 0) && (decide (d.dk = 0) && (decide (d.rk = 0) && (decide (d.ck = 0) && (decide (d.wk = 0) && decide (d.sk = 0))))))
theorem eqL_int {l m : List V} {o : Nat} {k : IntKind} {a b : Int} {r : List (Nat × LfK)} (h1 : l[o]? = some (.int k a)) (h2 : m[o]? = some (.int k b)) : eqLeaves l m ((o, .int) :: r) = if a = b then eqLeaves l m r else some false := by
  rw [eqLeaves, h1, h2]
  by_cases h : a = b <;> simp [leafEq, h]
theorem empty_eq (d : De) : eqLeaves [V.int .i64 d.mem.length, V.int .i64 d.out, V.int .i64 d.dk, V.int .i64 d.rk, V.int .i64 d.ck, V.int .i64 d.wk, V.int .i64 d.sk] [V.int .i64 0, V.int .i64 0, V.int .i64 0, V.int .i64 0, V.int .i64 0, V.int .i64 0, V.int .i64 0]
    [(0, .int), (1, .int), (2, .int), (3, .int), (4, .int), (5, .int), (6, .int)] = some (emptyD d) := by
  rw [eqL_int rfl rfl, eqL_int rfl rfl, eqL_int rfl rfl, eqL_int rfl rfl, eqL_int rfl rfl, eqL_int rfl rfl, eqL_int rfl rfl, eqLeaves]
  unfold emptyD
  by_cases h1 : d.mem.length = 0
  · rw [if_pos (by omega), decide_eq_true h1]
    by_cases h2 : d.out = 0
    · rw [if_pos h2, decide_eq_true h2]
      by_cases h3 : d.dk = 0
      · rw [if_pos h3, decide_eq_true h3]
        by_cases h4 : d.rk = 0
        · rw [if_pos h4, decide_eq_true h4]
          by_cases h5 : d.ck = 0
          · rw [if_pos h5, decide_eq_true h5]
            by_cases h6 : d.wk = 0
            · rw [if_pos h6, decide_eq_true h6]
              by_cases h7 : d.sk = 0
              · rw [if_pos h7, decide_eq_true h7]; rfl
              · rw [if_neg h7, decide_eq_false h7]; rfl
            · rw [if_neg h6, decide_eq_false h6]; rfl
          · rw [if_neg h5, decide_eq_false h5]; rfl
        · rw [if_neg h4, decide_eq_false h4]; rfl
      · rw [if_neg h3, decide_eq_false h3]; rfl
    · rw [if_neg h2, decide_eq_false h2]; rfl
  · rw [if_neg (by omega), decide_eq_false h1]; rfl
theorem empty_x (d : De) {H : List Ob} {Q : CR → List Ob → Prop} (hq0 : emptyD d = true → Q (.ret (.tuple [])) H) (hq1 : emptyD d = false → Q (.panic (wrong 2)) H) : xCall p 36 [deV d] H Q := by
  have h0 : refsL [deV d] = [] := groundL_refs _ (by simp)
  refine WCall_inl (by kernel_rfl) (ids := []) (by rw [h0]; rfl) ?_
  rw [groundL_ren _ [deV d] (by simp)]
  refine WFun_of w36 rfl rfl k36 ?_
  have hE := empty_eq d
  cases he : emptyD d with
  | true =>
    rw [he] at hE
    simp -dsimp [w36, fillV, splice, chunk, hE]
    refine is_t ?_
    simp -dsimp []
    have := hq0 he
    simpa [backH, setAll, renR, crV, refs, refsL, renL, ren] using this
  | false =>
    rw [he] at hE
    simp -dsimp [w36, fillV, splice, chunk, hE]
    refine is_f ?_
    simp -dsimp []
    have := hq1 he
    simpa [backH, setAll, renR, crV, refs, refsL, renL, ren, wrong] using this
def snapT (b base : List Int) : St × Int :=
  if endR (rdT 65536 (rdT 65536 (memR base ⟨b, 0⟩).1).1).1 ≠ 0 then (St0, endR (rdT 65536 (rdT 65536 (memR base ⟨b, 0⟩).1).1).1)
  else if (dRd (rdT 65536 (rdT 65536 (memR base ⟨b, 0⟩).1).1).2).2 ≠ 0 then (St0, (dRd (rdT 65536 (rdT 65536 (memR base ⟨b, 0⟩).1).1).2).2)
  else if emptyD (dRd (rdT 65536 (rdT 65536 (memR base ⟨b, 0⟩).1).1).2).1 = false then (St0, 2)
  else ({ backS St0 (dRd (rdT 65536 (rdT 65536 (memR base ⟨b, 0⟩).1).1).2).1 with mem := (memR base ⟨b, 0⟩).2, out := (rdT 65536 (memR base ⟨b, 0⟩).1).2 }, 0)
theorem rd_bad {lo hi : Int} {s : Rs} (h : s.e ≠ 0) : rd lo hi s = (s, 0) := by unfold rd; rw [if_pos h]
theorem rdT_bad {m : Int} {s : Rs} (h : s.e ≠ 0) : rdT m s = (s, []) := by
  unfold rdT
  rw [rd_bad h, if_pos h]
theorem endR_bad {s : Rs} (h : s.e ≠ 0) : endR s = s.e := by
  unfold endR
  rw [if_neg (fun c => h c.1)]
theorem memK_rs {base : List Int} : ∀ (k : Nat) (s : Rs) (n : Nat) (m : List Int), RsOk s → RsOk (memK base k s n m).1 := by
  intro k
  induction k with
  | zero => intro s n m h; exact h
  | succ k ih =>
    intro s n m h
    have h1 := rdT_rs (m := 65536) (rd_rs (lo := (n : Int)) (hi := (npg base : Int) - 1) h)
    rw [memK]
    split
    · exact h1
    · split
      · exact ⟨h1.len, h1.by_⟩
      · split
        · exact ⟨h1.len, h1.by_⟩
        · exact ih _ _ _ h1
theorem memR_rs {base : List Int} {s : Rs} (h : RsOk s) : RsOk (memR base s).1 := memK_rs _ _ _ _ (rd_rs h)
theorem fits0 {d : De} (h : emptyD d = true) : fitsB St0 d = true := by
  unfold emptyD at h
  simp only [Bool.and_eq_true, decide_eq_true_eq] at h
  obtain ⟨h1, h2, h3, h4, h5, h6, h7⟩ := h
  unfold fitsB restOk wi
  rw [h2, h3, h4, h5, h6, h7, List.length_eq_zero_iff.1 h1]
  simp [St0]
theorem dRd_ok {b : List Int} (hby : by8 b) (h : (dRd b).2 = 0) : b = encD (dRd b).1 ∧ TkOk (dRd b).1 := by
  unfold dRd at h ⊢
  by_cases he : endR (tr b).s19 = 0
  · rw [if_pos he]
    have h2 := endR_e he
    obtain ⟨g1, g2⟩ := tr_B hby (tr b) h2.1
    rw [h2.2, List.append_nil] at g1
    exact ⟨g1, g2⟩
  · rw [if_neg he] at h
    exact absurd h he
theorem bk0 {d : De} (h : TkOk d) : BkOk St0 d := by
  have := h.mem.2
  have := h.dt.2
  have := h.rt.2
  have := h.ct.2
  have := h.wt.2
  have := h.st.2
  constructor <;> try simp [St0]
  all_goals try omega
  intro r hr
  have := (h.mem.1 r hr).2.1
  omega
theorem rcv_s {b0 b1 : List V} {e : Int} {H : List Ob} {K : Bool → List Ob → Prop} (h0 : b0.length = 15) (h1 : b1.length = 1)
    (hk : K true (.live [.list [] true, .list [] true, .list [] true, .list [] true, .list [] true, .list [] true, .list [] true, .int .i64 0, .int .i64 0, .int .i64 0, .int .i64 0, .int .i64 0, .int .i64 0, .bool false, .bool false] :: .live [.int .i64 e] :: H)) :
    WDef p (.fn (.func 29) [] [.ptr 0 0, .ptr 1 0]) (some (wrong e)) (.live b0 :: .live b1 :: H) K := by
  refine WDef_rcv w29 (t := 5) rfl rfl rfl k29 (by kernel_rfl) ?_
  simp -dsimp [w29, finD, wrong, wrongT]
  rw [List.drop_of_length_le (by omega), show b1.tail = [] from List.length_eq_zero_iff.1 (by simp [h1])]
  exact ⟨by omega, by omega, hk⟩
theorem rcv_none {H : List Ob} {K : Bool → List Ob → Prop} (hk : K false H) : WDef p (.fn (.func 29) [] [.ptr 0 0, .ptr 1 0]) none H K := by
  refine WDef_rcv w29 (t := 5) rfl rfl rfl k29 (by kernel_rfl) ?_
  simp -dsimp [w29, finD]
  exact hk
end Fz.D
set_option maxRecDepth 100000
namespace Fz.D
open Go
theorem snapTake_s {b base : List Int} (hb : b.length ≤ 1000000) (h8 : by8 b) (hb8 : by8 base) (hbl : base.length ≤ 100000) : Comes p 9 [byV b, byV base] (.tuple [stV (snapT b base).1, .int .i64 (snapT b base).2]) := by
  refine Comes_wf ?_ ?_ ?_ ?_
  · simp
  · simp
  · simp
  have hres : w9.results = [(4, some (true, 15)), (5, some (false, 1))] := rfl
  have ok0 : RsOk ⟨b, 0⟩ := ⟨by simpa using (by omega : b.length ≤ 10000000), h8⟩
  refine WFun_dfr w9 rfl rfl rfl kd9 ?_
  simp -dsimp [w9, wPre]
  refine new_s b ?_
  simp -dsimp [wPre, isInl]
  have hrsM := memR_rs (base := base) ok0
  have hsT : snapT b base = _ := rfl
  conv at hsT => rhs; unfold snapT
  generalize hM : memR base ⟨b, 0⟩ = M at *
  refine mem_call (s := ⟨b, 0⟩) rfl ok0 hb8 hbl rfl (fun he vm J ha => ?_) (fun he s' => ?_)
  · rw [hM] at he ha
    obtain ⟨x1, x2, x3⟩ := acb_val ha
    rw [hM]
    simp -dsimp []
    refine text_go hrsM rfl ?_
    have hO := rdT_rs (m := 65536) hrsM
    have hO8 := @rdT_by 65536 M.1 hrsM
    have hOl := @rdT_len 65536 M.1
    generalize rdT 65536 M.1 = O at *
    simp -dsimp []
    refine text_go hO rfl ?_
    have hX := rdT_rs (m := 65536) hO
    have hX8 := @rdT_by 65536 O.1 hO
    have hXl := @rdT_len 65536 O.1
    generalize rdT 65536 O.1 = X at *
    simp -dsimp []
    refine does_go (end_read X.1) rfl ?_
    simp -dsimp []
    by_cases c1 : endR X.1 = 0
    · rw [if_neg (by omega)] at hsT
      rw [c1]
      refine must_0 ?_
      have hXl' : X.2.length ≤ 65536 := hXl
      have cD := dTake_s (b := X.2) (by omega) hX8
      have cD' : ∀ H Q, xCall p 35 [byT X.2] H Q = Q (.ret (.tuple [deV (dRd X.2).1, .int .i64 (dRd X.2).2])) H := fun H Q => call_nrm rfl (by simp [byT]) (by simp [byT, byV, nrm, nrmL_eq]) cD
      simp -dsimp [cD']
      by_cases c2 : (dRd X.2).2 = 0
      · rw [if_neg (by omega)] at hsT
        rw [c2]
        refine must_0 ?_
        simp -dsimp []
        obtain ⟨_, hTk⟩ := dRd_ok hX8 c2
        refine empty_x (dRd X.2).1 (fun he => ?_) (fun he => ?_)
        · rw [if_neg (by rw [he]; simp)] at hsT
          have cB := applied_s (bk0 hTk)
          unfold backV at cB
          rw [if_pos (fits0 he)] at cB
          have cB' : ∀ H Q, xCall p 37 [.agg [.list [] true, .list [] true, .list [] true, .list [] true, .list [] true, .list [] true, .list [] true, .int .i64 0, .int .i64 0, .int .i64 0, .int .i64 0, .int .i64 0, .int .i64 0, .bool false, .bool false], .agg (cellsOf (deV (dRd X.2).1))] H Q = Q (.ret (.tuple [stV (backS St0 (dRd X.2).1), .int .i64 0])) H :=
            fun H Q => call_nrm rfl (by rw [deF]; simp) (by rw [deF]; simp [nrm, nrmL_eq]; rfl) cB
          simp only [deV.cells] at cB'
          generalize (dRd X.2).1 = d at *
          simp -dsimp [cB', x1, x2, x3]
          refine rcv_none ?_
          rw [hsT]
          simp -dsimp [hres, wFix_by, isInl, x1, x2, x3]
          refine frz_acg 3 (k := 9) (by simpa using acb_ac (acb_ext (show Acb 3 J vm M.2 from ha) _)) (by simp) (.inl ⟨rfl, by simp⟩) fun H' _ _ => ?_
          simp -dsimp [byT]
          rfl
        · rw [if_pos he] at hsT
          simp -dsimp [hres]
          refine rcv_s (by simp) (by simp) ?_
          rw [hsT]
          simp -dsimp [hres, wFix_by, isInl]
          rfl
      · rw [if_pos c2] at hsT
        refine must_x c2 ?_
        simp -dsimp [hres]
        refine rcv_s (by simp) (by simp) ?_
        rw [hsT]
        simp -dsimp [hres, wFix_by, isInl]
        rfl
    · rw [if_pos c1] at hsT
      refine must_x c1 ?_
      simp -dsimp [hres]
      refine rcv_s (by simp) (by simp) ?_
      rw [hsT]
      simp -dsimp [hres, wFix_by, isInl]
      rfl
  · rw [hM] at he ⊢
    rw [rdT_bad he, rdT_bad he, endR_bad he, if_pos he] at hsT
    simp -dsimp [hres]
    refine rcv_s (by simp) (by simp) ?_
    rw [hsT]
    simp -dsimp [hres, wFix_by, isInl]
    rfl
end Fz.D
set_option maxRecDepth 100000
namespace Fz.D
open Go
end Fz.D
set_option maxRecDepth 100000
namespace Fz.D
open Go
theorem awakeS_s : Comes p 5 [] (.bool true) := by
  obtain ⟨H, h⟩ := isTrue_ok awake_run
  exact ⟨rfl, rfl, rfl, 400, .bool true, H, h, .inr ⟨rfl, .bool true, H, rfl, rfl⟩⟩
end Fz.D
set_option maxRecDepth 100000
namespace Fz.D
open Go
theorem memK_suf {B base : List Int} : ∀ (k : Nat) (s : Rs) (n : Nat) (m : List Int), Suf B s → Suf B (memK base k s n m).1 := by
  intro k
  induction k with
  | zero => intro s n m h; exact h
  | succ k ih =>
    intro s n m h
    have h1 := suf_rdT (suf_rd h (n : Int) ((npg base : Int) - 1)) 65536
    have h2 : ∀ e, Suf B ⟨(rdT 65536 (rd n ((npg base : Int) - 1) s).1).1.b, e⟩ := fun e => by have := suf_drop h1 0 e; simpa using this
    rw [memK]
    split
    · exact h1
    · split
      · exact h2 _
      · split
        · exact h2 _
        · exact ih _ _ _ h1
theorem memR_suf {B base : List Int} {s : Rs} (h : Suf B s) : Suf B (memR base s).1 := memK_suf _ _ _ _ (suf_rd h _ _)
theorem refSnapTake_s {b base : List Int} (hb : b.length ≤ 1000000) (h8 : by8 b) (hb8 : by8 base) (hbl : base.length ≤ 100000) : Comes p 10 [byV b, byV base] (.tuple [stV (snapT b base).1, .int .i64 (snapT b base).2]) := by
  have u0 : Suf b ⟨b, 0⟩ := ⟨Nat.le_refl _, by simp, by omega, h8⟩
  have cM := refMemory_s u0 hb8 hbl rfl
  have hMs := memR_suf (base := base) u0
  have hsT : snapT b base = _ := rfl
  conv at hsT => rhs; unfold snapT
  generalize memR base ⟨b, 0⟩ = M at *
  have cO := readText_s (m := 65536) hMs
  have hOs := suf_rdT hMs 65536
  generalize rdT 65536 M.1 = O at *
  have cX := readText_s (m := 65536) hOs
  have hXs := suf_rdT hOs 65536
  have hX8 := @rdT_by 65536 O.1 (suf_ok hOs)
  have hXl := @rdT_len 65536 O.1
  generalize rdT 65536 O.1 = X at *
  have cE := refEnd_s hXs
  have hXl' : X.2.length ≤ 65536 := hXl
  have cD := dRefTake_s (b := X.2) (by omega) hX8
  have cM' : ∀ H Q, xCall p 38 [.agg [byV b, .int .i64 0, .int .i64 0], byV base] H Q = Q (.ret (.tuple [refV b M.1, byV M.2])) H := fun H Q => by
    have : refV b ⟨b, 0⟩ = .agg [byV b, .int .i64 0, .int .i64 0] := by simp [refV, refC]
    rw [this] at cM
    exact call_by cM
  simp only [refV, refC] at cM' cO cX cE
  refine Comes_of w10 rfl rfl k10 ?_ ?_ ?_ ?_
  · simp
  · simp
  · simp
  · by_cases c1 : endR X.1 = 0
    · rw [if_neg (by omega)] at hsT
      rw [c1] at cE
      by_cases c2 : (dRd X.2).2 = 0
      · rw [if_neg (by omega)] at hsT
        rw [c2] at cD
        obtain ⟨_, hTk⟩ := dRd_ok hX8 c2
        cases he : emptyD (dRd X.2).1 with
        | true =>
          rw [if_neg (by rw [he]; simp)] at hsT
          have cB := refBack_s (bk0 hTk)
          unfold backV at cB
          rw [if_pos (fits0 he)] at cB
          have cB' : ∀ H Q, xCall p 42 [.agg [.list [] true, .list [] true, .list [] true, .list [] true, .list [] true, .list [] true, .list [] true, .int .i64 0, .int .i64 0, .int .i64 0, .int .i64 0, .int .i64 0, .int .i64 0, .bool false, .bool false], .agg (cellsOf (deV (dRd X.2).1))] H Q = Q (.ret (.tuple [stV (backS St0 (dRd X.2).1), .int .i64 0])) H :=
            fun H Q => call_nrm rfl (by rw [deF]; simp) (by rw [deF]; simp [nrm, nrmL_eq]; rfl) cB
          simp only [deV.cells] at cB'
          unfold emptyD at he
          simp only [Bool.and_eq_true, decide_eq_true_eq] at he
          obtain ⟨e1, e2, e3, e4, e5, e6, e7⟩ := he
          generalize (dRd X.2).1 = d at *
          have e1' : d.mem = [] := List.length_eq_zero_iff.1 e1
          rw [hsT]
          simp only [e1', e2, e3, e4, e5, e6, e7] at cB'
          simp -dsimp [w10, cM', call_by cO, call_by cX, call_by cE, call_by cD, cB', e1', e2, e3, e4, e5, e6, e7, wFix_by, isInl]
          rfl
        | false =>
          rw [if_pos he] at hsT
          rw [hsT]
          generalize (dRd X.2).1 = d at *
          by_cases e1 : d.mem.length = 0
          · have e1' : d.mem = [] := List.length_eq_zero_iff.1 e1
            by_cases e2 : d.out = 0
            · skip
              by_cases e3 : d.dk = 0
              · skip
                by_cases e4 : d.rk = 0
                · skip
                  by_cases e5 : d.ck = 0
                  · skip
                    by_cases e6 : d.wk = 0
                    · skip
                      by_cases e7 : d.sk = 0
                      · skip
                        simp [emptyD, e1, e2, e3, e4, e5, e6, e7] at he
                      · skip
                        simp -dsimp [w10, cM', call_by cO, call_by cX, call_by cE, call_by cD, e1', e2, e3, e4, e5, e6, e7, wFix_by, isInl]
                        rfl
                    · skip
                      simp -dsimp [w10, cM', call_by cO, call_by cX, call_by cE, call_by cD, e1', e2, e3, e4, e5, e6, wFix_by, isInl]
                      rfl
                  · skip
                    simp -dsimp [w10, cM', call_by cO, call_by cX, call_by cE, call_by cD, e1', e2, e3, e4, e5, wFix_by, isInl]
                    rfl
                · skip
                  simp -dsimp [w10, cM', call_by cO, call_by cX, call_by cE, call_by cD, e1', e2, e3, e4, wFix_by, isInl]
                  rfl
              · skip
                simp -dsimp [w10, cM', call_by cO, call_by cX, call_by cE, call_by cD, e1', e2, e3, wFix_by, isInl]
                rfl
            · skip
              simp -dsimp [w10, cM', call_by cO, call_by cX, call_by cE, call_by cD, e1', e2, wFix_by, isInl]
              rfl
          · have e1' : 0 < d.mem.length := by omega
            simp -dsimp [w10, cM', call_by cO, call_by cX, call_by cE, call_by cD, e1', wFix_by, isInl]
            rfl
      · rw [if_pos c2] at hsT
        rw [hsT]
        simp -dsimp [w10, cM', call_by cO, call_by cX, call_by cE, call_by cD, c2, wFix_by, isInl]
        rfl
    · rw [if_pos c1] at hsT
      rw [hsT]
      simp -dsimp [w10, cM', call_by cO, call_by cX, call_by cE, c1, wFix_by, isInl]
      rfl
end Fz.D
set_option maxRecDepth 100000
namespace Fz.D
open Go
theorem by8_lay {m q : List Int} {n : Nat} (hm : by8 m) (hq : by8 q) : by8 (lay64 m n q) :=
  by8_app (by8_app (fun x hx => hm x (List.mem_of_mem_take hx)) hq) (fun x hx => hm x (List.mem_of_mem_drop hx))
theorem memK_ok {base : List Int} (hbl : base.length ≤ 100000) : ∀ (k : Nat) (s : Rs) (n : Nat) (m : List Int), RsOk s → by8 m → m.length = base.length →
    by8 (memK base k s n m).2 ∧ (memK base k s n m).2.length ≤ base.length ∧ ((memK base k s n m).1.e = 0 → (memK base k s n m).2.length = base.length) := by
  intro k
  induction k with
  | zero => intro s n m _ hm hl; exact ⟨hm, by rw [memK, hl]; exact Nat.le_refl _, fun _ => hl⟩
  | succ k ih =>
    intro s n m h hm hl
    have h0 := rd_rs (lo := (n : Int)) (hi := (npg base : Int) - 1) h
    have h1 := rdT_rs (m := 65536) h0
    have h8 := @rdT_by 65536 _ h0
    have hr := @rd_ok (n : Int) ((npg base : Int) - 1) s
    have he := @rdT_e 65536 (rd (n : Int) ((npg base : Int) - 1) s).1
    have pl := pg_len base (rd (n : Int) ((npg base : Int) - 1) s).2.toNat
    have hB := @takeR_B (rdT 65536 (rd (n : Int) ((npg base : Int) - 1) s).1).2 (pg base (rd (n : Int) ((npg base : Int) - 1) s).2.toNat).length (by omega) h8
    rw [memK]
    split
    · rename_i c; exact ⟨by8_nil, by simp, fun h => absurd h c⟩
    · rename_i c1
      split
      · rename_i c; exact ⟨by8_nil, by simp, fun h => absurd h c⟩
      · rename_i c2
        split
        · exact ⟨by8_nil, by simp, fun h => by simp at h⟩
        · obtain ⟨b1, b2, _⟩ := hB (by omega)
          have hr := hr (he (by omega))
          refine ih _ _ _ h1 (by8_lay hm b2) ?_
          rw [lay_len, hl]
          have hN : npg base = (base.length + 63) / 64 := rfl
          omega
theorem memR_ok {base : List Int} {s : Rs} (hbl : base.length ≤ 100000) (h : RsOk s) (hb8 : by8 base) : by8 (memR base s).2 ∧ (memR base s).2.length ≤ base.length ∧ ((memR base s).1.e = 0 → (memR base s).2.length = base.length) :=
  memK_ok hbl _ _ _ _ (rd_rs h) hb8 rfl
theorem snapT_st {b base : List Int} (hb : b.length ≤ 1000000) (h8 : by8 b) (hb8 : by8 base) (hbl : base.length ≤ 100000) : StLen (snapT b base).1 ∧ by8 (snapT b base).1.mem ∧ by8 (snapT b base).1.out := by
  have ok0 : RsOk ⟨b, 0⟩ := ⟨by simpa using (by omega : b.length ≤ 10000000), h8⟩
  have hM := memR_rs (base := base) ok0
  obtain ⟨m1, m2, m3⟩ := memR_ok hbl ok0 hb8
  have s0 : StLen St0 ∧ by8 St0.mem ∧ by8 St0.out := ⟨stlen0, by8_nil, by8_nil⟩
  unfold snapT
  generalize memR base ⟨b, 0⟩ = M at *
  have hO := rdT_rs (m := 65536) hM
  have hO8 := @rdT_by 65536 M.1 hM
  have hOl := @rdT_len 65536 M.1
  generalize rdT 65536 M.1 = O at *
  have hX8 := @rdT_by 65536 O.1 hO
  have hXl := @rdT_len 65536 O.1
  generalize rdT 65536 O.1 = X at *
  have hOl' : O.2.length ≤ 65536 := hOl
  split
  · exact s0
  · split
    · exact s0
    · rename_i c2
      split
      · exact s0
      · rename_i c3
        obtain ⟨_, hTk⟩ := dRd_ok hX8 (by omega)
        generalize (dRd X.2).1 = d at *
        have h1 := hTk.dt.2
        have h2 := hTk.rt.2
        have h3 := hTk.ct.2
        have h4 := hTk.wt.2
        have h5 := hTk.st.2
        refine ⟨⟨by simp only; omega, ?_, ?_, ?_, ?_, ?_, by simp only; omega⟩, m1, hO8⟩
        all_goals simp [backS, St0]; omega
theorem lawTakes {b base : List Int} (h8 : by8 b) (hb8 : by8 base) : Comes p 4 [byV b, byV base] (.bool true) := by
  have a := awakeS_s
  refine Comes_of w4 rfl rfl k4 ?_ ?_ ?_ ?_
  · simp
  · simp
  · simp
  · by_cases c1 : (300 : Int) < b.length
    · simp -dsimp [w4, wFix_by, isInl, call_by a, c1]
    · by_cases c2 : (200 : Int) < base.length
      · simp -dsimp [w4, wFix_by, isInl, call_by a, c1, c2]
      · have t1 := snapTake_s (b := b) (base := base) (by omega) h8 hb8 (by omega)
        have t2 := refSnapTake_s (b := b) (base := base) (by omega) h8 hb8 (by omega)
        obtain ⟨s1, s2, s3⟩ := snapT_st (b := b) (base := base) (by omega) h8 hb8 (by omega)
        have ss := same_self s1 s2 s3
        generalize snapT b base = Z at *
        rw [← stF Z.1] at t1 t2 ss
        simp only [stV.cells] at t1 t2 ss
        simp -dsimp [w4, wFix_by, isInl, call_by a, c1, c2, call_by t1, call_by t2, call_by ss, quiet_by ss]
end Fz.D
