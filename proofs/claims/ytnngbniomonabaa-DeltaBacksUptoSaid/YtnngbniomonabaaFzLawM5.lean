/- Delta: calls of the library's Concat; texts as bytes. -/
import Derived.Test.YtnngbniomonabaaFzLawM4
set_option linter.all false
set_option linter.unusedVariables false
set_option linter.unusedSimpArgs false
set_option linter.unnecessarySimpa false
set_option maxRecDepth 100000
namespace Fz.D
open Go
theorem refs_lists (ls : List (List Int)) : refsL (ls.map byV) = [] := by
  induction ls with
  | nil => rfl
  | cons a l ih => rw [List.map_cons, refsL, ih]; simp [byV, refs]
theorem ren_lists {g : Nat → Nat} (ls : List (List Int)) : renL g (ls.map byV) = ls.map byV := by
  induction ls with
  | nil => rfl
  | cons a l ih => rw [List.map_cons, renL, ih]; simp [byV, ren]
/-- What grew in a call, in the caller's heap. -/
theorem ac_back {b n : Nat} {g : Nat → Nat} {J : List Ob} {id len : Nat} {out : List Int} (hg : ∀ j, g (b + j) = n + j) (h : Ac 1 b J (.own id 0 len 1) (out.map (V.int .u8))) : Ac 1 n (J.map (renOb g)) (.own (g id) 0 len 1) (out.map (V.int .u8)) := by
  obtain ⟨h1, h2, h3⟩ := h
  refine ⟨h1, h2, ?_⟩
  rcases h3 with ⟨_, h3⟩ | ⟨j, cells, h3, h4, h5, h6⟩
  · cases h3
  · cases h3
    refine .inr ⟨j, renL g cells, by rw [hg], by rw [List.getElem?_map, h4]; rfl, by rw [renL_eq, List.length_map (f := ren g)]; exact h5, ?_⟩
    rw [renL_eq, ← List.map_take, h6, ← renL_eq, flat_int, ren_ints]
theorem ac_cases {n b : Nat} {J : List Ob} {v : V} {l : List V} (h : Ac n b J v l) : v = .list [] true ∧ l = [] ∨ ∃ j len, v = .own (b + j) 0 len n ∧ len = l.length := by
  obtain ⟨_, _, h3⟩ := h
  rcases h3 with ⟨h3, h4⟩ | ⟨j, cells, h3, _⟩
  · exact .inl ⟨h4, h3⟩
  · exact .inr ⟨j, _, h3, rfl⟩
theorem concat_call {H : List Ob} {id : Nat} {ls : List (List Int)} (hid : H[id]? = some (.live (ls.map byV))) (ht : tot ls ≤ 100000000) (hl : ls.length ≤ 1000000) {Q : CR → List Ob → Prop}
    (hq : ∀ v J, Ac 1 H.length J v ((cat ls).map (V.int .u8)) → Q (.ret v) (H ++ J)) : WCall p 33 [.own id 0 ls.length 1] H Q := by
  have hr : reach H 1000 (refsL [.own id 0 ls.length 1]) [] = some [id] := reach_one hid (refs_lists ls)
  refine WCall_inl (by kernel_rfl) hr ?_
  have e1 : renL (fun i => ([id] : List Nat).idxOf i) [.own id 0 ls.length 1] = [.own 0 0 ls.length 1] := by simp [renL, ren]
  have e2 : (([id] : List Nat).map fun i => renOb (fun i => ([id] : List Nat).idxOf i) (H[i]?.getD .dead)) = [.live (ls.map byV)] := by
    simp only [List.map_cons, List.map_nil, hid, Option.getD_some, renOb, ren_lists]
  rw [e1, e2]
  refine concat_own ht hl fun v J hac => ⟨by simp, ?_⟩
  have e3 : (refsOb (.live (ls.map byV))) = [] := refs_lists ls
  rcases ac_cases hac with ⟨rfl, h0⟩ | ⟨j, len, rfl, _⟩
  · have e4 : backH [id] (.ret (.list [] true)) (.live (ls.map byV) :: J) H = H := by
      unfold backH
      rw [if_neg (by simp [crV, refs, refsL, e3])]
      simp [setAll, renOb, ren_lists, set_same hid]
    rw [e4]
    have := hq (.list [] true) [] ⟨by rw [h0]; rfl, by decide, .inl ⟨h0, rfl⟩⟩
    simpa [renR, ren, renL] using this
  · have hg : ∀ j, backK [id] H.length (1 + j) = H.length + j := fun j => by rw [Nat.add_comm]; exact back_s
    have e4 : backH [id] (.ret (.own (1 + j) 0 len 1)) (.live (ls.map byV) :: J) H = H ++ J.map (renOb (backK [id] H.length)) := by
      unfold backH
      rw [if_pos (by simp [crV, refs])]
      simp [setAll, renOb, ren_lists, set_same hid]
    rw [e4]
    have := hq _ _ (ac_back hg hac)
    simpa [renR, ren] using this
end Fz.D
namespace Fz.D
open Go
theorem frz_ac {b : Nat} {H : List Ob} {v : V} {out : List Int} (ha : Ac 1 b (H.drop b) v (out.map (V.int .u8))) : xFrz 12 v H fun u _ => u = byV out := by
  obtain ⟨_, _, h3⟩ := ha
  rcases h3 with ⟨h3, rfl⟩ | ⟨j, cells, rfl, h4, h5, h6⟩
  · have : out = [] := by simpa using h3
    subst this
    simp -dsimp [byV]
  · rw [List.getElem?_drop] at h4
    rw [flat_int] at h6
    have h6' : List.take out.length cells = out.map (V.int .u8) := by simpa using h6
    simp -dsimp [wOb_at h4, byV]
    rw [h6']
    refine ⟨by simpa using h5, ?_⟩
    simp -dsimp [byV]
theorem numC_len : ∀ (k x : Nat), x < 2 ^ k → (numC x).length ≤ k
  | 0, x, h => by
    have : x = 0 := by simpa using h
    subst this; rw [numC_zero]; simp
  | k + 1, x, h => by
    by_cases h0 : x = 0
    · subst h0; rw [numC_zero]; simp
    · rw [numC_pos h0]
      have := numC_len k (x / 128) (by rw [Nat.pow_succ] at h; omega)
      simp; omega
theorem numB_len {x : Nat} (h : x < 18446744073709551616) : (numB x).length ≤ 65 := by
  unfold numB
  have := numC_len 64 (x / 128) (by have : (2 : Nat) ^ 64 = 18446744073709551616 := by decide
                                    omega)
  simp; omega
theorem text_s {b : List Int} (hb : b.length ≤ 10000000) : Comes p 34 [byV b] (byV (numB (zz b.length).toNat ++ b)) := by
  refine Comes_of w34 rfl rfl k34 ?_ ?_ ?_ ?_
  · simp
  · simp
  · simp
  · simp -dsimp [w34, wFix_by, isInl, call_by (num_s (n := b.length) (by unfold i64; omega))]
    have hz := zz_le (n := b.length) (by unfold i64; omega)
    have hl := numB_len (x := (zz b.length).toNat) (by omega)
    refine concat_call (ls := [numB (zz b.length).toNat, b]) rfl (by simp [tot]; omega) (by simp) fun v J hac => ?_
    simp -dsimp [wFix_by, isInl]
    have := frz_ac (b := 1) (H := [.live [byV (numB (zz b.length).toNat), byV b]] ++ J) (v := v) (out := numB (zz b.length).toNat ++ b) (by simpa [cat] using hac)
    exact this
end Fz.D
namespace Fz.D
open Go
theorem refText_s {b : List Int} (hb : b.length ≤ 10000000) : Comes p 46 [byV b] (byV (numB (zz b.length).toNat ++ b)) := by
  have hz := zz_le (n := b.length) (by unfold i64; omega)
  have hl := numB_len (x := (zz b.length).toNat) (by omega)
  have h0 : (numB (zz b.length).toNat).length ≠ 0 := by unfold numB; simp
  refine Comes_of w46 rfl rfl k46 ?_ ?_ ?_ ?_
  · simp
  · simp
  · simp
  · simp -dsimp [w46, wFix_by, isInl, call_by (refNum_s (n := b.length) (by unfold i64; omega))]
    have hne : numB (zz b.length).toNat ≠ [] := fun h => h0 (by rw [h]; rfl)
    rw [if_neg hne]
    refine ⟨by simp [capOk]; omega, ?_⟩
    split
    · rename_i hb0
      subst hb0
      simp [byV]
    · refine ⟨by simp [capOk]; omega, ?_⟩
      rw [← List.map_append, ← List.length_append, List.take_of_length_le (by simp)]
      simp -dsimp [byV]
      exact List.take_of_length_le (by simp)
end Fz.D
set_option maxRecDepth 100000
namespace Fz.D
open Go
def encN (n : Int) : List Int := numB (zz n).toNat
def encs (l : List Int) : List Int := cat (l.map encN)
theorem encN_len {n : Int} (h : i64 n) : (encN n).length ≤ 65 := by
  obtain ⟨h1, h2⟩ := zz_le h
  exact numB_len (by omega)
theorem encs_succ (l : List Int) (i : Nat) (h : i < l.length) : encs (l.take (i + 1)) = encs (l.take i) ++ encN l[i] := by
  unfold encs cat
  rw [List.take_succ_eq_append_getElem h, List.map_append, List.flatten_append]; simp
theorem encs_len {l : List Int} (h : ∀ n ∈ l, i64 n) : (encs l).length ≤ 65 * l.length := by
  induction l with
  | nil => simp [encs]
  | cons n l ih =>
    have h1 := encN_len (h n (by simp))
    have h2 := ih fun m hm => h m (by simp [hm])
    have : encs (n :: l) = encN n ++ encs l := by simp [encs, cat]
    rw [this, List.length_append, List.length_cons]; omega
theorem bit_s (b : Bool) (n : Int) : Comes p 40 [.bool b, .int .i64 n] (.int .i64 (if b then n else 0)) := by
  refine Comes_of w40 rfl rfl k40 ?_ ?_ ?_ ?_
  · simp
  · simp
  · simp
  · cases b <;> simp -dsimp [w40, wFix_by, isInl]
theorem flags_s (a b : Bool) : Comes p 48 [.bool a, .bool b] (.int .i64 ((if a then 1 else 0) + (if b then 2 else 0))) := by
  refine Comes_of w48 rfl rfl k48 ?_ ?_ ?_ ?_
  · simp
  · simp
  · simp
  · cases a <;> cases b <;> simp -dsimp [w48, wFix_by, isInl] <;> rfl
theorem nums_s {l : List Int} (h : ∀ n ∈ l, i64 n) (hl : l.length ≤ 1000000) : Comes p 39 [inV l] (byV (encs l)) := by
  refine Comes_of w39 rfl rfl k39 ?_ ?_ ?_ ?_
  · simp
  · simp
  · simp
  · simp -dsimp [w39, wFix_by, isInl]
    refine xL_by (by kernel_rfl) (fun k e H => ∃ (i : Nat) (v : V), i ≤ l.length ∧ k = l.length - i ∧ e 6 = inV l ∧ e 7 = .int .i64 l.length ∧ e 8 = .int .i64 i ∧ e 3 = v ∧ Acc 1 0 H v ((encs (l.take i)).map (V.int .u8))) l.length ?_ ?_
    · refine ⟨0, .list [] true, ?_⟩
      simp -dsimp [encs]
      exact acc_nil (by decide)
    · rintro k e H ⟨i, v, hi, hk, h6, h7, h8, h3, hac⟩
      simp -dsimp [h6, h7, h8, h3, wFix_by, isInl]
      split
      · rename_i hlt
        have g : l[i]?.getD default = l[i] := by simp [hlt]
        refine ⟨hlt, ?_⟩
        have hn := num_s (h l[i] (List.getElem_mem hlt))
        simp -dsimp [hlt, call_by hn, h3]
        have e1 := encs_succ l i hlt
        have t1 : (encs (l.take i)).length ≤ 65 * l.length := Nat.le_trans (encs_len fun m hm => h m (List.mem_of_mem_take hm)) (by rw [List.length_take]; omega)
        have t2 := encN_len (h l[i] (List.getElem_mem hlt))
        refine app_acc 0 (m := (encN l[i]).map (V.int .u8)) (by simpa using hac) (by simp) (by simp [encN]) (by simp [encN]) (by simp) (by simp [storable]) (by simp [capOk]; omega) fun v' J' hac' => ?_
        have w2 : IntKind.i64.wrap ((i : Int) + 1) = ((i + 1 : Nat) : Int) := by rw [Fz.w64 (by omega) (by omega)]; omega
        simp -dsimp [h6, h7, h8, w2]
        refine ⟨l.length - (i + 1), by omega, i + 1, v', by omega, rfl, ?_⟩
        simp -dsimp [h6, h7]
        rw [e1, List.map_append]
        exact hac'
      · have hii : i = l.length := by omega
        subst hii
        rw [List.take_length] at hac
        exact frz_ac (b := 0) (by simpa using ac_acc hac)
theorem refNums_s {l : List Int} (h : ∀ n ∈ l, i64 n) (hl : l.length ≤ 1000000) : Comes p 47 [inV l] (byV (encs l)) := by
  refine Comes_of w47 rfl rfl k47 ?_ ?_ ?_ ?_
  · simp
  · simp
  · simp
  · simp -dsimp [w47, wFix_by, isInl]
    refine xL_by (by kernel_rfl) (fun k e H => ∃ (i : Nat) (v : V), i ≤ l.length ∧ k = l.length - i ∧ e 0 = inV l ∧ e 4 = .int .i64 i ∧ e 3 = v ∧ Acc 1 0 H v ((encs (l.take i)).map (V.int .u8))) l.length ?_ ?_
    · refine ⟨0, .list [] true, ?_⟩
      simp -dsimp [encs]
      exact acc_nil (by decide)
    · rintro k e H ⟨i, v, hi, hk, h0, h4, h3, hac⟩
      simp -dsimp [h0, h4, h3, wFix_by, isInl]
      split
      · rename_i hlt
        have g : l[i]?.getD default = l[i] := by simp [hlt]
        refine ⟨hlt, ?_⟩
        have hn := refNum_s (h l[i] (List.getElem_mem hlt))
        simp -dsimp [hlt, call_by hn, h3, h0, h4]
        have e1 := encs_succ l i hlt
        have t1 : (encs (l.take i)).length ≤ 65 * l.length := Nat.le_trans (encs_len fun m hm => h m (List.mem_of_mem_take hm)) (by rw [List.length_take]; omega)
        have t2 := encN_len (h l[i] (List.getElem_mem hlt))
        refine app_acc 0 (m := (encN l[i]).map (V.int .u8)) (by simpa using hac) (by simp) (by simp [encN]) (by simp [encN]) (by simp) (by simp [storable]) (by simp [capOk]; omega) fun v' J' hac' => ?_
        have w2 : IntKind.i64.wrap ((i : Int) + 1) = ((i + 1 : Nat) : Int) := by rw [Fz.w64 (by omega) (by omega)]; omega
        simp -dsimp [h0, h4, w2]
        refine ⟨l.length - (i + 1), by omega, i + 1, v', by omega, rfl, ?_⟩
        simp -dsimp [h0]
        rw [e1, List.map_append]
        exact hac'
      · have hii : i = l.length := by omega
        subst hii
        rw [List.take_length] at hac
        exact frz_ac (b := 0) (by simpa using ac_acc hac)
end Fz.D
set_option maxRecDepth 100000
namespace Fz.D
open Go
theorem put1_s {n : Int} (h : i64 n) : Comes p 35 [.int .i64 n] (byV (encN n)) := by
  refine Comes_of w35 rfl rfl k35 ?_ ?_ ?_ ?_
  · simp
  · simp
  · simp
  · simp -dsimp [w35, wFix_by, isInl, call_by (num_s h), encN]
theorem listed_s {keep : Int} {l : List Int} (hk : i64 keep) (h : ∀ n ∈ l, i64 n) (hl : l.length ≤ 1000000) :
    Comes p 36 [.int .i64 keep, inV l, .fn (.func 35) [] []] (byV (encN keep ++ encN l.length ++ encs l)) := by
  have hn : i64 (l.length : Int) := by unfold i64; omega
  have k1 := encN_len hk
  have k2 := encN_len hn
  refine Comes_of w36 rfl rfl k36 ?_ ?_ ?_ ?_
  · simp
  · simp
  · simp
  · simp -dsimp [w36, wFix_by, isInl, call_by (num_s hk), call_by (num_s hn)]
    refine concat_call (ls := [encN keep, encN l.length]) rfl (by simp [tot]; omega) (by simp) fun v J hac => ?_
    simp -dsimp [wFix_by, isInl]
    refine xL_by (by kernel_rfl) (fun k e H => ∃ (i : Nat) (v : V) (J : List Ob), i ≤ l.length ∧ k = l.length - i ∧ e 2 = .fn (.func 35) [] [] ∧ e 17 = inV l ∧ e 18 = .int .i64 l.length ∧ e 19 = .int .i64 i ∧ e 7 = v ∧
      Ac 1 1 (H.drop 1) v ((encN keep ++ encN l.length ++ encs (l.take i)).map (V.int .u8)) ∧ 1 ≤ H.length) l.length ?_ ?_
    · refine ⟨0, v, J, ?_⟩
      simp -dsimp [encs]
      simpa [cat] using hac
    · rintro k e H ⟨i, v, J, hi, hk, h2, h17, h18, h19, h7, hac, hH⟩
      simp -dsimp [h2, h17, h18, h19, h7, wFix_by, isInl]
      split
      · rename_i hlt
        have hn := put1_s (h l[i] (List.getElem_mem hlt))
        refine ⟨hlt, ?_⟩
        simp -dsimp [hlt, call_by hn, h7]
        have e1 := encs_succ l i hlt
        have t1 : (encs (l.take i)).length ≤ 65 * l.length := Nat.le_trans (encs_len fun m hm => h m (List.mem_of_mem_take hm)) (by rw [List.length_take]; omega)
        have t2 := encN_len (h l[i] (List.getElem_mem hlt))
        refine app_ac 1 (m := (encN l[i]).map (V.int .u8)) hac hH (by simp) (by simp) (by simp) (by simp [storable]) (by simp [capOk]; omega) fun v' J' hac' => ?_
        have w2 : IntKind.i64.wrap ((i : Int) + 1) = ((i + 1 : Nat) : Int) := by rw [Fz.w64 (by omega) (by omega)]; omega
        simp -dsimp [h2, h17, h18, h19, w2]
        refine ⟨l.length - (i + 1), by omega, i + 1, v', J', by omega, rfl, ?_⟩
        have e3 : (H.take 1 ++ J').tail = J' := by
          cases H with
          | nil => simp at hH
          | cons a H => rfl
        simp -dsimp [h2, h17, h18, e3]
        refine ⟨?_, by omega⟩
        rw [e1]
        simpa using hac'
      · have hii : i = l.length := by omega
        subst hii
        rw [List.take_length] at hac
        exact frz_ac (b := 1) (by simpa [List.append_assoc] using hac)
end Fz.D
namespace Fz.D
open Go
theorem bit01 (b : Bool) : i64 (if b then 1 else 0) := by cases b <;> simp [i64]
theorem put2_s {s : Slo} (h : i64 s.v) : Comes p 38 [sloV s] (byV (encs [s.v, if s.call then 1 else 0])) := by
  have hl : ∀ n ∈ [s.v, if s.call then 1 else 0], i64 n := by
    intro n hn
    simp only [List.mem_cons, List.not_mem_nil, or_false] at hn
    rcases hn with rfl | rfl
    · exact h
    · exact bit01 _
  have hn := nums_s hl (by simp)
  refine Comes_of w38 rfl rfl k38 ?_ ?_ ?_ ?_
  · simp
  · simp
  · simp
  · simp -dsimp [w38, wFix_by, isInl, quiet_by (bit_s s.call 1)]
    have q : ∀ (H : List Ob) (K : V → Prop), xQuiet p 39 [.list [.int .i64 s.v, .int .i64 (if s.call = true then 1 else 0)] true] H K = K (byV (encs [s.v, if s.call = true then 1 else 0])) :=
      fun H K => quiet_nrm (a := [inV [s.v, if s.call = true then 1 else 0]]) rfl (by simp) (by simp [inV, nrm, nrmL_eq]) hn
    simp -dsimp [fillV, splice, cellsOf, isAny, wOpt, chunk, leafy, q, wFix_by, isInl]
theorem put4_s {s : Spo} (h : i64 s.addr) (h' : i64 s.at_) : Comes p 44 [spoV s] (byV (encs [s.addr, s.at_])) := by
  have hl : ∀ n ∈ [s.addr, s.at_], i64 n := by
    intro n hn
    simp only [List.mem_cons, List.not_mem_nil, or_false] at hn
    rcases hn with rfl | rfl
    · exact h
    · exact h'
  have hn := nums_s hl (by simp)
  refine Comes_of w44 rfl rfl k44 ?_ ?_ ?_ ?_
  · simp
  · simp
  · simp
  · simp -dsimp [w44, wFix_by, isInl]
    refine call_frz rfl ?_
    simp -dsimp [wFix_by, isInl]
    rw [show (V.list [V.int .i64 s.addr, V.int .i64 s.at_] false) = inV [s.addr, s.at_] from rfl, callN_by hn]
    simp -dsimp [wFix_by, isInl]
end Fz.D
namespace Fz.D
open Go
theorem concat_call_list {H : List Ob} {ls : List (List Int)} {c : Bool} (ht : tot ls ≤ 100000000) (hl : ls.length ≤ 1000000) {Q : CR → List Ob → Prop}
    (hq : ∀ v J, Ac 1 H.length J v ((cat ls).map (V.int .u8)) → Q (.ret v) (H ++ J)) : WCall p 33 [.list (ls.map byV) c] H Q := by
  have e0 : refsL [.list (ls.map byV) c] = [] := by rw [refsL, refs, refs_lists]; rfl
  have hr : reach H 1000 (refsL [.list (ls.map byV) c]) [] = some [] := by rw [e0]; rfl
  refine WCall_inl (by kernel_rfl) hr ?_
  have e1 : renL (fun i => ([] : List Nat).idxOf i) [.list (ls.map byV) c] = [.list (ls.map byV) c] := by simp [renL, ren, ren_lists]
  rw [e1]
  refine concat_list ht hl fun v J hac => ⟨by simp, ?_⟩
  rcases ac_cases hac with ⟨rfl, h0⟩ | ⟨j, len, rfl, _⟩
  · have e4 : backH [] (.ret (.list [] true)) J H = H := by
      unfold backH
      rw [if_neg (by simp [crV, refs, refsL])]
      simp [setAll]
    rw [e4]
    have := hq (.list [] true) [] ⟨by rw [h0]; rfl, by decide, .inl ⟨h0, rfl⟩⟩
    simpa [renR, ren, renL] using this
  · have hg : ∀ j, backK [] H.length (0 + j) = H.length + j := fun j => by simp [backK]
    have e4 : backH [] (.ret (.own (0 + j) 0 len 1)) J H = H ++ J.map (renOb (backK [] H.length)) := by
      unfold backH
      rw [if_pos (by simp [crV, refs])]
      simp [setAll]
    rw [e4]
    have := hq _ _ (ac_back hg hac)
    simpa [renR, ren] using this
end Fz.D
set_option maxRecDepth 100000
namespace Fz.D
open Go
def nmB (s : ByteArray) : List Int := s.data.toList.map fun b => (b.toNat : Int)
theorem nmB_V (s : ByteArray) : (s.data.toList.map fun b => V.int .u8 b.toNat) = (nmB s).map (V.int .u8) := by simp [nmB]
def txt (b : List Int) : List Int := encN b.length ++ b
def flg (a b : Bool) : Int := (if a then 1 else 0) + (if b then 2 else 0)
theorem put3_s {s : Wor} (h : i64 s.code) (hl : (nmB s.name).length ≤ 10000000) : Comes p 42 [worV s] (byV (txt (nmB s.name) ++ encs [s.code, flg s.now s.hid])) := by
  have hn : ∀ n ∈ [s.code, flg s.now s.hid], i64 n := by
    intro n hn
    simp only [List.mem_cons, List.not_mem_nil, or_false] at hn
    rcases hn with rfl | rfl
    · exact h
    · unfold flg i64; cases s.now <;> cases s.hid <;> simp
  have hns := nums_s hn (by simp)
  have ht := text_s hl
  have q : ∀ (H : List Ob) (K : V → Prop), xQuiet p 39 [.list [.int .i64 s.code, .int .i64 (flg s.now s.hid)] true] H K = K (byV (encs [s.code, flg s.now s.hid])) :=
    fun H K => quiet_nrm (a := [inV [s.code, flg s.now s.hid]]) rfl (by simp) (by simp [inV, nrm, nrmL_eq]) hns
  have w : IntKind.i64.wrap ((if s.now = true then 1 else 0) + (if s.hid = true then 2 else 0)) = flg s.now s.hid := by unfold flg; cases s.now <;> cases s.hid <;> rfl
  refine Comes_of w42 rfl rfl k42 ?_ ?_ ?_ ?_
  · simp
  · simp
  · simp
  · simp -dsimp [w42, wFix_by, isInl, quiet_by (bit_s s.now 1), quiet_by (bit_s s.hid 2), nmB_V]
    rw [show (V.list ((nmB s.name).map (V.int .u8)) false) = byV (nmB s.name) from rfl, quiet_by ht]
    simp -dsimp [wFix_by, isInl, quiet_by (bit_s s.now 1), quiet_by (bit_s s.hid 2), w]
    simp -dsimp [fillV, splice, wOpt, chunk, q, wFix_by, isInl]
    have b1 := encN_len (n := (nmB s.name).length) (by unfold i64; omega)
    have b2 := encs_len hn
    refine concat_call_list (ls := [txt (nmB s.name), encs [s.code, flg s.now s.hid]]) (by simp [tot, txt] at b2 ⊢; omega) (by simp) fun v J hac => ?_
    simp -dsimp [wFix_by, isInl]
    exact frz_ac (b := 1) (H := [.live (cellsOf (worV s))] ++ J) (v := v) (out := txt (nmB s.name) ++ encs [s.code, flg s.now s.hid]) (by simpa [cat] using hac)
end Fz.D
set_option maxRecDepth 100000
namespace Fz.D
open Go
theorem ac_ext {n b : Nat} {J : List Ob} {v : V} {l : List V} (h : Ac n b J v l) (G : List Ob) : Ac n b (J ++ G) v l := by
  obtain ⟨h1, h2, h3⟩ := h
  refine ⟨h1, h2, ?_⟩
  rcases h3 with h3 | ⟨j, cells, h3, h4, h5, h6⟩
  · exact .inl h3
  · exact .inr ⟨j, cells, h3, by rw [List.getElem?_append_left (List.getElem?_eq_some_iff.1 h4).1]; exact h4, h5, h6⟩
def encL {α : Type} (f : α → List Int) (l : List α) : List Int := cat (l.map f)
theorem encL_succ {α : Type} (f : α → List Int) (l : List α) (i : Nat) (h : i < l.length) : encL f (l.take (i + 1)) = encL f (l.take i) ++ f l[i] := by
  unfold encL cat
  rw [List.take_succ_eq_append_getElem h, List.map_append, List.flatten_append]; simp
theorem encL_len {α : Type} {f : α → List Int} {k : Nat} : ∀ {l : List α}, (∀ a ∈ l, (f a).length ≤ k) → (encL f l).length ≤ k * l.length
  | [], _ => by simp [encL]
  | a :: l, h => by
    have h1 := h a (by simp)
    have h2 := encL_len (f := f) (k := k) (l := l) fun m hm => h m (by simp [hm])
    have : encL f (a :: l) = f a ++ encL f l := by simp [encL, cat]
    rw [this, List.length_append, List.length_cons, Nat.mul_succ]; omega
def encSlo (s : Slo) : List Int := encs [s.v, if s.call then 1 else 0]
theorem encSlo_len {s : Slo} (h : i64 s.v) : (encSlo s).length ≤ 130 := by
  refine encs_len fun n hn => ?_
  simp only [List.mem_cons, List.not_mem_nil, or_false] at hn
  rcases hn with rfl | rfl
  · exact h
  · exact bit01 _
theorem listedSlo_s {keep : Int} {l : List Slo} (hk : i64 keep) (h : ∀ s ∈ l, i64 s.v) (hl : l.length ≤ 100000) :
    Comes p 37 [.int .i64 keep, slosV l, .fn (.func 38) [] []] (byV (encN keep ++ encN l.length ++ encL encSlo l)) := by
  have hn : i64 (l.length : Int) := by unfold i64; omega
  have k1 := encN_len hk
  have k2 := encN_len hn
  refine Comes_of w37 rfl rfl k37 ?_ ?_ ?_ ?_
  · simp
  · simp
  · simp
  · simp -dsimp [w37, wFix_by, isInl, call_by (num_s hk), call_by (num_s hn)]
    refine concat_call (ls := [encN keep, encN l.length]) rfl (by simp [tot]; omega) (by simp) fun v J hac => ?_
    simp -dsimp [wFix_by, isInl]
    refine xL_by (by kernel_rfl) (fun k e H => ∃ (i : Nat) (v : V), i ≤ l.length ∧ k = l.length - i ∧ e 2 = .fn (.func 38) [] [] ∧ e 17 = slosV l ∧ e 18 = .int .i64 l.length ∧ e 19 = .int .i64 i ∧ e 7 = v ∧
      Ac 1 1 (H.drop 1) v ((encN keep ++ encN l.length ++ encL encSlo (l.take i)).map (V.int .u8)) ∧ 1 ≤ H.length) l.length ?_ ?_
    · refine ⟨0, v, ?_⟩
      simp -dsimp [encL]
      simpa [cat] using hac
    · rintro k e H ⟨i, v, hi, hk, h2, h17, h18, h19, h7, hac, hH⟩
      simp -dsimp [h2, h17, h18, h19, h7, wFix_by, isInl]
      split
      · rename_i hlt
        have hn := put2_s (h l[i] (List.getElem_mem hlt))
        have g : l[i]?.getD default = l[i] := by simp [hlt]
        have e1 := encL_succ encSlo l i hlt
        have t1 : (encL encSlo (l.take i)).length ≤ 130 * l.length := Nat.le_trans (encL_len (k := 130) fun a ha => encSlo_len (h a (List.mem_of_mem_take ha))) (by rw [List.length_take]; omega)
        have t2 := encSlo_len (h l[i] (List.getElem_mem hlt))
        have w2 : IntKind.i64.wrap ((i : Int) + 1) = ((i + 1 : Nat) : Int) := by rw [Fz.w64 (by omega) (by omega)]; omega
        refine ⟨hlt, ?_⟩
        rw [g, show (V.agg [V.int .i64 l[i].v, V.bool l[i].call]) = sloV l[i] from rfl, call_by hn]
        simp -dsimp [h2, h17, h18, h19, h7]
        refine app_ac 1 (m := (encSlo l[i]).map (V.int .u8)) (v := v) (l := (encN keep ++ encN l.length ++ encL encSlo (l.take i)).map (V.int .u8)) (by
          rw [List.drop_append_of_le_length hH]; exact ac_ext hac _) (by simp) (by simp [encSlo]) (by simp [encSlo]) (by simp) (by simp [storable]) (by simp [capOk]; omega) fun v' J' hac' => ?_
        simp -dsimp [h2, h17, h18, h19, w2]
        refine ⟨l.length - (i + 1), by omega, i + 1, v', by omega, rfl, ?_⟩
        simp -dsimp [h2, h17, h18]
        rw [e1]
        simpa using hac'
      · have hii : i = l.length := by omega
        subst hii
        rw [List.take_length] at hac
        exact frz_ac (b := 1) (by simpa [List.append_assoc] using hac)
def encSpo (s : Spo) : List Int := encs [s.addr, s.at_]
theorem encSpo_len {s : Spo} (h : i64 s.addr ∧ i64 s.at_) : (encSpo s).length ≤ 130 := by
  refine encs_len fun n hn => ?_
  simp only [List.mem_cons, List.not_mem_nil, or_false] at hn
  rcases hn with rfl | rfl
  · exact h.1
  · exact h.2
theorem listedSpo_s {keep : Int} {l : List Spo} (hk : i64 keep) (h : ∀ s ∈ l, i64 s.addr ∧ i64 s.at_) (hl : l.length ≤ 100000) :
    Comes p 43 [.int .i64 keep, sposV l, .fn (.func 44) [] []] (byV (encN keep ++ encN l.length ++ encL encSpo l)) := by
  have hn : i64 (l.length : Int) := by unfold i64; omega
  have k1 := encN_len hk
  have k2 := encN_len hn
  refine Comes_of w43 rfl rfl k43 ?_ ?_ ?_ ?_
  · simp
  · simp
  · simp
  · simp -dsimp [w43, wFix_by, isInl, call_by (num_s hk), call_by (num_s hn)]
    refine concat_call (ls := [encN keep, encN l.length]) rfl (by simp [tot]; omega) (by simp) fun v J hac => ?_
    simp -dsimp [wFix_by, isInl]
    refine xL_by (by kernel_rfl) (fun k e H => ∃ (i : Nat) (v : V), i ≤ l.length ∧ k = l.length - i ∧ e 2 = .fn (.func 44) [] [] ∧ e 17 = sposV l ∧ e 18 = .int .i64 l.length ∧ e 19 = .int .i64 i ∧ e 7 = v ∧
      Ac 1 1 (H.drop 1) v ((encN keep ++ encN l.length ++ encL encSpo (l.take i)).map (V.int .u8)) ∧ 1 ≤ H.length) l.length ?_ ?_
    · refine ⟨0, v, ?_⟩
      simp -dsimp [encL]
      simpa [cat] using hac
    · rintro k e H ⟨i, v, hi, hk, h2, h17, h18, h19, h7, hac, hH⟩
      simp -dsimp [h2, h17, h18, h19, h7, wFix_by, isInl]
      split
      · rename_i hlt
        have hn := put4_s (h l[i] (List.getElem_mem hlt)).1 (h l[i] (List.getElem_mem hlt)).2
        have g : l[i]?.getD default = l[i] := by simp [hlt]
        have e1 := encL_succ encSpo l i hlt
        have t1 : (encL encSpo (l.take i)).length ≤ 130 * l.length := Nat.le_trans (encL_len (k := 130) fun a ha => encSpo_len (h a (List.mem_of_mem_take ha))) (by rw [List.length_take]; omega)
        have t2 := encSpo_len (h l[i] (List.getElem_mem hlt))
        have w2 : IntKind.i64.wrap ((i : Int) + 1) = ((i + 1 : Nat) : Int) := by rw [Fz.w64 (by omega) (by omega)]; omega
        refine ⟨hlt, ?_⟩
        rw [g, show (V.agg [V.int .i64 l[i].addr, V.int .i64 l[i].at_]) = spoV l[i] from rfl, call_by hn]
        simp -dsimp [h2, h17, h18, h19, h7]
        refine app_ac 1 (m := (encSpo l[i]).map (V.int .u8)) (v := v) (l := (encN keep ++ encN l.length ++ encL encSpo (l.take i)).map (V.int .u8)) (by
          rw [List.drop_append_of_le_length hH]; exact ac_ext hac _) (by simp) (by simp [encSpo]) (by simp [encSpo]) (by simp) (by simp [storable]) (by simp [capOk]; omega) fun v' J' hac' => ?_
        simp -dsimp [h2, h17, h18, h19, w2]
        refine ⟨l.length - (i + 1), by omega, i + 1, v', by omega, rfl, ?_⟩
        simp -dsimp [h2, h17, h18]
        rw [e1]
        simpa using hac'
      · have hii : i = l.length := by omega
        subst hii
        rw [List.take_length] at hac
        exact frz_ac (b := 1) (by simpa [List.append_assoc] using hac)
def encWor (s : Wor) : List Int := txt (nmB s.name) ++ encs [s.code, flg s.now s.hid]
theorem encWor_len {s : Wor} (h : i64 s.code ∧ (nmB s.name).length ≤ 1000) : (encWor s).length ≤ 1200 := by
  have h1 := encN_len (n := (nmB s.name).length) (by unfold i64; omega)
  have h2 : (encs [s.code, flg s.now s.hid]).length ≤ 65 * 2 := encs_len fun n hn => by
    simp only [List.mem_cons, List.not_mem_nil, or_false] at hn
    rcases hn with rfl | rfl
    · exact h.1
    · unfold flg i64; cases s.now <;> cases s.hid <;> simp
  unfold encWor txt
  rw [List.length_append, List.length_append]
  omega
theorem listedWor_s {keep : Int} {l : List Wor} (hk : i64 keep) (h : ∀ s ∈ l, i64 s.code ∧ (nmB s.name).length ≤ 1000) (hl : l.length ≤ 100000) :
    Comes p 41 [.int .i64 keep, worsV l, .fn (.func 42) [] []] (byV (encN keep ++ encN l.length ++ encL encWor l)) := by
  have hn : i64 (l.length : Int) := by unfold i64; omega
  have k1 := encN_len hk
  have k2 := encN_len hn
  refine Comes_of w41 rfl rfl k41 ?_ ?_ ?_ ?_
  · simp
  · simp
  · simp
  · simp -dsimp [w41, wFix_by, isInl, call_by (num_s hk), call_by (num_s hn)]
    refine concat_call (ls := [encN keep, encN l.length]) rfl (by simp [tot]; omega) (by simp) fun v J hac => ?_
    simp -dsimp [wFix_by, isInl]
    refine xL_by (by kernel_rfl) (fun k e H => ∃ (i : Nat) (v : V), i ≤ l.length ∧ k = l.length - i ∧ e 2 = .fn (.func 42) [] [] ∧ e 17 = worsV l ∧ e 18 = .int .i64 l.length ∧ e 19 = .int .i64 i ∧ e 7 = v ∧
      Ac 1 1 (H.drop 1) v ((encN keep ++ encN l.length ++ encL encWor (l.take i)).map (V.int .u8)) ∧ 1 ≤ H.length) l.length ?_ ?_
    · refine ⟨0, v, ?_⟩
      simp -dsimp [encL]
      simpa [cat] using hac
    · rintro k e H ⟨i, v, hi, hk, h2, h17, h18, h19, h7, hac, hH⟩
      simp -dsimp [h2, h17, h18, h19, h7, wFix_by, isInl]
      split
      · rename_i hlt
        have hn := put3_s (h l[i] (List.getElem_mem hlt)).1 (Nat.le_trans (h l[i] (List.getElem_mem hlt)).2 (by omega))
        have g : l[i]?.getD default = l[i] := by simp [hlt]
        have e1 := encL_succ encWor l i hlt
        have t1 : (encL encWor (l.take i)).length ≤ 1200 * l.length := Nat.le_trans (encL_len (k := 1200) fun a ha => encWor_len (h a (List.mem_of_mem_take ha))) (by rw [List.length_take]; omega)
        have t2 := encWor_len (h l[i] (List.getElem_mem hlt))
        have w2 : IntKind.i64.wrap ((i : Int) + 1) = ((i + 1 : Nat) : Int) := by rw [Fz.w64 (by omega) (by omega)]; omega
        refine ⟨hlt, ?_⟩
        rw [g, show (V.agg [V.str l[i].name, V.int .i64 l[i].code, V.bool l[i].now, V.bool l[i].hid]) = worV l[i] from rfl, call_by hn]
        simp -dsimp [h2, h17, h18, h19, h7]
        refine app_ac 1 (m := (encWor l[i]).map (V.int .u8)) (v := v) (l := (encN keep ++ encN l.length ++ encL encWor (l.take i)).map (V.int .u8)) (by
          rw [List.drop_append_of_le_length hH]; exact ac_ext hac _) (by simp) (by simp [encWor]) (by simp [encWor]) (by simp) (by simp [storable]) (by simp [capOk]; omega) fun v' J' hac' => ?_
        simp -dsimp [h2, h17, h18, h19, w2]
        refine ⟨l.length - (i + 1), by omega, i + 1, v', by omega, rfl, ?_⟩
        simp -dsimp [h2, h17, h18]
        rw [e1]
        simpa using hac'
      · have hii : i = l.length := by omega
        subst hii
        rw [List.take_length] at hac
        exact frz_ac (b := 1) (by simpa [List.append_assoc] using hac)
end Fz.D
set_option maxRecDepth 100000
namespace Fz.D
open Go
def encRun (r : Rn) : List Int := encN r.at_ ++ txt r.b
/-- A delta as bytes. -/
def encD (d : De) : List Int := encN d.mem.length ++ encL encRun d.mem ++ (encN d.dk ++ encN d.dt.length ++ encs d.dt) ++ (encN d.rk ++ encN d.rt.length ++ encL encSlo d.rt) ++ (encN d.ck ++ encN d.ct.length ++ encs d.ct) ++
  (encN d.wk ++ encN d.wt.length ++ encL encWor d.wt) ++ (encN d.sk ++ encN d.st.length ++ encL encSpo d.st) ++ encs [d.out] ++ encs [d.r0, d.r1, d.r2, d.r3, d.r4, d.r5] ++ encs [flg d.comp d.halt]
structure DeOk (d : De) : Prop where
  mem : ∀ r ∈ d.mem, i64 r.at_ ∧ r.b.length ≤ 10000
  meml : d.mem.length ≤ 1000
  dk : i64 d.dk
  dt : ∀ n ∈ d.dt, i64 n
  dtl : d.dt.length ≤ 1000
  rk : i64 d.rk
  rt : ∀ s ∈ d.rt, i64 s.v
  rtl : d.rt.length ≤ 1000
  ck : i64 d.ck
  ct : ∀ n ∈ d.ct, i64 n
  ctl : d.ct.length ≤ 1000
  wk : i64 d.wk
  wt : ∀ s ∈ d.wt, i64 s.code ∧ (nmB s.name).length ≤ 1000
  wtl : d.wt.length ≤ 1000
  sk : i64 d.sk
  st : ∀ s ∈ d.st, i64 s.addr ∧ i64 s.at_
  stl : d.st.length ≤ 1000
  out : i64 d.out
  regs : ∀ n ∈ [d.r0, d.r1, d.r2, d.r3, d.r4, d.r5], i64 n
theorem encRun_len {r : Rn} (h : i64 r.at_ ∧ r.b.length ≤ 10000) : (encRun r).length ≤ 10200 := by
  have h1 := encN_len h.1
  have h2 := encN_len (n := r.b.length) (by unfold i64; omega)
  unfold encRun txt
  rw [List.length_append, List.length_append]; omega
theorem encN_ne (n : Int) : encN n ≠ [] := by unfold encN numB; simp
/-- Made to stay where it stands. -/
theorem fix_ac (b : Nat) {H : List Ob} {v : V} {out : List Int} {K : V → List Ob → Prop} (ha : Ac 1 b (H.drop b) v (out.map (V.int .u8))) (hne : out ≠ [])
    (hK : ∀ H', H'.take b = H.take b → H'.length = H.length → K (byV out) H') : xFixV v H K := by
  show wFixV v H K
  obtain ⟨h1, h2, h3⟩ := ha
  rcases h3 with ⟨h3, rfl⟩ | ⟨j, cells, rfl, h4, h5, h6⟩
  · exact absurd (by simpa using h3) hne
  · rw [List.getElem?_drop] at h4
    refine ⟨byV out, H.set (b + j) (.fixed cells), ?_, hK _ (by rw [List.take_set_of_le (by omega)]) (by simp)⟩
    have e1 : (cells.drop 0).take ((out.map (V.int .u8)).length * 1) = out.map (V.int .u8) := by rw [List.drop_zero, h6, flat_int]
    rw [show depthF = 11 + 1 from rfl, freezeV, h4]
    dsimp only
    rw [if_pos ⟨by omega, h2⟩, e1, gks_freeze (by simp)]
    dsimp only
    have e2 : (out.map (V.int .u8)).all leafy = true := by simp
    rw [if_pos (.inr e2), chunk_one]
    simp [byV]
theorem flg_i (a b : Bool) : i64 (flg a b) := by unfold flg i64; cases a <;> cases b <;> simp
theorem flg_w (a b : Bool) : IntKind.i64.wrap ((if a = true then 1 else 0) + (if b = true then 2 else 0)) = flg a b := by unfold flg; cases a <;> cases b <;> rfl
end Fz.D
set_option maxRecDepth 100000
namespace Fz.D
open Go
theorem take_cons {H : List Ob} {x : Ob} {A : List Ob} {n : Nat} (h : H.take (n + 1) = (x :: A).take (n + 1)) : ∃ T, H = x :: T := by
  cases H with
  | nil => simp at h
  | cons y T => simp at h; exact ⟨T, by rw [h.1]⟩
theorem quiet_nums {l : List Int} {c : Bool} (h : ∀ n ∈ l, i64 n) (hl : l.length ≤ 1000000) (H : List Ob) (K : V → Prop) : xQuiet p 39 [.list (l.map (V.int .i64)) c] H K = K (byV (encs l)) :=
  quiet_nrm (a := [inV l]) rfl (by simp) (by simp [inV, nrm, nrmL_eq]) (nums_s h hl)
theorem put_s {d : De} (h : DeOk d) : Comes p 14 [deV d] (byV (encD d)) := by
  have hn : i64 (d.mem.length : Int) := by have := h.meml; unfold i64; omega
  have hm := h.meml
  have b0 := encN_len hn
  refine Comes_of w14 rfl rfl k14 ?_ ?_ ?_ ?_
  · simp
  · simp
  · simp
  · simp -dsimp [w14, wFix_by, isInl, call_by (num_s hn)]
    refine xL_by (by kernel_rfl) (fun k e H => ∃ (i : Nat) (T : List Ob), i ≤ d.mem.length ∧ k = d.mem.length - i ∧ e 1 = .ptr 0 0 ∧ e 12 = runsV d.mem ∧ e 13 = .int .i64 d.mem.length ∧ e 14 = .int .i64 i ∧ e 3 = byV (encN d.mem.length ++ encL encRun (d.mem.take i)) ∧ H = .live (cellsOf (deV d)) :: T) d.mem.length ?_ ?_
    · refine ⟨0, [], ?_⟩
      simp -dsimp [encL, encN]
    · rintro k e H ⟨i, T, hi, hk, h1, h12, h13, h14, h3, rfl⟩
      have t1 : (encL encRun (d.mem.take i)).length ≤ 10200 * 1000 := Nat.le_trans (encL_len (k := 10200) fun a ha => encRun_len (h.mem a (List.mem_of_mem_take ha))) (Nat.mul_le_mul_left _ (by rw [List.length_take]; omega))
      by_cases hlt : i < d.mem.length
      · have g : d.mem[i]?.getD default = d.mem[i] := by simp [hlt]
        have hr := h.mem d.mem[i] (List.getElem_mem hlt)
        have e1 := encL_succ encRun d.mem i hlt
        have t2 := encRun_len hr
        have w2 : IntKind.i64.wrap ((i : Int) + 1) = ((i + 1 : Nat) : Int) := by rw [Fz.w64 (by omega) (by omega)]; omega
        simp -dsimp [h1, h12, h13, h14, h3, wFix_by, isInl, hlt, quiet_by (num_s hr.1), quiet_by (text_s (b := d.mem[i].b) (by omega)), fillV, splice, wOpt, chunk]
        refine concat_call_list (ls := [encN d.mem.length ++ encL encRun (d.mem.take i), encN d.mem[i].at_, txt d.mem[i].b]) (by simp [tot, encRun, txt] at t2 ⊢; omega) (by simp) fun v J hac => ?_
        simp -dsimp [h1, h12, h13, h14, h3, wFix_by, isInl]
        refine fix_ac (T.length + 2) (out := encN d.mem.length ++ encL encRun (d.mem.take i) ++ encRun d.mem[i]) (by simpa [cat, encRun] using hac) (by simp [encN_ne]) fun H' hH _ => ?_
        obtain ⟨T', rfl⟩ := take_cons (n := T.length + 1) hH
        simp -dsimp [h1, h12, h13, h14, h3, w2]
        refine ⟨d.mem.length - (i + 1), by omega, i + 1, T', by omega, rfl, ?_⟩
        simp -dsimp [h1, h12, h13, e1, encRun, txt, encN]
      · have hii : i = d.mem.length := by omega
        subst hii
        rw [List.take_length] at h3 t1
        simp -dsimp [h1, h12, h13, h14, h3, wFix_by, isInl]
        refine WDraw_ext (by kernel_rfl) ?_
        have hr := h.regs
        have q1 := quiet_nums (l := [d.out]) (c := true) (fun n hn => by simp at hn; rw [hn]; exact h.out) (by simp)
        have q2 := quiet_nums (l := [flg d.comp d.halt]) (c := true) (fun n hn => by simp at hn; rw [hn]; exact flg_i _ _) (by simp)
        simp only [List.map_cons, List.map_nil] at q1 q2
        have c1 := listed_s h.dk h.dt (by have := h.dtl; omega)
        have c2 := listedSlo_s h.rk h.rt (by have := h.rtl; omega)
        have c3 := listed_s h.ck h.ct (by have := h.ctl; omega)
        have c4 := listedWor_s h.wk h.wt (by have := h.wtl; omega)
        have c5 := listedSpo_s h.sk h.st (by have := h.stl; omega)
        have c6 := nums_s hr (by simp)
        simp -dsimp [h1, h12, h13, h14, h3, wFix_by, isInl, call_by c1, call_by c2, call_by c3, call_by c4, call_by c5, fillV, splice, wOpt, chunk, q1]
        refine call_frz rfl ?_
        simp -dsimp [wFix_by, isInl]
        have c6 := c6
        simp only [inV, List.map_cons, List.map_nil] at c6
        rw [callN_by c6]
        simp only [wRet_ret]
        refine ⟨Sees.set rfl, ?_⟩
        simp -dsimp [h1, h12, h13, h14, h3, wFix_by, isInl, quiet_by (bit_s d.comp 1), quiet_by (bit_s d.halt 2), flg_w, fillV, splice, wOpt, chunk, q2]
        have l1 := encN_len h.dk
        have l2 := encN_len h.rk
        have l3 := encN_len h.ck
        have l4 := encN_len h.wk
        have l5 := encN_len h.sk
        have n1 := encN_len (n := d.dt.length) (by have := h.dtl; unfold i64; omega)
        have n2 := encN_len (n := d.rt.length) (by have := h.rtl; unfold i64; omega)
        have n3 := encN_len (n := d.ct.length) (by have := h.ctl; unfold i64; omega)
        have n4 := encN_len (n := d.wt.length) (by have := h.wtl; unfold i64; omega)
        have n5 := encN_len (n := d.st.length) (by have := h.stl; unfold i64; omega)
        have m1 : (encs d.dt).length ≤ 65 * 1000 := Nat.le_trans (encs_len h.dt) (Nat.mul_le_mul_left _ h.dtl)
        have m2 : (encL encSlo d.rt).length ≤ 130 * 1000 := Nat.le_trans (encL_len (k := 130) fun a ha => encSlo_len (h.rt a ha)) (Nat.mul_le_mul_left _ h.rtl)
        have m3 : (encs d.ct).length ≤ 65 * 1000 := Nat.le_trans (encs_len h.ct) (Nat.mul_le_mul_left _ h.ctl)
        have m4 : (encL encWor d.wt).length ≤ 1200 * 1000 := Nat.le_trans (encL_len (k := 1200) fun a ha => encWor_len (h.wt a ha)) (Nat.mul_le_mul_left _ h.wtl)
        have m5 : (encL encSpo d.st).length ≤ 130 * 1000 := Nat.le_trans (encL_len (k := 130) fun a ha => encSpo_len (h.st a ha)) (Nat.mul_le_mul_left _ h.stl)
        have o1 : (encs [d.out]).length ≤ 65 * 1 := encs_len fun n hn => by simp at hn; rw [hn]; exact h.out
        have o2 : (encs [d.r0, d.r1, d.r2, d.r3, d.r4, d.r5]).length ≤ 65 * 6 := encs_len hr
        have o3 : (encs [flg d.comp d.halt]).length ≤ 65 * 1 := encs_len fun n hn => by simp at hn; rw [hn]; exact flg_i _ _
        refine concat_call_list (ls := [encN d.mem.length ++ encL encRun d.mem, encN d.dk ++ (encN d.dt.length ++ encs d.dt), encN d.rk ++ (encN d.rt.length ++ encL encSlo d.rt), encN d.ck ++ (encN d.ct.length ++ encs d.ct),
          encN d.wk ++ (encN d.wt.length ++ encL encWor d.wt), encN d.sk ++ (encN d.st.length ++ encL encSpo d.st), encs [d.out], encs [d.r0, d.r1, d.r2, d.r3, d.r4, d.r5], encs [flg d.comp d.halt]]) (by simp [tot]; omega) (by simp) fun v J hac => ?_
        simp only [wRet_ret]
        refine ⟨(Sees.set (i := 0) rfl).trans (Sees.app _ _), ?_⟩
        simp -dsimp [wFix_by, isInl]
        refine frz_ac (b := T.length + 1) ?_
        rw [List.drop_succ_cons, List.drop_left]
        simpa [cat, encD, List.append_assoc] using hac
end Fz.D
set_option maxRecDepth 100000
namespace Fz.D
open Go
theorem refNumE {n : Int} (h : i64 n) : Comes p 45 [.int .i64 n] (byV (encN n)) := refNum_s h
theorem refTextE {b : List Int} (hb : b.length ≤ 10000000) : Comes p 46 [byV b] (byV (txt b)) := refText_s hb
theorem nums_own {H : List Ob} {a : Int} {l : List Int} {k : Nat} (hk : k = (a :: l).length) (h : ∀ n ∈ a :: l, i64 n) (hl : l.length ≤ 100000) {Q : CR → List Ob → Prop} (hq : Q (.ret (byV (encs (a :: l)))) (H ++ [.fixed ((a :: l).map (V.int .i64))])) :
    xCall p 47 [.own H.length 0 k 1] (H ++ [.live ((a :: l).map (V.int .i64))]) Q := by
  subst hk
  refine call_frz rfl ?_
  simp -dsimp
  have c := refNums_s h (by simp; omega)
  unfold inV at c
  rw [List.map_cons] at c
  rw [callN_by c]
  simpa using hq
theorem app_b2 {T : List Ob} {x y : Ob} {v : V} {out m : List Int} {k : Nat} {K : V → List Ob → Prop} (ha : Ac 1 1 T v (out.map (V.int .u8))) (hk : k = m.length) (hc : out.length + m.length ≤ 100000000)
    (hK : ∀ v' T' G, T'.length = T.length → Ac 1 1 (T' ++ y :: G) v' ((out ++ m).map (V.int .u8)) → K v' (x :: (T' ++ y :: G))) : xAppend (x :: (T ++ [y])) 1 1 v (m.map (V.int .u8)) k K := by
  subst hk
  have hcap : capOk (out.length + m.length) 1 = true := by simp [capOk]; omega
  by_cases h0 : m = []
  · subst h0
    have hk := hK v T [] rfl (by simpa using ac_ext ha [y])
    obtain ⟨h1, h2, h3⟩ := ha
    rcases h3 with ⟨h3, rfl⟩ | ⟨j, cells, rfl, h4, h5, h6⟩
    · rw [wAppend_list, if_pos (by rfl)]; exact hk
    · rw [wAppend_own, if_pos (by rfl)]; exact ⟨rfl, hk⟩
  · have hl : m.length ≠ 0 := fun h => h0 (List.length_eq_zero_iff.1 h)
    obtain ⟨h1, h2, h3⟩ := ha
    rcases h3 with ⟨h3, rfl⟩ | ⟨j, cells, rfl, h4, h5, h6⟩
    · have h3 : out = [] := by simpa using h3
      subst h3
      rw [wAppend_list, if_neg hl]
      refine ⟨⟨rfl, rfl, by simp, by simpa using hcap⟩, ?_⟩
      have hk := hK (.own (1 + (T.length + 1)) 0 m.length 1) T [.live (m.map (V.int .u8))] rfl ⟨by simp, by decide, .inr ⟨T.length + 1, m.map (V.int .u8), by simp, by simp, by simp, by simp⟩⟩
      show K _ _
      simpa [Nat.add_comm, Nat.add_left_comm, Nat.add_assoc] using hk
    · rw [wAppend_own, if_neg hl]
      refine ⟨rfl, ?_⟩
      have hj := (List.getElem?_eq_some_iff.1 h4).1
      refine ⟨cells, by rw [Nat.add_comm, List.getElem?_cons_succ, List.getElem?_append_left hj]; exact h4, ⟨rfl, h5, by simp [storable], by simpa using hcap⟩, ?_⟩
      show K _ _
      have hk := hK (.own (1 + (T.length + 1)) 0 (out.length + m.length) 1) (T.set j .dead) [.live ((out ++ m).map (V.int .u8))] (by simp) ⟨by simp, by decide, .inr ⟨T.length + 1, (out ++ m).map (V.int .u8), by simp, by simp, by simp, by rw [List.length_map, Nat.mul_one, flat_int]; exact List.take_of_length_le (by simp)⟩⟩
      rw [h6, flat_int, ← List.map_append, Nat.add_comm 1 j, List.set_cons_succ, List.set_append_left _ _ hj]
      simpa [Nat.add_comm, Nat.add_left_comm, Nat.add_assoc] using hk
/-- A list's bytes behind what there is. -/
theorem app_b {T : List Ob} {x : Ob} {v : V} {out m : List Int} {k : Nat} {K : V → List Ob → Prop} (ha : Ac 1 1 T v (out.map (V.int .u8))) (hk : k = m.length) (hc : out.length + m.length ≤ 100000000)
    (hK : ∀ v' J', Ac 1 1 J' v' ((out ++ m).map (V.int .u8)) → K v' (x :: J')) : xAppend (x :: T) 1 1 v (m.map (V.int .u8)) k K := by
  refine app_ac 1 (m := m.map (V.int .u8)) (l := out.map (V.int .u8)) ha (by simp) (by simp) (by simp [hk]) (by simp) (by simp [storable]) (by simp [capOk]; omega) fun v' J' h => ?_
  rw [← List.map_append] at h
  exact hK v' J' h
theorem quiet_rnums {l : List Int} {c : Bool} (h : ∀ n ∈ l, i64 n) (hl : l.length ≤ 1000000) (H : List Ob) (K : V → Prop) : xQuiet p 47 [.list (l.map (V.int .i64)) c] H K = K (byV (encs l)) :=
  quiet_nrm (a := [inV l]) rfl (by simp) (by simp [inV, nrm, nrmL_eq]) (refNums_s h hl)
theorem two_i {a b : Int} (ha : i64 a) (hb : i64 b) : ∀ n ∈ [a, b], i64 n := by
  intro n hn
  simp only [List.mem_cons, List.not_mem_nil, or_false] at hn
  rcases hn with rfl | rfl
  · exact ha
  · exact hb
theorem one_i {a : Int} (ha : i64 a) : ∀ n ∈ [a], i64 n := by
  intro n hn
  simp only [List.mem_cons, List.not_mem_nil, or_false] at hn
  rw [hn]; exact ha
theorem refPut_s {d : De} (h : DeOk d) : Comes p 15 [deV d] (byV (encD d)) := by
  have hn : i64 (d.mem.length : Int) := by have := h.meml; unfold i64; omega
  have hm := h.meml
  have hdt := h.dtl
  have hrt := h.rtl
  have hct := h.ctl
  have hwt := h.wtl
  have hst := h.stl
  have b0 := encN_len hn
  have i1 : i64 (d.dt.length : Int) := by unfold i64; omega
  have i2 : i64 (d.rt.length : Int) := by unfold i64; omega
  have i3 : i64 (d.ct.length : Int) := by unfold i64; omega
  have i4 : i64 (d.wt.length : Int) := by unfold i64; omega
  have i5 : i64 (d.st.length : Int) := by unfold i64; omega
  have j1 := two_i h.dk i1
  have j2 := two_i h.rk i2
  have j3 := two_i h.ck i3
  have j4 := two_i h.wk i4
  have j5 := two_i h.sk i5
  have p1 : (encs [d.dk, d.dt.length]).length ≤ 65 * 2 := encs_len j1
  have p2 : (encs [d.rk, d.rt.length]).length ≤ 65 * 2 := encs_len j2
  have p3 : (encs [d.ck, d.ct.length]).length ≤ 65 * 2 := encs_len j3
  have p4 : (encs [d.wk, d.wt.length]).length ≤ 65 * 2 := encs_len j4
  have p5 : (encs [d.sk, d.st.length]).length ≤ 65 * 2 := encs_len j5
  have m1 : (encs d.dt).length ≤ 65 * 1000 := Nat.le_trans (encs_len h.dt) (Nat.mul_le_mul_left _ h.dtl)
  have m3 : (encs d.ct).length ≤ 65 * 1000 := Nat.le_trans (encs_len h.ct) (Nat.mul_le_mul_left _ h.ctl)
  refine Comes_of w15 rfl rfl k15 ?_ ?_ ?_ ?_
  · simp
  · simp
  · simp
  · simp -dsimp [-wAppend_list, w15, wFix_by, isInl, call_by (refNumE hn)]
    refine app_b (out := []) (ac_nil (by decide)) rfl (by simp; omega) fun v T ha => ?_
    rw [List.nil_append] at ha
    simp -dsimp [-wAppend_list]
    refine xL_by (by kernel_rfl) (fun k e H => ∃ (i : Nat) (v : V) (T : List Ob), i ≤ d.mem.length ∧ k = d.mem.length - i ∧ e 1 = .ptr 0 0 ∧ e 4 = .int .i64 i ∧ e 3 = v ∧ H = .live (cellsOf (deV d)) :: T ∧ Ac 1 1 T v ((encN d.mem.length ++ encL encRun (d.mem.take i)).map (V.int .u8))) d.mem.length ?_ ?_
    · refine ⟨0, v, T, ?_⟩
      simp -dsimp [encL]
      first | exact ha | exact ⟨h1, ha⟩
    clear ha T v
    rintro k e H ⟨i, v, T, hi, hk, h1, hi4, h3, rfl, ha⟩
    have t1 : (encL encRun (d.mem.take i)).length ≤ 10200 * 1000 := Nat.le_trans (encL_len (k := 10200) fun a ha => encRun_len (h.mem a (List.mem_of_mem_take ha))) (Nat.mul_le_mul_left _ (by rw [List.length_take]; omega))
    by_cases hlt : i < d.mem.length
    · have hr := h.mem d.mem[i] (List.getElem_mem hlt)
      have e1 := encL_succ encRun d.mem i hlt
      have t2 := encRun_len hr
      have w2 : IntKind.i64.wrap ((i : Int) + 1) = ((i + 1 : Nat) : Int) := by rw [Fz.w64 (by omega) (by omega)]; omega
      simp -dsimp [-wAppend_list, h1, hi4, h3, wFix_by, isInl, hlt, call_by (refNumE hr.1)]
      have q1 : (encRun d.mem[i]).length = (encN d.mem[i].at_).length + (txt d.mem[i].b).length := by simp [encRun]
      refine app_b ha rfl (by simp only [List.length_append]; omega) fun v T ha => ?_
      simp -dsimp [-wAppend_list, h1, hi4, h3, wFix_by, isInl, hlt, call_by (refTextE (b := d.mem[i].b) (by omega))]
      refine app_b ha rfl (by simp only [List.length_append]; omega) fun v T ha => ?_
      simp -dsimp [-wAppend_list, h1, hi4, w2]
      refine ⟨d.mem.length - (i + 1), by omega, i + 1, v, T, by omega, rfl, ?_⟩
      simp -dsimp [h1]
      rw [e1]
      simpa [encRun, List.append_assoc] using ha
    have hii : i = d.mem.length := by omega
    subst hii
    rw [List.take_length] at ha t1
    simp -dsimp [-wAppend_list, h1, hi4, h3, wFix_by, isInl, hlt]
    have hb1 : (encN d.mem.length ++ encL encRun d.mem).length ≤ 11000000 := by simp only [List.length_append]; omega
    obtain ⟨o1, ho1⟩ : ∃ o, o = encN d.mem.length ++ encL encRun d.mem := ⟨_, rfl⟩
    rw [← ho1] at ha hb1
    refine nums_own (H := .live (cellsOf (deV d)) :: T) (a := d.dk) (l := [d.dt.length]) rfl j1 (by simp) ?_
    simp -dsimp [-wAppend_list, h3]
    refine app_b (ac_ext ha _) rfl (by omega) fun v T ha => ?_
    simp -dsimp [-wAppend_list, h1]
    have hb2 : (o1 ++ encs [d.dk, (d.dt.length : Int)]).length ≤ 11001000 := by simp only [List.length_append]; omega
    obtain ⟨o2, ho2⟩ : ∃ o, o = o1 ++ encs [d.dk, (d.dt.length : Int)] := ⟨_, rfl⟩
    rw [← ho2] at ha hb2
    rw [call_by (refNums_s h.dt (by omega))]
    simp -dsimp [-wAppend_list, h1]
    refine app_b ha rfl (by omega) fun v T ha => ?_
    simp -dsimp [-wAppend_list, h1]
    have hb3 : (o2 ++ encs d.dt).length ≤ 12000000 := by simp only [List.length_append]; omega
    obtain ⟨o3, ho3⟩ : ∃ o, o = o2 ++ encs d.dt := ⟨_, rfl⟩
    rw [← ho3] at ha hb3
    refine nums_own (H := .live (cellsOf (deV d)) :: T) (a := d.rk) (l := [d.rt.length]) rfl j2 (by simp) ?_
    simp -dsimp [-wAppend_list, h3]
    refine app_b (ac_ext ha _) rfl (by omega) fun v T ha => ?_
    simp -dsimp [-wAppend_list, h1]
    have hb4 : (o3 ++ encs [d.rk, (d.rt.length : Int)]).length ≤ 12001000 := by simp only [List.length_append]; omega
    obtain ⟨o4, ho4⟩ : ∃ o, o = o3 ++ encs [d.rk, (d.rt.length : Int)] := ⟨_, rfl⟩
    rw [← ho4] at ha hb4
    refine xL_by (by kernel_rfl) (fun k e H => ∃ (i : Nat) (v : V) (T : List Ob), i ≤ d.rt.length ∧ k = d.rt.length - i ∧ e 1 = .ptr 0 0 ∧ e 5 = .int .i64 i ∧ e 3 = v ∧ H = .live (cellsOf (deV d)) :: T ∧ Ac 1 1 T v ((o4 ++ encL encSlo (d.rt.take i)).map (V.int .u8))) d.rt.length ?_ ?_
    · refine ⟨0, v, T, ?_⟩
      simp -dsimp [encL]
      first | exact ha | exact ⟨h1, ha⟩
    clear ha T v
    rintro k e H ⟨i, v, T, hi, hk, h1, hi4, h3, rfl, ha⟩
    have t1 : (encL encSlo (d.rt.take i)).length ≤ 130 * 1000 := Nat.le_trans (encL_len (k := 130) fun a ha => encSlo_len (h.rt a (List.mem_of_mem_take ha))) (Nat.mul_le_mul_left _ (by rw [List.length_take]; omega))
    by_cases hlt : i < d.rt.length
    · have hr := h.rt d.rt[i] (List.getElem_mem hlt)
      have e1 := encL_succ encSlo d.rt i hlt
      have t2 := encSlo_len hr
      have w2 : IntKind.i64.wrap ((i : Int) + 1) = ((i + 1 : Nat) : Int) := by rw [Fz.w64 (by omega) (by omega)]; omega
      have q := quiet_rnums (l := [d.rt[i].v, if d.rt[i].call then 1 else 0]) (c := true) (two_i hr (bit01 _)) (by simp)
      simp only [List.map_cons, List.map_nil] at q
      simp -dsimp [-wAppend_list, h1, hi4, h3, wFix_by, isInl, hlt, quiet_by (flags_s d.rt[i].call false), fillV, splice, wOpt, chunk, q]
      refine app_b (m := encSlo d.rt[i]) ha rfl (by simp only [List.length_append]; omega) fun v T ha => ?_
      simp -dsimp [-wAppend_list, h1, hi4, w2]
      refine ⟨d.rt.length - (i + 1), by omega, i + 1, v, T, by omega, rfl, ?_⟩
      simp -dsimp [h1]
      rw [e1]
      simpa [encSlo, List.append_assoc] using ha
    have hii : i = d.rt.length := by omega
    subst hii
    rw [List.take_length] at ha t1
    simp -dsimp [-wAppend_list, h1, hi4, h3, wFix_by, isInl, hlt]
    have hb5 : (o4 ++ encL encSlo d.rt).length ≤ 13000000 := by simp only [List.length_append]; omega
    obtain ⟨o5, ho5⟩ : ∃ o, o = o4 ++ encL encSlo d.rt := ⟨_, rfl⟩
    rw [← ho5] at ha hb5
    refine nums_own (H := .live (cellsOf (deV d)) :: T) (a := d.ck) (l := [d.ct.length]) rfl j3 (by simp) ?_
    simp -dsimp [-wAppend_list, h3]
    refine app_b (ac_ext ha _) rfl (by omega) fun v T ha => ?_
    simp -dsimp [-wAppend_list, h1]
    have hb6 : (o5 ++ encs [d.ck, (d.ct.length : Int)]).length ≤ 13001000 := by simp only [List.length_append]; omega
    obtain ⟨o6, ho6⟩ : ∃ o, o = o5 ++ encs [d.ck, (d.ct.length : Int)] := ⟨_, rfl⟩
    rw [← ho6] at ha hb6
    rw [call_by (refNums_s h.ct (by omega))]
    simp -dsimp [-wAppend_list, h1]
    refine app_b ha rfl (by omega) fun v T ha => ?_
    simp -dsimp [-wAppend_list, h1]
    have hb7 : (o6 ++ encs d.ct).length ≤ 14000000 := by simp only [List.length_append]; omega
    obtain ⟨o7, ho7⟩ : ∃ o, o = o6 ++ encs d.ct := ⟨_, rfl⟩
    rw [← ho7] at ha hb7
    refine nums_own (H := .live (cellsOf (deV d)) :: T) (a := d.wk) (l := [d.wt.length]) rfl j4 (by simp) ?_
    simp -dsimp [-wAppend_list, h3]
    refine app_b (ac_ext ha _) rfl (by omega) fun v T ha => ?_
    simp -dsimp [-wAppend_list, h1]
    have hb8 : (o7 ++ encs [d.wk, (d.wt.length : Int)]).length ≤ 14001000 := by simp only [List.length_append]; omega
    obtain ⟨o8, ho8⟩ : ∃ o, o = o7 ++ encs [d.wk, (d.wt.length : Int)] := ⟨_, rfl⟩
    rw [← ho8] at ha hb8
    refine xL_by (by kernel_rfl) (fun k e H => ∃ (i : Nat) (v : V) (T : List Ob), i ≤ d.wt.length ∧ k = d.wt.length - i ∧ e 1 = .ptr 0 0 ∧ e 6 = .int .i64 i ∧ e 3 = v ∧ H = .live (cellsOf (deV d)) :: T ∧ Ac 1 1 T v ((o8 ++ encL encWor (d.wt.take i)).map (V.int .u8))) d.wt.length ?_ ?_
    · refine ⟨0, v, T, ?_⟩
      simp -dsimp [encL]
      first | exact ha | exact ⟨h1, ha⟩
    clear ha T v
    rintro k e H ⟨i, v, T, hi, hk, h1, hi4, h3, rfl, ha⟩
    have t1 : (encL encWor (d.wt.take i)).length ≤ 1200 * 1000 := Nat.le_trans (encL_len (k := 1200) fun a ha => encWor_len (h.wt a (List.mem_of_mem_take ha))) (Nat.mul_le_mul_left _ (by rw [List.length_take]; omega))
    by_cases hlt : i < d.wt.length
    · have hr := h.wt d.wt[i] (List.getElem_mem hlt)
      have e1 := encL_succ encWor d.wt i hlt
      have t2 := encWor_len hr
      have w2 : IntKind.i64.wrap ((i : Int) + 1) = ((i + 1 : Nat) : Int) := by rw [Fz.w64 (by omega) (by omega)]; omega
      have q := quiet_rnums (l := [d.wt[i].code, flg d.wt[i].now d.wt[i].hid]) (c := true) (two_i hr.1 (flg_i _ _)) (by simp)
      simp only [List.map_cons, List.map_nil] at q
      have f := flags_s d.wt[i].now d.wt[i].hid
      rw [show ((if d.wt[i].now = true then (1 : Int) else 0) + (if d.wt[i].hid = true then 2 else 0)) = flg d.wt[i].now d.wt[i].hid from rfl] at f
      have q1 : (encWor d.wt[i]).length = (txt (nmB d.wt[i].name)).length + (encs [d.wt[i].code, flg d.wt[i].now d.wt[i].hid]).length := by simp [encWor]
      simp -dsimp [-wAppend_list, h1, hi4, h3, wFix_by, isInl, hlt, nmB_V]
      rw [show (V.list ((nmB d.wt[i].name).map (V.int .u8)) false) = byV (nmB d.wt[i].name) from rfl, call_by (refTextE (b := nmB d.wt[i].name) (by omega))]
      simp -dsimp [-wAppend_list, h1, hi4, h3, wFix_by, isInl, hlt]
      refine app_b2 ha rfl (by simp only [List.length_append]; omega) fun v T' G hT ha => ?_
      rw [← hT]
      simp -dsimp [-wAppend_list, h1, hi4, h3, wFix_by, isInl, hlt, quiet_by f, fillV, splice, wOpt, chunk, q]
      refine app_b (m := encs [d.wt[i].code, flg d.wt[i].now d.wt[i].hid]) ha rfl (by simp only [List.length_append]; omega) fun v T ha => ?_
      simp -dsimp [-wAppend_list, h1, hi4, w2]
      refine ⟨d.wt.length - (i + 1), by omega, i + 1, v, T, by omega, rfl, ?_⟩
      simp -dsimp [h1]
      rw [e1]
      simpa [encWor, List.append_assoc] using ha
    have hii : i = d.wt.length := by omega
    subst hii
    rw [List.take_length] at ha t1
    simp -dsimp [-wAppend_list, h1, hi4, h3, wFix_by, isInl, hlt]
    have hb9 : (o8 ++ encL encWor d.wt).length ≤ 16000000 := by simp only [List.length_append]; omega
    obtain ⟨o9, ho9⟩ : ∃ o, o = o8 ++ encL encWor d.wt := ⟨_, rfl⟩
    rw [← ho9] at ha hb9
    refine nums_own (H := .live (cellsOf (deV d)) :: T) (a := d.sk) (l := [d.st.length]) rfl j5 (by simp) ?_
    simp -dsimp [-wAppend_list, h3]
    refine app_b (ac_ext ha _) rfl (by omega) fun v T ha => ?_
    simp -dsimp [-wAppend_list, h1]
    have hb10 : (o9 ++ encs [d.sk, (d.st.length : Int)]).length ≤ 16001000 := by simp only [List.length_append]; omega
    obtain ⟨o10, ho10⟩ : ∃ o, o = o9 ++ encs [d.sk, (d.st.length : Int)] := ⟨_, rfl⟩
    rw [← ho10] at ha hb10
    refine xL_by (by kernel_rfl) (fun k e H => ∃ (i : Nat) (v : V) (T : List Ob), i ≤ d.st.length ∧ k = d.st.length - i ∧ e 1 = .ptr 0 0 ∧ e 8 = .int .i64 i ∧ e 3 = v ∧ H = .live (cellsOf (deV d)) :: T ∧ Ac 1 1 T v ((o10 ++ encL encSpo (d.st.take i)).map (V.int .u8))) d.st.length ?_ ?_
    · refine ⟨0, v, T, ?_⟩
      simp -dsimp [encL]
      first | exact ha | exact ⟨h1, ha⟩
    clear ha T v
    rintro k e H ⟨i, v, T, hi, hk, h1, hi4, h3, rfl, ha⟩
    have t1 : (encL encSpo (d.st.take i)).length ≤ 130 * 1000 := Nat.le_trans (encL_len (k := 130) fun a ha => encSpo_len (h.st a (List.mem_of_mem_take ha))) (Nat.mul_le_mul_left _ (by rw [List.length_take]; omega))
    by_cases hlt : i < d.st.length
    · have hr := h.st d.st[i] (List.getElem_mem hlt)
      have e1 := encL_succ encSpo d.st i hlt
      have t2 := encSpo_len hr
      have w2 : IntKind.i64.wrap ((i : Int) + 1) = ((i + 1 : Nat) : Int) := by rw [Fz.w64 (by omega) (by omega)]; omega
      have q := quiet_rnums (l := [d.st[i].addr, d.st[i].at_]) (c := true) (two_i hr.1 hr.2) (by simp)
      simp only [List.map_cons, List.map_nil] at q
      simp -dsimp [-wAppend_list, h1, hi4, h3, wFix_by, isInl, hlt, fillV, splice, wOpt, chunk, q]
      refine app_b (m := encSpo d.st[i]) ha rfl (by simp only [List.length_append]; omega) fun v T ha => ?_
      simp -dsimp [-wAppend_list, h1, hi4, w2]
      refine ⟨d.st.length - (i + 1), by omega, i + 1, v, T, by omega, rfl, ?_⟩
      simp -dsimp [h1]
      rw [e1]
      simpa [encSpo, List.append_assoc] using ha
    have hii : i = d.st.length := by omega
    subst hii
    rw [List.take_length] at ha t1
    simp -dsimp [-wAppend_list, h1, hi4, h3, wFix_by, isInl, hlt]
    have hb11 : (o10 ++ encL encSpo d.st).length ≤ 17000000 := by simp only [List.length_append]; omega
    obtain ⟨o11, ho11⟩ : ∃ o, o = o10 ++ encL encSpo d.st := ⟨_, rfl⟩
    rw [← ho11] at ha hb11
    refine nums_own (H := .live (cellsOf (deV d)) :: T) (a := d.out) (l := []) rfl (one_i h.out) (by simp) ?_
    have p6 : (encs [d.out]).length ≤ 65 * 1 := encs_len (one_i h.out)
    have p7 : (encs [d.r0, d.r1, d.r2, d.r3, d.r4, d.r5]).length ≤ 65 * 6 := encs_len h.regs
    have p8 : (encs [flg d.comp d.halt]).length ≤ 65 * 1 := encs_len (one_i (flg_i _ _))
    simp -dsimp [-wAppend_list, h3]
    refine app_b (ac_ext ha _) rfl (by omega) fun v T ha => ?_
    simp -dsimp [-wAppend_list, h1]
    refine call_frz rfl ?_
    simp -dsimp [-wAppend_list]
    have c6 := refNums_s h.regs (by simp)
    simp only [inV, List.map_cons, List.map_nil] at c6
    rw [callN_by c6]
    simp -dsimp [-wAppend_list]
    refine app_b ha rfl (by simp only [List.length_append]; omega) fun v T ha => ?_
    have f := flags_s d.comp d.halt
    rw [show ((if d.comp = true then (1 : Int) else 0) + (if d.halt = true then 2 else 0)) = flg d.comp d.halt from rfl] at f
    simp -dsimp [-wAppend_list, h1, call_by f]
    refine nums_own (H := .fixed (cellsOf (deV d)) :: T) (a := flg d.comp d.halt) (l := []) rfl (one_i (flg_i _ _)) (by simp) ?_
    simp -dsimp [-wAppend_list]
    refine app_b (ac_ext ha _) rfl (by simp only [List.length_append]; omega) fun v T ha => ?_
    simp -dsimp [wFix_by, isInl]
    refine frz_ac (b := 1) ?_
    rw [List.drop_succ_cons, List.drop_zero]
    have e : o11 ++ encs [d.out] ++ encs [d.r0, d.r1, d.r2, d.r3, d.r4, d.r5] ++ encs [flg d.comp d.halt] = encD d := by
      subst ho11; subst ho10; subst ho9; subst ho8; subst ho7; subst ho6; subst ho5; subst ho4; subst ho3; subst ho2; subst ho1
      simp only [encD, encs, cat, List.map_cons, List.map_nil, List.flatten_cons, List.flatten_nil, List.append_nil, List.append_assoc]
    rw [e] at ha
    exact ha
end Fz.D
set_option maxRecDepth 100000
namespace Fz.D
open Go
/-- How many elements two lists begin with, the same. -/
def shr {α : Type} (q : α → α → Bool) : List α → List α → Nat
  | a :: x, b :: y => if q a b then shr q x y + 1 else 0
  | _, _ => 0
theorem shr_step {α : Type} {q : α → α → Bool} {a b : List α} {i : Nat} (h1 : i < a.length) (h2 : i < b.length) (h : q a[i] b[i] = true) : shr q (a.drop i) (b.drop i) = shr q (a.drop (i + 1)) (b.drop (i + 1)) + 1 := by
  rw [List.drop_eq_getElem_cons h1, List.drop_eq_getElem_cons h2, shr, if_pos h]
theorem shr_stop {α : Type} {q : α → α → Bool} {a b : List α} {i : Nat} (h1 : i < a.length) (h2 : i < b.length) (h : q a[i] b[i] = false) : shr q (a.drop i) (b.drop i) = 0 := by
  rw [List.drop_eq_getElem_cons h1, List.drop_eq_getElem_cons h2, shr, if_neg (by rw [h]; simp)]
theorem shr_end1 {α : Type} {q : α → α → Bool} {a b : List α} {i : Nat} (h1 : ¬ i < a.length) : shr q (a.drop i) (b.drop i) = 0 := by
  rw [List.drop_eq_nil_of_le (by omega)]; simp [shr]
theorem shr_end2 {α : Type} {q : α → α → Bool} {a b : List α} {i : Nat} (h1 : ¬ i < b.length) : shr q (a.drop i) (b.drop i) = 0 := by
  rw [List.drop_eq_nil_of_le (show b.length ≤ i by omega)]
  cases a.drop i <;> simp [shr]
theorem shr_le {α : Type} {q : α → α → Bool} : ∀ (a b : List α), shr q a b ≤ a.length ∧ shr q a b ≤ b.length
  | a :: x, b :: y => by
    have := shr_le (q := q) x y
    unfold shr
    split <;> simp <;> omega
  | [], b => by simp [shr]
  | _ :: _, [] => by simp [shr]
theorem drop_map {α β : Type} (f : α → β) (l : List α) (n : Nat) : List.drop n (List.map f l) = (l.drop n).map f := List.map_drop.symm
theorem map_tail {α β : Type} (f : α → β) (l : List α) (n : Nat) : List.take (l.length - n) (List.drop n (List.map f l)) = (l.drop n).map f := by
  rw [← List.map_drop]; exact List.take_of_length_le (by simp)
theorem map_tail2 {α β : Type} (f : α → β) (l : List α) (n : Nat) : List.take (l.length - n) (List.map f (List.drop n l)) = (l.drop n).map f := List.take_of_length_le (by simp)
def inQ (a b : Int) : Bool := decide (a = b)
def sloQ (a b : Slo) : Bool := decide (a.v = b.v) && (a.call == b.call)
def worQ (a b : Wor) : Bool := decide (a.name = b.name) && (decide (a.code = b.code) && ((a.now == b.now) && (a.hid == b.hid)))
def spoQ (a b : Spo) : Bool := decide (a.addr = b.addr) && decide (a.at_ = b.at_)
theorem int_beq (a b : Int) : (a == b) = decide (a = b) := rfl
theorem slo_leaves (a b : Slo) : eqLeaves [.int .i64 a.v, .bool a.call] [.int .i64 b.v, .bool b.call] [(0, .int), (1, .bool)] = some (sloQ a b) := by
  unfold sloQ
  simp only [eqLeaves, leafEq, List.getElem?_cons_zero, List.getElem?_cons_succ, if_true, int_beq]
  cases decide (a.v = b.v) <;> cases (a.call == b.call) <;> rfl
theorem wor_leaves (a b : Wor) : eqLeaves [.str a.name, .int .i64 a.code, .bool a.now, .bool a.hid] [.str b.name, .int .i64 b.code, .bool b.now, .bool b.hid] [(0, .str), (1, .int), (2, .bool), (3, .bool)] = some (worQ a b) := by
  unfold worQ
  simp only [eqLeaves, leafEq, List.getElem?_cons_zero, List.getElem?_cons_succ, if_true, int_beq, bytes_beq]
  cases decide (a.name = b.name) <;> cases decide (a.code = b.code) <;> cases (a.now == b.now) <;> cases (a.hid == b.hid) <;> rfl
theorem spo_leaves (a b : Spo) : eqLeaves [.int .i64 a.addr, .int .i64 a.at_] [.int .i64 b.addr, .int .i64 b.at_] [(0, .int), (1, .int)] = some (spoQ a b) := by
  unfold spoQ
  simp only [eqLeaves, leafEq, List.getElem?_cons_zero, List.getElem?_cons_succ, if_true, int_beq]
  cases decide (a.addr = b.addr) <;> cases decide (a.at_ = b.at_) <;> rfl
theorem inQ_eq {a b : Int} : decide (a = b) = inQ a b := rfl
theorem shareInt_s {a b : List Int} (ha : a.length ≤ 1000000) (hb : b.length ≤ 1000000) : Comes p 23 [inV a, inV b] (.int .i64 (shr inQ a b : Nat)) := by
  refine Comes_of w23 rfl rfl k23 ?_ ?_ ?_ ?_
  · simp
  · simp
  · simp
  · simp -dsimp [w23, wFix_by, isInl]
    refine xL_by (by kernel_rfl) (fun k e H => ∃ i : Nat, i ≤ a.length ∧ k = a.length - i ∧ e 0 = inV a ∧ e 1 = inV b ∧ e 5 = .int .i64 i ∧ shr inQ a b = i + shr inQ (a.drop i) (b.drop i) ∧ H = []) a.length ?_ ?_
    · exact ⟨0, by simp⟩
    · rintro k e H ⟨i, hi, hk, h0, h1, h5, hr, rfl⟩
      have h2 := h5
      by_cases c1 : i < a.length
      · by_cases c2 : i < b.length
        · have g1 : a[i]?.getD default = a[i] := by simp [c1]
          have g2 : b[i]?.getD default = b[i] := by simp [c2]
          cases c3 : inQ a[i] b[i] with
          | true =>
            have w2 : IntKind.i64.wrap ((i : Int) + 1) = ((i + 1 : Nat) : Int) := by rw [Fz.w64 (by omega) (by omega)]; omega
            have hs := shr_step c1 c2 c3
            simp -dsimp [h0, h1, h5, wFix_by, isInl, inV, c1, c2, g1, g2, h2, wOpt, w2, inQ_eq, c3]
            refine ⟨a.length - (i + 1), by omega, i + 1, by omega, rfl, ?_⟩
            simp -dsimp [h0, h1, h5, h2, inV]
            omega
          | false =>
            have hz := shr_stop c1 c2 c3
            have hs : shr inQ a b = i := by omega
            simp -dsimp [h0, h1, h5, wFix_by, isInl, h2, hs, inV, wOpt, c1, c2, g1, g2, inQ_eq, c3]
        · have hz := shr_end2 (q := inQ) (a := a) c2
          have hs : shr inQ a b = i := by omega
          simp -dsimp [h0, h1, h5, wFix_by, isInl, h2, hs, inV, wOpt, c1, c2]
      · have hz := shr_end1 (q := inQ) (b := b) c1
        have hs : shr inQ a b = i := by omega
        simp -dsimp [h0, h1, h5, wFix_by, isInl, h2, hs, inV, wOpt, c1]
theorem cut_s {a b : List Int} (ha : a.length ≤ 1000000) (hb : b.length ≤ 1000000) : Comes p 28 [inV a, inV b] (.agg [.int .i64 (shr inQ a b : Nat), inV (a.drop (shr inQ a b))]) := by
  refine Comes_of w28 rfl rfl k28 ?_ ?_ ?_ ?_
  · simp
  · simp
  · simp
  · simp -dsimp [w28, wFix_by, isInl]
    refine xL_by (by kernel_rfl) (fun k e H => ∃ i : Nat, i ≤ a.length ∧ k = a.length - i ∧ e 0 = inV a ∧ e 1 = inV b ∧ e 5 = .int .i64 i ∧ shr inQ a b = i + shr inQ (a.drop i) (b.drop i) ∧ e 4 = .ptr 0 0 ∧ H = [.live [.int .i64 0, .list [] true]]) a.length ?_ ?_
    · exact ⟨0, by simp⟩
    · rintro k e H ⟨i, hi, hk, h0, h1, h5, hr, h2, rfl⟩
      
      by_cases c1 : i < a.length
      · by_cases c2 : i < b.length
        · have g1 : a[i]?.getD default = a[i] := by simp [c1]
          have g2 : b[i]?.getD default = b[i] := by simp [c2]
          cases c3 : inQ a[i] b[i] with
          | true =>
            have w2 : IntKind.i64.wrap ((i : Int) + 1) = ((i + 1 : Nat) : Int) := by rw [Fz.w64 (by omega) (by omega)]; omega
            have hs := shr_step c1 c2 c3
            simp -dsimp [h0, h1, h5, wFix_by, isInl, inV, c1, c2, g1, g2, h2, wOpt, w2, inQ_eq, c3]
            refine ⟨a.length - (i + 1), by omega, i + 1, by omega, rfl, ?_⟩
            simp -dsimp [h0, h1, h5, h2, inV]
            omega
          | false =>
            have hz := shr_stop c1 c2 c3
            have hs : shr inQ a b = i := by omega
            have hle := (shr_le (q := inQ) a b).1
            rw [hs] at hle
            simp -dsimp [-List.map_drop, drop_map, h0, h1, h5, wFix_by, isInl, h2, hs, inV, map_tail2, wOpt, c1, c2, g1, g2, inQ_eq, c3]
            first | done | omega
        · have hz := shr_end2 (q := inQ) (a := a) c2
          have hs : shr inQ a b = i := by omega
          have hle := (shr_le (q := inQ) a b).1
          rw [hs] at hle
          simp -dsimp [-List.map_drop, drop_map, h0, h1, h5, wFix_by, isInl, h2, hs, inV, map_tail2, wOpt, c1, c2]
          first | done | omega
      · have hz := shr_end1 (q := inQ) (b := b) c1
        have hs : shr inQ a b = i := by omega
        have hle := (shr_le (q := inQ) a b).1
        rw [hs] at hle
        simp -dsimp [-List.map_drop, drop_map, h0, h1, h5, wFix_by, isInl, h2, hs, inV, map_tail2, wOpt, c1]
        first | done | omega
theorem shareSlo_s {a b : List Slo} (ha : a.length ≤ 1000000) (hb : b.length ≤ 1000000) : Comes p 24 [slosV a, slosV b] (.int .i64 (shr sloQ a b : Nat)) := by
  refine Comes_of w24 rfl rfl k24 ?_ ?_ ?_ ?_
  · simp
  · simp
  · simp
  · simp -dsimp [w24, wFix_by, isInl]
    refine xL_by (by kernel_rfl) (fun k e H => ∃ i : Nat, i ≤ a.length ∧ k = a.length - i ∧ e 0 = slosV a ∧ e 1 = slosV b ∧ e 5 = .int .i64 i ∧ shr sloQ a b = i + shr sloQ (a.drop i) (b.drop i) ∧ H = []) a.length ?_ ?_
    · exact ⟨0, by simp⟩
    · rintro k e H ⟨i, hi, hk, h0, h1, h5, hr, rfl⟩
      have h2 := h5
      by_cases c1 : i < a.length
      · by_cases c2 : i < b.length
        · have g1 : a[i]?.getD default = a[i] := by simp [c1]
          have g2 : b[i]?.getD default = b[i] := by simp [c2]
          cases c3 : sloQ a[i] b[i] with
          | true =>
            have w2 : IntKind.i64.wrap ((i : Int) + 1) = ((i + 1 : Nat) : Int) := by rw [Fz.w64 (by omega) (by omega)]; omega
            have hs := shr_step c1 c2 c3
            simp -dsimp [h0, h1, h5, wFix_by, isInl, slosV, c1, c2, g1, g2, h2, slo_leaves, wOpt, w2, c3]
            refine ⟨a.length - (i + 1), by omega, i + 1, by omega, rfl, ?_⟩
            simp -dsimp [h0, h1, h5, h2, slosV]
            omega
          | false =>
            have hz := shr_stop c1 c2 c3
            have hs : shr sloQ a b = i := by omega
            simp -dsimp [h0, h1, h5, wFix_by, isInl, h2, hs, slosV, wOpt, c1, c2, g1, g2, slo_leaves, c3]
        · have hz := shr_end2 (q := sloQ) (a := a) c2
          have hs : shr sloQ a b = i := by omega
          simp -dsimp [h0, h1, h5, wFix_by, isInl, h2, hs, slosV, wOpt, c1, c2]
      · have hz := shr_end1 (q := sloQ) (b := b) c1
        have hs : shr sloQ a b = i := by omega
        simp -dsimp [h0, h1, h5, wFix_by, isInl, h2, hs, slosV, wOpt, c1]
theorem frames_s {a b : List Slo} (ha : a.length ≤ 1000000) (hb : b.length ≤ 1000000) : Comes p 29 [slosV a, slosV b] (.agg [.int .i64 (shr sloQ a b : Nat), slosV (a.drop (shr sloQ a b))]) := by
  refine Comes_of w29 rfl rfl k29 ?_ ?_ ?_ ?_
  · simp
  · simp
  · simp
  · simp -dsimp [w29, wFix_by, isInl]
    refine xL_by (by kernel_rfl) (fun k e H => ∃ i : Nat, i ≤ a.length ∧ k = a.length - i ∧ e 0 = slosV a ∧ e 1 = slosV b ∧ e 5 = .int .i64 i ∧ shr sloQ a b = i + shr sloQ (a.drop i) (b.drop i) ∧ e 4 = .ptr 0 0 ∧ H = [.live [.int .i64 0, .list [] true]]) a.length ?_ ?_
    · exact ⟨0, by simp⟩
    · rintro k e H ⟨i, hi, hk, h0, h1, h5, hr, h2, rfl⟩
      
      by_cases c1 : i < a.length
      · by_cases c2 : i < b.length
        · have g1 : a[i]?.getD default = a[i] := by simp [c1]
          have g2 : b[i]?.getD default = b[i] := by simp [c2]
          cases c3 : sloQ a[i] b[i] with
          | true =>
            have w2 : IntKind.i64.wrap ((i : Int) + 1) = ((i + 1 : Nat) : Int) := by rw [Fz.w64 (by omega) (by omega)]; omega
            have hs := shr_step c1 c2 c3
            simp -dsimp [h0, h1, h5, wFix_by, isInl, slosV, c1, c2, g1, g2, h2, slo_leaves, wOpt, w2, c3]
            refine ⟨a.length - (i + 1), by omega, i + 1, by omega, rfl, ?_⟩
            simp -dsimp [h0, h1, h5, h2, slosV]
            omega
          | false =>
            have hz := shr_stop c1 c2 c3
            have hs : shr sloQ a b = i := by omega
            have hle := (shr_le (q := sloQ) a b).1
            rw [hs] at hle
            simp -dsimp [-List.map_drop, drop_map, h0, h1, h5, wFix_by, isInl, h2, hs, slosV, map_tail2, wOpt, c1, c2, g1, g2, slo_leaves, c3]
            first | done | omega
        · have hz := shr_end2 (q := sloQ) (a := a) c2
          have hs : shr sloQ a b = i := by omega
          have hle := (shr_le (q := sloQ) a b).1
          rw [hs] at hle
          simp -dsimp [-List.map_drop, drop_map, h0, h1, h5, wFix_by, isInl, h2, hs, slosV, map_tail2, wOpt, c1, c2]
          first | done | omega
      · have hz := shr_end1 (q := sloQ) (b := b) c1
        have hs : shr sloQ a b = i := by omega
        have hle := (shr_le (q := sloQ) a b).1
        rw [hs] at hle
        simp -dsimp [-List.map_drop, drop_map, h0, h1, h5, wFix_by, isInl, h2, hs, slosV, map_tail2, wOpt, c1]
        first | done | omega
theorem shareWor_s {a b : List Wor} (ha : a.length ≤ 1000000) (hb : b.length ≤ 1000000) : Comes p 25 [worsV a, worsV b] (.int .i64 (shr worQ a b : Nat)) := by
  refine Comes_of w25 rfl rfl k25 ?_ ?_ ?_ ?_
  · simp
  · simp
  · simp
  · simp -dsimp [w25, wFix_by, isInl]
    refine xL_by (by kernel_rfl) (fun k e H => ∃ i : Nat, i ≤ a.length ∧ k = a.length - i ∧ e 0 = worsV a ∧ e 1 = worsV b ∧ e 5 = .int .i64 i ∧ shr worQ a b = i + shr worQ (a.drop i) (b.drop i) ∧ H = []) a.length ?_ ?_
    · exact ⟨0, by simp⟩
    · rintro k e H ⟨i, hi, hk, h0, h1, h5, hr, rfl⟩
      have h2 := h5
      by_cases c1 : i < a.length
      · by_cases c2 : i < b.length
        · have g1 : a[i]?.getD default = a[i] := by simp [c1]
          have g2 : b[i]?.getD default = b[i] := by simp [c2]
          cases c3 : worQ a[i] b[i] with
          | true =>
            have w2 : IntKind.i64.wrap ((i : Int) + 1) = ((i + 1 : Nat) : Int) := by rw [Fz.w64 (by omega) (by omega)]; omega
            have hs := shr_step c1 c2 c3
            simp -dsimp [h0, h1, h5, wFix_by, isInl, worsV, c1, c2, g1, g2, h2, wor_leaves, wOpt, w2, c3]
            refine ⟨a.length - (i + 1), by omega, i + 1, by omega, rfl, ?_⟩
            simp -dsimp [h0, h1, h5, h2, worsV]
            omega
          | false =>
            have hz := shr_stop c1 c2 c3
            have hs : shr worQ a b = i := by omega
            simp -dsimp [h0, h1, h5, wFix_by, isInl, h2, hs, worsV, wOpt, c1, c2, g1, g2, wor_leaves, c3]
        · have hz := shr_end2 (q := worQ) (a := a) c2
          have hs : shr worQ a b = i := by omega
          simp -dsimp [h0, h1, h5, wFix_by, isInl, h2, hs, worsV, wOpt, c1, c2]
      · have hz := shr_end1 (q := worQ) (b := b) c1
        have hs : shr worQ a b = i := by omega
        simp -dsimp [h0, h1, h5, wFix_by, isInl, h2, hs, worsV, wOpt, c1]
theorem names_s {a b : List Wor} (ha : a.length ≤ 1000000) (hb : b.length ≤ 1000000) : Comes p 30 [worsV a, worsV b] (.agg [.int .i64 (shr worQ a b : Nat), worsV (a.drop (shr worQ a b))]) := by
  refine Comes_of w30 rfl rfl k30 ?_ ?_ ?_ ?_
  · simp
  · simp
  · simp
  · simp -dsimp [w30, wFix_by, isInl]
    refine xL_by (by kernel_rfl) (fun k e H => ∃ i : Nat, i ≤ a.length ∧ k = a.length - i ∧ e 0 = worsV a ∧ e 1 = worsV b ∧ e 5 = .int .i64 i ∧ shr worQ a b = i + shr worQ (a.drop i) (b.drop i) ∧ e 4 = .ptr 0 0 ∧ H = [.live [.int .i64 0, .list [] true]]) a.length ?_ ?_
    · exact ⟨0, by simp⟩
    · rintro k e H ⟨i, hi, hk, h0, h1, h5, hr, h2, rfl⟩
      
      by_cases c1 : i < a.length
      · by_cases c2 : i < b.length
        · have g1 : a[i]?.getD default = a[i] := by simp [c1]
          have g2 : b[i]?.getD default = b[i] := by simp [c2]
          cases c3 : worQ a[i] b[i] with
          | true =>
            have w2 : IntKind.i64.wrap ((i : Int) + 1) = ((i + 1 : Nat) : Int) := by rw [Fz.w64 (by omega) (by omega)]; omega
            have hs := shr_step c1 c2 c3
            simp -dsimp [h0, h1, h5, wFix_by, isInl, worsV, c1, c2, g1, g2, h2, wor_leaves, wOpt, w2, c3]
            refine ⟨a.length - (i + 1), by omega, i + 1, by omega, rfl, ?_⟩
            simp -dsimp [h0, h1, h5, h2, worsV]
            omega
          | false =>
            have hz := shr_stop c1 c2 c3
            have hs : shr worQ a b = i := by omega
            have hle := (shr_le (q := worQ) a b).1
            rw [hs] at hle
            simp -dsimp [-List.map_drop, drop_map, h0, h1, h5, wFix_by, isInl, h2, hs, worsV, map_tail2, wOpt, c1, c2, g1, g2, wor_leaves, c3]
            first | done | omega
        · have hz := shr_end2 (q := worQ) (a := a) c2
          have hs : shr worQ a b = i := by omega
          have hle := (shr_le (q := worQ) a b).1
          rw [hs] at hle
          simp -dsimp [-List.map_drop, drop_map, h0, h1, h5, wFix_by, isInl, h2, hs, worsV, map_tail2, wOpt, c1, c2]
          first | done | omega
      · have hz := shr_end1 (q := worQ) (b := b) c1
        have hs : shr worQ a b = i := by omega
        have hle := (shr_le (q := worQ) a b).1
        rw [hs] at hle
        simp -dsimp [-List.map_drop, drop_map, h0, h1, h5, wFix_by, isInl, h2, hs, worsV, map_tail2, wOpt, c1]
        first | done | omega
theorem shareSpo_s {a b : List Spo} (ha : a.length ≤ 1000000) (hb : b.length ≤ 1000000) : Comes p 26 [sposV a, sposV b] (.int .i64 (shr spoQ a b : Nat)) := by
  refine Comes_of w26 rfl rfl k26 ?_ ?_ ?_ ?_
  · simp
  · simp
  · simp
  · simp -dsimp [w26, wFix_by, isInl]
    refine xL_by (by kernel_rfl) (fun k e H => ∃ i : Nat, i ≤ a.length ∧ k = a.length - i ∧ e 0 = sposV a ∧ e 1 = sposV b ∧ e 5 = .int .i64 i ∧ shr spoQ a b = i + shr spoQ (a.drop i) (b.drop i) ∧ H = []) a.length ?_ ?_
    · exact ⟨0, by simp⟩
    · rintro k e H ⟨i, hi, hk, h0, h1, h5, hr, rfl⟩
      have h2 := h5
      by_cases c1 : i < a.length
      · by_cases c2 : i < b.length
        · have g1 : a[i]?.getD default = a[i] := by simp [c1]
          have g2 : b[i]?.getD default = b[i] := by simp [c2]
          cases c3 : spoQ a[i] b[i] with
          | true =>
            have w2 : IntKind.i64.wrap ((i : Int) + 1) = ((i + 1 : Nat) : Int) := by rw [Fz.w64 (by omega) (by omega)]; omega
            have hs := shr_step c1 c2 c3
            simp -dsimp [h0, h1, h5, wFix_by, isInl, sposV, c1, c2, g1, g2, h2, spo_leaves, wOpt, w2, c3]
            refine ⟨a.length - (i + 1), by omega, i + 1, by omega, rfl, ?_⟩
            simp -dsimp [h0, h1, h5, h2, sposV]
            omega
          | false =>
            have hz := shr_stop c1 c2 c3
            have hs : shr spoQ a b = i := by omega
            simp -dsimp [h0, h1, h5, wFix_by, isInl, h2, hs, sposV, wOpt, c1, c2, g1, g2, spo_leaves, c3]
        · have hz := shr_end2 (q := spoQ) (a := a) c2
          have hs : shr spoQ a b = i := by omega
          simp -dsimp [h0, h1, h5, wFix_by, isInl, h2, hs, sposV, wOpt, c1, c2]
      · have hz := shr_end1 (q := spoQ) (b := b) c1
        have hs : shr spoQ a b = i := by omega
        simp -dsimp [h0, h1, h5, wFix_by, isInl, h2, hs, sposV, wOpt, c1]
theorem places_s {a b : List Spo} (ha : a.length ≤ 1000000) (hb : b.length ≤ 1000000) : Comes p 31 [sposV a, sposV b] (.agg [.int .i64 (shr spoQ a b : Nat), sposV (a.drop (shr spoQ a b))]) := by
  refine Comes_of w31 rfl rfl k31 ?_ ?_ ?_ ?_
  · simp
  · simp
  · simp
  · simp -dsimp [w31, wFix_by, isInl]
    refine xL_by (by kernel_rfl) (fun k e H => ∃ i : Nat, i ≤ a.length ∧ k = a.length - i ∧ e 0 = sposV a ∧ e 1 = sposV b ∧ e 5 = .int .i64 i ∧ shr spoQ a b = i + shr spoQ (a.drop i) (b.drop i) ∧ e 4 = .ptr 0 0 ∧ H = [.live [.int .i64 0, .list [] true]]) a.length ?_ ?_
    · exact ⟨0, by simp⟩
    · rintro k e H ⟨i, hi, hk, h0, h1, h5, hr, h2, rfl⟩
      
      by_cases c1 : i < a.length
      · by_cases c2 : i < b.length
        · have g1 : a[i]?.getD default = a[i] := by simp [c1]
          have g2 : b[i]?.getD default = b[i] := by simp [c2]
          cases c3 : spoQ a[i] b[i] with
          | true =>
            have w2 : IntKind.i64.wrap ((i : Int) + 1) = ((i + 1 : Nat) : Int) := by rw [Fz.w64 (by omega) (by omega)]; omega
            have hs := shr_step c1 c2 c3
            simp -dsimp [h0, h1, h5, wFix_by, isInl, sposV, c1, c2, g1, g2, h2, spo_leaves, wOpt, w2, c3]
            refine ⟨a.length - (i + 1), by omega, i + 1, by omega, rfl, ?_⟩
            simp -dsimp [h0, h1, h5, h2, sposV]
            omega
          | false =>
            have hz := shr_stop c1 c2 c3
            have hs : shr spoQ a b = i := by omega
            have hle := (shr_le (q := spoQ) a b).1
            rw [hs] at hle
            simp -dsimp [-List.map_drop, drop_map, h0, h1, h5, wFix_by, isInl, h2, hs, sposV, map_tail2, wOpt, c1, c2, g1, g2, spo_leaves, c3]
            first | done | omega
        · have hz := shr_end2 (q := spoQ) (a := a) c2
          have hs : shr spoQ a b = i := by omega
          have hle := (shr_le (q := spoQ) a b).1
          rw [hs] at hle
          simp -dsimp [-List.map_drop, drop_map, h0, h1, h5, wFix_by, isInl, h2, hs, sposV, map_tail2, wOpt, c1, c2]
          first | done | omega
      · have hz := shr_end1 (q := spoQ) (b := b) c1
        have hs : shr spoQ a b = i := by omega
        have hle := (shr_le (q := spoQ) a b).1
        rw [hs] at hle
        simp -dsimp [-List.map_drop, drop_map, h0, h1, h5, wFix_by, isInl, h2, hs, sposV, map_tail2, wOpt, c1]
        first | done | omega
end Fz.D
set_option maxRecDepth 100000
namespace Fz.D
open Go
def gt (a : List Int) (i : Nat) : Int := a.getD i 0
theorem gt_at {a : List Int} {i : Nat} (h : i < a.length) : a[i] = gt a i := by simp [gt, h]
/-- A run of bytes. -/
def rn (a : List Int) (s i : Nat) : Rn := ⟨s, (a.drop s).take (i - s)⟩
def fin (a : List Int) (g : List Rn × Nat) (i : Nat) : List Rn := if g.2 < i then g.1 ++ [rn a g.2 i] else g.1
/-- The runs that are over, and where the last one begins. -/
def G (a b : List Int) : Nat → List Rn × Nat
  | 0 => ([], 0)
  | i + 1 => if gt a i = gt b i then (fin a (G a b i) i, i + 1) else G a b i
def runsF (a b : List Int) : List Rn := fin a (G a b a.length) a.length
theorem G_le (a b : List Int) : ∀ i, (G a b i).2 ≤ i
  | 0 => Nat.le_refl _
  | i + 1 => by
    have := G_le a b i
    unfold G
    split
    · exact Nat.le_refl _
    · exact Nat.le_succ_of_le this
theorem G_prev (a b : List Int) (i : Nat) : (G a b (i + 1)).2 < i + 1 ↔ gt a i ≠ gt b i := by
  have := G_le a b i
  rw [G]
  split
  · rename_i h; simp [h]
  · rename_i h; simp only [h, ne_eq, not_false_eq_true, iff_true]; omega
theorem fin_same {a b : List Int} {i : Nat} (h : gt a i = gt b i) : fin a (G a b (i + 1)) (i + 1) = fin a (G a b i) i := by
  rw [G, if_pos h]
  generalize fin a (G a b i) i = x
  simp [fin]
theorem fin_more {a b : List Int} {i : Nat} (h : gt a i ≠ gt b i) : fin a (G a b (i + 1)) (i + 1) = (G a b i).1 ++ [rn a (G a b i).2 (i + 1)] := by
  have := G_le a b i
  rw [G, if_neg h]
  unfold fin
  rw [if_pos (by omega)]
theorem flat_runs (l : List Rn) : (flat (l.map runV)).length = l.length * 2 := by rw [uni_flat (n := 2) (by simp)]; simp
theorem fin_len (a b : List Int) : ∀ i, (fin a (G a b i) i).length ≤ i
  | 0 => by simp [fin, G]
  | i + 1 => by
    have h1 := fin_len a b i
    by_cases h : gt a i = gt b i
    · rw [fin_same h]; omega
    · rw [fin_more h]
      unfold fin at h1
      split at h1 <;> simp at h1 ⊢ <;> omega
theorem acc_len {n b : Nat} {J : List Ob} {v : V} {l : List V} (h : Acc n b J v l) {K : V → Prop} : wSl v (fun l _ => wVal (V.int .i64 l.length) fun v => K v) (fun _ _ n _ => K (.int .i64 n)) = K (.int .i64 l.length) := by
  obtain ⟨_, _, h3⟩ := h
  rcases h3 with ⟨rfl, rfl⟩ | ⟨j, rfl, _⟩ <;> rfl
theorem refRuns_s {a b : List Int} (hb : a.length ≤ b.length) (ha : a.length ≤ 100000) : Comes p 27 [byV a, byV b] (runsV (runsF a b)) := by
  refine Comes_of w27 rfl rfl k27 ?_ ?_ ?_ ?_
  · simp
  · simp
  · simp
  · simp -dsimp [w27, wFix_by, isInl]
    refine xL_by (by kernel_rfl) (fun k e H => ∃ (i : Nat) (v : V), i ≤ a.length ∧ k = a.length - i ∧ e 0 = byV a ∧ e 1 = byV b ∧ e 6 = .int .i64 i ∧ e 5 = v ∧ Acc 2 0 H v ((fin a (G a b i) i).map runV)) a.length ?_ ?_
    · refine ⟨0, .list [] true, by simp, rfl, rfl, rfl, rfl, rfl, ?_⟩
      exact acc_nil (by decide)
    · rintro k e H ⟨i, v, hi, hk, h0, h1, h6, h5, hac⟩
      by_cases c1 : i < a.length
      · have c2 : i < b.length := by omega
        have g1 := gt_at c1
        have g2 := gt_at c2
        have w2 : IntKind.i64.wrap ((i : Int) + 1) = ((i + 1 : Nat) : Int) := by rw [Fz.w64 (by omega) (by omega)]; omega
        by_cases c3 : gt a i = gt b i
        · simp -dsimp [h0, h1, h6, h5, c1, c2, g1, g2, c3, w2]
          refine ⟨a.length - (i + 1), by omega, i + 1, v, by omega, rfl, ?_⟩
          simp -dsimp [h0, h1, h5]
          rw [fin_same c3]
          exact hac
        · have c4 : decide (gt a i = gt b i) = false := by simp [c3]
          have hmore := fin_more c3
          have hle := G_le a b i
          have hfl := fin_len a b i
          by_cases c5 : (G a b i).2 < i
          · have hi0 : 0 < i := by omega
            have w4 : IntKind.i64.wrap ((i : Int) - 1) = ((i - 1 : Nat) : Int) := by rw [Fz.w64 (by omega) (by omega)]; omega
            have d1 : i - 1 < a.length := by omega
            have d2 : i - 1 < b.length := by omega
            have g3 := gt_at d1
            have g4 := gt_at d2
            have c6 : decide (gt a (i - 1) = gt b (i - 1)) = false := by
              have := (G_prev a b (i - 1)).1 (by rw [show i - 1 + 1 = i from by omega]; exact c5)
              simp [this]
            have hf : fin a (G a b i) i = (G a b i).1 ++ [rn a (G a b i).2 i] := by unfold fin; rw [if_pos c5]
            rw [hf] at hac hfl
            generalize (G a b i).1 = D at *
            generalize (G a b i).2 = s at *
            obtain ⟨u1, u2, u3⟩ := hac
            rcases u3 with ⟨u3, _⟩ | ⟨j, rfl, hj⟩
            · simp at u3
            have hD : D.length < 100000 := by simp at hfl; omega
            have w3 : IntKind.i64.wrap (D.length : Int) = (D.length : Int) := Fz.w64 (by omega) (by omega)
            have hj' : H[j]? = some (.live (flat (D.map runV) ++ [.int .i64 s, byV (rn a s i).b])) := by rw [hj]; simp [rn]
            have hc := flat_runs D
            obtain ⟨c, hcc⟩ : ∃ c, c = flat (D.map runV) := ⟨_, rfl⟩
            rw [← hcc] at hj' hc
            have q1 : List.drop (D.length * 2) (c ++ [V.int .i64 s, byV (rn a s i).b]) = [V.int .i64 s, byV (rn a s i).b] := by rw [← hc, List.drop_left]
            have q2 : List.take (D.length * 2) (c ++ [V.int .i64 s, byV (rn a s i).b]) = c := by rw [← hc, List.take_left]
            simp -dsimp [h0, h1, h6, h5, c1, c2, g1, g2, g3, g4, d1, d2, c4, c6, w2, w3, w4, hi0, hj', wLive_at hj', wMut_at hj', q1, q2]
            refine ⟨by omega, by omega, by omega, by omega, by omega, by omega, by omega, by omega, ?_⟩
            refine ⟨a.length - (i + 1), by omega, i + 1, .own j 0 (D.length + 1) 2, by omega, rfl, ?_⟩
            simp -dsimp [h0, h1, h5]
            rw [hmore]
            have q3 : List.drop (D.length * 2 + 2) (c ++ [V.int .i64 s, byV (rn a s i).b]) = [] := List.drop_eq_nil_of_le (by simp [hc])
            refine ⟨by simp, by decide, .inr ⟨j, by simp, ?_⟩⟩
            rw [q3, List.getElem?_set_self (List.getElem?_eq_some_iff.1 hj').1, hcc]
            simp [rn, runV, byV]
          · have hs : (G a b i).2 = i := by omega
            have hf : fin a (G a b i) i = (G a b i).1 := by unfold fin; rw [if_neg c5]
            rw [hf] at hac hfl
            rw [hs] at hmore
            have hst : gt a i = gt a i := rfl
            have key : ∀ v' J', Acc 2 0 J' v' ((G a b i).1.map runV ++ [runV (rn a i (i + 1))]) → Acc 2 0 J' v' ((fin a (G a b (i + 1)) (i + 1)).map runV) := fun v' J' h => by rw [hmore, List.map_append]; exact h
            have hD : (G a b i).1.length < 100000 := by omega
            generalize (G a b i).1 = D at *
            simp -dsimp [h0, h1, h6, h5, c1, c2, g1, g2, c4, w2]
            rw [acc_len hac]
            by_cases hi0 : 0 < i
            · have w4 : IntKind.i64.wrap ((i : Int) - 1) = ((i - 1 : Nat) : Int) := by rw [Fz.w64 (by omega) (by omega)]; omega
              have d1 : i - 1 < a.length := by omega
              have d2 : i - 1 < b.length := by omega
              have g3 := gt_at d1
              have g4 := gt_at d2
              have c6 : gt a (i - 1) = gt b (i - 1) := by
                have := (G_prev a b (i - 1)).2
                rw [show i - 1 + 1 = i from by omega] at this
                exact Classical.byContradiction fun h => c5 (this h)
              simp -dsimp [h0, h1, h6, h5, c1, c2, g1, g2, g3, g4, d1, d2, c4, c6, w2, w4, hi0]
              refine ⟨by omega, by omega, ?_⟩
              refine app_acc 0 (m := [runV (rn a i (i + 1))]) (acc_ext hac _) (by simp) (by simp [rn, runV, byV]) rfl (by simp) (by simp [runV]) (by simp [capOk]; omega) fun v' J' hac' => ?_
              simp -dsimp [h0, h1, h6, h5, w2]
              refine ⟨a.length - (i + 1), by omega, i + 1, v', by omega, rfl, ?_⟩
              simp -dsimp [h0, h1, h5]
              exact key _ _ hac'
            · simp -dsimp [h0, h1, h6, h5, c1, c2, g1, g2, c4, w2, hi0]
              refine ⟨by omega, by omega, ?_⟩
              refine app_acc 0 (m := [runV (rn a i (i + 1))]) (acc_ext hac _) (by simp) (by simp [rn, runV, byV]) rfl (by simp) (by simp [runV]) (by simp [capOk]; omega) fun v' J' hac' => ?_
              simp -dsimp [h0, h1, h6, h5, w2]
              refine ⟨a.length - (i + 1), by omega, i + 1, v', by omega, rfl, ?_⟩
              simp -dsimp [h0, h1, h5]
              exact key _ _ hac'
      · have hii : i = a.length := by omega
        subst hii
        simp -dsimp [h0, h1, h6, h5, c1, wFix_by, isInl]
        exact frz_acc 0 (k := 11) hac (by simp) (by simp; exact fun x _ => ⟨_, rfl⟩) (fun H' _ _ => by simp [runsF, runsV])
end Fz.D
set_option maxRecDepth 100000
namespace Fz.D
open Go
/-- A run whose room is known. -/
def byT (b : List Int) : V := .list (b.map (V.int .u8)) true
def runT (r : Rn) : V := .agg [.int .i64 r.at_, byT r.b]
@[simp] theorem byT.gd (b : List Int) : ground (byT b) = true := by simp [byT]
@[simp] theorem byT.any (b : List Int) : isAny (byT b) = false := rfl
@[simp] theorem byT.st (b : List Int) : storable (byT b) = true := rfl
@[simp] theorem byT.cells (b : List Int) : cellsOf (byT b) = [byT b] := rfl
@[simp] theorem byT.nr (b : List Int) : nrm (byT b) = byV b := by simp [byT, byV]
@[simp] theorem runT.gd (r : Rn) : ground (runT r) = true := by simp [runT]
@[simp] theorem runT.gk (r : Rn) (k : Nat) : gk (k + 2) (runT r) = true := by simp [runT, byT]
@[simp] theorem runT.any (r : Rn) : isAny (runT r) = false := rfl
@[simp] theorem runT.cells (r : Rn) : cellsOf (runT r) = [.int .i64 r.at_, byT r.b] := rfl
@[simp] theorem runT.nr (r : Rn) : nrm (runT r) = runV r := by simp [runT, runV]
@[simp] theorem runT.nrc : nrm ∘ runT = runV := funext fun x => runT.nr x
@[simp] theorem runT.uni (l : List Rn) : uni 2 (l.map runT) = true := uni_map fun _ => rfl
@[simp] theorem runT.flat (l : List Rn) : flat (l.map runT) = l.flatMap fun r => [.int .i64 r.at_, byT r.b] := by rw [flat_map]; rfl
theorem flat_runsT (l : List Rn) : (flat (l.map runT)).length = l.length * 2 := by rw [uni_flat (n := 2) (by simp)]; simp
abbrev Lp (i : Nat) : Ob := .loop 110 [5] [.ptr i 0] .ready
theorem YF_num : YF = 4000000000 := rfl
theorem yld_s {A B : Ob} {v : V} {r : Rn} {rest : List V} {rs : List Rn} {T : List Ob} {Q : CR → List Ob → Prop} (hr : groundL rest = true) (ha : Acc 2 4 T v (rs.map runT)) (hlen : rs.length ≤ 100000)
    (hq : ∀ v' T', Acc 2 4 T' v' ((rs ++ [r]).map runT) → Q (.ret (.bool true)) (Lp 3 :: A :: B :: .live (v' :: rest) :: T')) :
    WCall p YF [.yld 0, runT r] (Lp 3 :: A :: B :: .live (v :: rest) :: T) Q := by
  have hrr : refsL rest = [] := groundL_refs rest hr
  have hre : ∀ g, renL g rest = rest := fun g => groundL_ren g rest hr
  have h0 : refsL [.yld 0, runT r] = [0] := by
    rw [refsL, refsL, ground_refs _ (runT.gd r)]; simp [refs, refsL]
  have bp : bd110.ps = [38] := rfl
  have i3 : ∀ l, List.idxOf 3 (0 :: 3 :: l) = 1 := fun _ => rfl
  have rr : ∀ g, ren g (runT r) = runT r := fun g => ground_ren g _ (runT.gd r)
  have rb : ∀ g, ren g (byT r.b) = byT r.b := fun g => ground_ren g _ (byT.gd r.b)
  obtain ⟨u1, u2, u3⟩ := ha
  rcases u3 with ⟨u3, rfl⟩ | ⟨j, rfl, hj⟩
  · have hre1 : reach (Lp 3 :: A :: B :: .live (.list [] true :: rest) :: T) 1000 (refsL [.yld 0, runT r]) [] = some [0, 3] := by
      rw [h0]
      show reach _ (997 + 1 + 1 + 1) [0] [] = _
      simp [reach, refsOb, refsL, refs, hrr]
    refine WCall_inl rfl hre1 ?_
    simp -dsimp [renL, ren, renOb, hre, i3, rr]
    refine WFun_round ca110 cb110 (k := 110) rfl rfl rfl rfl rfl ka110 kb110 ?_
    simp -dsimp [ca110, cb110, setPs, envT, assignQ, bp, i3, roundQ]
    refine ⟨by simp [capOk], ?_⟩
    have rs0 : rs = [] := by simpa using u3
    subst rs0
    have k0 : backK [0, 3] (T.length + 1 + 1 + 1 + 1) 0 = 0 := rfl
    have k1 : backK [0, 3] (T.length + 1 + 1 + 1 + 1) 1 = 3 := rfl
    have k4 : backK [0, 3] (T.length + 1 + 1 + 1 + 1) 4 = T.length + 1 + 1 + 1 + 1 + 2 := rfl
    have := hq (.own (T.length + 1 + 1 + 1 + 1 + 2) 0 1 2) (T ++ [.live [.int .i64 r.at_, byT r.b], .live [.int .i64 r.at_, byT r.b], .live [.int .i64 r.at_, byT r.b]])
      ⟨by simp, by decide, .inr ⟨T.length + 2, by simp; omega, by simp⟩⟩
    simp [backH, setAll, renOb, ren, renL, renR, hre, crV, refs, refsL, refsOb, k0, k1, k4, rb]
    exact this
  · have hjl : j < T.length := (List.getElem?_eq_some_iff.1 hj).1
    have hj4 : (Lp 3 :: A :: B :: .live (.own (4 + j) 0 (rs.map runT).length 2 :: rest) :: T)[4 + j]? = some (.live (flat (rs.map runT))) := by
      rw [show 4 + j = j + 1 + 1 + 1 + 1 from by omega]; simpa using hj
    have fr : refsL (flat (rs.map runT)) = [] := groundL_refs _ (by simp)
    have fe : ∀ g, renL g (flat (rs.map runT)) = flat (rs.map runT) := fun g => groundL_ren g _ (by simp)
    have hre1 : reach (Lp 3 :: A :: B :: .live (.own (4 + j) 0 (rs.map runT).length 2 :: rest) :: T) 1000 (refsL [.yld 0, runT r]) [] = some [0, 3, 4 + j] := by
      rw [h0]
      refine (reach_go (k := 999) rfl rfl).trans ?_
      refine (reach_go (k := 998) (by rfl) rfl).trans ?_
      simp only [refsOb, refsL, refs, hrr, List.nil_append, List.cons_append, List.append_nil]
      refine (reach_go (k := 997) (by simp; omega) hj4).trans ?_
      simp only [refsOb, fr, List.append_nil, List.nil_append]
      exact reach_end (k := 996)
    have i4 : List.idxOf (4 + j) [0, 3, 4 + j] = 2 := by
      have e0 : (0 == 4 + j) = false := by rw [beq_eq_false_iff_ne]; omega
      have e3 : (3 == 4 + j) = false := by rw [beq_eq_false_iff_ne]; omega
      simp [List.idxOf_cons, e0, e3]
    have gl := flat_runsT rs
    obtain ⟨c, hc⟩ : ∃ c, c = flat (rs.map runT) := ⟨_, rfl⟩
    rw [← hc] at fr fe hj4 hj gl
    have hj4' := hj4
    have hj5 : (Lp 3 :: A :: B :: .live (.own (4 + j) 0 rs.length 2 :: rest) :: T)[4 + j]?.getD .dead = .live c := by
      rw [show rs.length = (rs.map runT).length from by simp, hj4]; rfl
    refine WCall_inl rfl hre1 ?_
    simp -dsimp [renL, ren, hre, i3, rr, i4, hj5]
    simp -dsimp [renL, ren, renOb, hre, i3, rr, i4, fe]
    refine WFun_round ca110 cb110 (k := 110) rfl rfl rfl rfl rfl ka110 kb110 ?_
    simp -dsimp [ca110, cb110, setPs, envT, assignQ, bp, i3, roundQ]
    have k0 : backK [0, 3, 4 + j] (T.length + 1 + 1 + 1 + 1) 0 = 0 := rfl
    have k1 : backK [0, 3, 4 + j] (T.length + 1 + 1 + 1 + 1) 1 = 3 := rfl
    have k5 : backK [0, 3, 4 + j] (T.length + 1 + 1 + 1 + 1) 5 = T.length + 1 + 1 + 1 + 1 + 2 := rfl
    have tc : List.take (rs.length * 2) c = c := List.take_of_length_le (by omega)
    refine ⟨⟨by omega, by simp [capOk]; omega⟩, ?_⟩
    have := hq (.own (T.length + 1 + 1 + 1 + 1 + 2) 0 (rs.length + 1) 2) (T.set j .dead ++ [.live [.int .i64 r.at_, byT r.b], .live [.int .i64 r.at_, byT r.b], .live (c ++ [.int .i64 r.at_, byT r.b])])
      ⟨by simp, by decide, .inr ⟨T.length + 2, by simp; omega, by simp [hc]⟩⟩
    have f2 : ∀ g, renL g (c ++ [V.int .i64 r.at_, byT r.b]) = c ++ [V.int .i64 r.at_, byT r.b] := fun g => groundL_ren g _ (by rw [hc]; simp)
    have s4 : ∀ (x : Ob), (Lp 3 :: A :: B :: .live (.own (T.length + 1 + 1 + 1 + 1 + 2) 0 (rs.length + 1) 2 :: rest) :: T).set (4 + j) x = Lp 3 :: A :: B :: .live (.own (T.length + 1 + 1 + 1 + 1 + 2) 0 (rs.length + 1) 2 :: rest) :: T.set j x := fun x => by
      rw [show 4 + j = j + 1 + 1 + 1 + 1 from by omega]; rfl
    simp [backH, setAll, renOb, ren, renL, renR, hre, crV, refs, refsL, refsOb, k0, k1, k5, rb, tc, f2]
    rw [s4]
    exact this
end Fz.D
set_option maxRecDepth 100000
namespace Fz.D
open Go
abbrev HR (a b : List Int) (v : V) (rest : List V) (T : List Ob) : List Ob := Lp 3 :: .live [byV a] :: .live [byV b] :: .live (v :: rest) :: T
theorem runs1_s {a b : List Int} {rest : List V} (hb : a.length = b.length) (ha : a.length ≤ 100000) (hr : groundL rest = true) {Q : CR → List Ob → Prop}
    (hq : ∀ v T, Acc 2 4 T v ((runsF a b).map runT) → Q (.ret (.tuple [])) (HR a b v rest T)) :
    WFun p 82 [.yld 0, .ptr 1 0, .ptr 2 0] (HR a b (.list [] true) rest []) Q := by
  refine WFun_of w82 rfl rfl k82 ?_
  simp -dsimp [w82]
  refine xL_by (by kernel_rfl) (fun k e H => ∃ (i : Nat) (v : V) (T : List Ob), i ≤ a.length + 1 ∧ k = a.length + 1 - i ∧ e 0 = .yld 0 ∧ e 1 = .ptr 1 0 ∧ e 2 = .ptr 2 0 ∧ e 4 = .int .i64 i ∧ H = HR a b v rest T ∧
    ((i ≤ a.length ∧ (G a b i).2 = i ∧ Acc 2 4 T v ((G a b i).1.map runT)) ∨ (i = a.length + 1 ∧ Acc 2 4 T v ((runsF a b).map runT)))) (a.length + 1) ?_ ?_
  · refine ⟨0, .list [] true, [], by simp, rfl, rfl, rfl, rfl, rfl, rfl, .inl ⟨by simp, rfl, acc_nil (by decide)⟩⟩
  · rintro k e H ⟨i, v, T, hi, hk, h0, h1, h2, h4, rfl, hc⟩
    by_cases c1 : i < a.length
    · rcases hc with ⟨_, hs, hac⟩ | ⟨hc, _⟩
      · simp -dsimp [h0, h1, h2, h4, c1]
        refine xL_by (by kernel_rfl) (fun k e H => ∃ j : Nat, i ≤ j ∧ j ≤ a.length ∧ k = a.length - j ∧ e 0 = .yld 0 ∧ e 1 = .ptr 1 0 ∧ e 2 = .ptr 2 0 ∧ e 4 = .int .i64 j ∧ e 5 = .int .i64 i ∧ H = HR a b v rest T ∧ G a b j = G a b i) (a.length - i) ?_ ?_
        · refine ⟨i, by omega, by omega, rfl, ?_⟩
          simp -dsimp [h0, h1, h2, h4]
        · rintro k e H ⟨j, hij, hj, hk, h0, h1, h2, h4, h5, rfl, hG⟩
          have w2 : IntKind.i64.wrap ((j : Int) + 1) = ((j + 1 : Nat) : Int) := by rw [Fz.w64 (by omega) (by omega)]; omega
          by_cases c2 : j < a.length
          · have c3 : j < b.length := by omega
            have g1 := gt_at c2
            have g2 := gt_at c3
            cases c4 : decide (gt a j = gt b j) with
            | false =>
              have w2 : IntKind.i64.wrap ((j : Int) + 1) = ((j + 1 : Nat) : Int) := by rw [Fz.w64 (by omega) (by omega)]; omega
              simp -dsimp [h0, h1, h2, h4, h5, c2, c3, g1, g2, c4, w2]
              refine ⟨a.length - (j + 1), by omega, j + 1, by omega, by omega, rfl, ?_⟩
              simp -dsimp [h0, h1, h2, h4, h5]
              rw [G, if_neg (by simpa using c4)]
              exact hG
            | true =>
              by_cases c5 : i < j
              · simp -dsimp [h0, h1, h2, h4, h5, c2, c3, g1, g2, c4, c5]
                refine ⟨⟨by omega, by omega⟩, ?_⟩
                rw [show (V.agg [V.int .i64 i, V.list (List.take (j - i) (List.drop i (List.map (V.int .u8) a))) true]) = runT (rn a i j) from by simp [runT, rn, byT]]
                refine yld_s hr hac (by have := fin_len a b i; unfold fin at this; split at this <;> omega) fun v' T' hac' => ?_
                simp -dsimp [h0, h1, h2, h4, h5, w2]
                refine ⟨a.length + 1 - (j + 1), by omega, j + 1, v', T', by omega, rfl, ?_⟩
                simp -dsimp [h0, h1, h2]
                refine .inl ⟨by omega, by rw [G, if_pos (by simpa using c4)], ?_⟩
                have e : (G a b (j + 1)).1 = (G a b i).1 ++ [rn a i j] := by
                  rw [G, if_pos (by simpa using c4), hG]; simp only [fin, hs, c5, if_true]
                rw [e]; exact hac'
              · have hjj : i = j := by omega
                subst hjj
                simp -dsimp [h0, h1, h2, h4, h5, c2, c3, g1, g2, c4, c5, w2]
                refine ⟨a.length + 1 - (i + 1), by omega, i + 1, v, T, by omega, rfl, ?_⟩
                simp -dsimp [h0, h1, h2]
                refine .inl ⟨by omega, by rw [G, if_pos (by simpa using c4)], ?_⟩
                have e : (G a b (i + 1)).1 = (G a b i).1 := by
                  rw [G, if_pos (by simpa using c4)]; simp only [fin, hs, c5, if_false]
                rw [e]; exact hac
          · have hjj : j = a.length := by omega
            subst hjj
            simp -dsimp [h0, h1, h2, h4, h5, c2, c1]
            refine ⟨by omega, ?_⟩
            rw [show (V.agg [V.int .i64 i, V.list (List.take (a.length - i) (List.drop i (List.map (V.int .u8) a))) true]) = runT (rn a i a.length) from by simp [runT, rn, byT]]
            refine yld_s hr hac (by have := fin_len a b i; unfold fin at this; split at this <;> omega) fun v' T' hac' => ?_
            simp -dsimp [h0, h1, h2, h4, h5, w2]
            refine ⟨a.length + 1 - (a.length + 1), by omega, a.length + 1, v', T', by omega, rfl, ?_⟩
            simp -dsimp [h0, h1, h2]
            have e : runsF a b = (G a b i).1 ++ [rn a i a.length] := by
              unfold runsF
              rw [hG]; simp only [fin, hs, c1, if_true]
            rw [e]; exact .inr hac'
      · omega
    · simp -dsimp [h0, h1, h2, h4, c1]
      refine hq v T ?_
      rcases hc with ⟨hle, hs, hac⟩ | ⟨_, hac⟩
      · have hii : i = a.length := by omega
        subst hii
        have e : runsF a b = (G a b a.length).1 := by
          unfold runsF fin
          rw [if_neg (by omega)]
        rw [e]; exact hac
      · exact hac
end Fz.D
set_option maxRecDepth 100000
namespace Fz.D
open Go
def diffD (f t : St) : De := { mem := runsF f.mem t.mem, dk := (shr inQ f.data t.data : Nat), dt := f.data.drop (shr inQ f.data t.data), rk := (shr sloQ f.ret t.ret : Nat), rt := f.ret.drop (shr sloQ f.ret t.ret), ck := (shr inQ f.ctl t.ctl : Nat), ct := f.ctl.drop (shr inQ f.ctl t.ctl), wk := (shr worQ f.words t.words : Nat), wt := f.words.drop (shr worQ f.words t.words), sk := (shr spoQ f.spots t.spots : Nat), st := f.spots.drop (shr spoQ f.spots t.spots), out := (t.out.length : Int) - f.out.length, r0 := f.ip, r1 := f.here, r2 := f.at_, r3 := f.tok, r4 := f.in_, r5 := f.err, comp := f.comp, halt := f.halt }
/-- A state's lists aren't long. -/
structure StLen (s : St) : Prop where
  mem : s.mem.length ≤ 100000
  data : s.data.length ≤ 100000
  ret : s.ret.length ≤ 100000
  ctl : s.ctl.length ≤ 100000
  words : s.words.length ≤ 100000
  spots : s.spots.length ≤ 100000
  out : s.out.length ≤ 100000000
theorem refDiff_s {f t : St} (hf : StLen f) (ht : StLen t) (hm : f.mem.length = t.mem.length) : Comes p 13 [stV f, stV t] (deV (diffD f t)) := by
  have c0 := refRuns_s (a := f.mem) (b := t.mem) (by omega) hf.mem
  have c1 := cut_s (a := f.data) (b := t.data) (by have := hf.data; omega) (by have := ht.data; omega)
  have c2 := frames_s (a := f.ret) (b := t.ret) (by have := hf.ret; omega) (by have := ht.ret; omega)
  have c3 := cut_s (a := f.ctl) (b := t.ctl) (by have := hf.ctl; omega) (by have := ht.ctl; omega)
  have c4 := names_s (a := f.words) (b := t.words) (by have := hf.words; omega) (by have := ht.words; omega)
  have c5 := places_s (a := f.spots) (b := t.spots) (by have := hf.spots; omega) (by have := ht.spots; omega)
  have w : IntKind.i64.wrap ((t.out.length : Int) - f.out.length) = (t.out.length : Int) - f.out.length := Fz.w64 (by have := hf.out; omega) (by have := ht.out; omega)
  refine Comes_of w13 rfl rfl k13 ?_ ?_ ?_ ?_
  · simp
  · simp
  · simp
  · simp -dsimp [w13, wFix_by, isInl, call_by c1, call_by c2, call_by c3, call_by c4, call_by c5, quiet_by c0, w]
    rfl
theorem runs_s (a b : List Int) {H : List Ob} {Q : CR → List Ob → Prop} (hq : Q (.ret (.fn (.func 82) [] [.ptr H.length 0, .ptr (H.length + 1) 0])) (H ++ [.live [byV a], .live [byV b]])) : xCall p 22 [byV a, byV b] H Q := by
  have h0 : refsL [byV a, byV b] = [] := groundL_refs _ (by simp)
  refine WCall_inl (by kernel_rfl) (ids := []) (by rw [h0]; rfl) ?_
  have r0 : renL (fun i => List.idxOf i ([] : List Nat)) [byV a, byV b] = [byV a, byV b] := groundL_ren _ _ (by simp)
  rw [r0]
  refine WFun_of w22 rfl rfl k22 ?_
  simp -dsimp [w22, renL, ren]
  have ra : ∀ g, ren g (byV a) = byV a := fun g => ground_ren g _ (byV.gd a)
  have rb : ∀ g, ren g (byV b) = byV b := fun g => ground_ren g _ (byV.gd b)
  simpa [renR, ren, renL, backH, crV, refs, refsL, setAll, renOb, backK, ra, rb] using hq
theorem ids_s {o0 o1 o2 : Ob} {v : V} {rest : List V} {a b : List Int} (hr : groundL rest = true) (hv : refs v = []) :
    reach ([o0, o1, o2, .live (v :: rest), .live [byV a], .live [byV b]] ++ [Lp 3]) 1000 [6, 4, 5] [] = some [6, 4, 5, 3] := by
  have hrr : refsL rest = [] := groundL_refs rest hr
  have e1 : refsL [byV a] = [] := groundL_refs _ (by simp)
  have e2 : refsL [byV b] = [] := groundL_refs _ (by simp)
  have e1' : refs (byV a) = [] := ground_refs _ (byV.gd a)
  have e2' : refs (byV b) = [] := ground_refs _ (byV.gd b)
  refine (reach_go (k := 999) rfl rfl).trans ?_
  refine (reach_go (k := 998) rfl rfl).trans ?_
  simp only [refsOb, refsL, refs, e1, List.nil_append, List.cons_append, List.append_nil]
  refine (reach_go (k := 997) rfl rfl).trans ?_
  simp only [refsOb, refsL, refs, e2, List.nil_append, List.cons_append, List.append_nil]
  refine (reach_go (k := 996) rfl rfl).trans ?_
  simp only [refsOb, refsL, refs, hrr, hv, e1', e2', List.nil_append, List.cons_append, List.append_nil]
  exact reach_end (k := 995)
theorem range_s {o0 o1 o2 : Ob} {rest : List V} {a b : List Int} {e : Env} {Q : QX} (hb : a.length = b.length) (ha : a.length ≤ 100000) (hr : groundL rest = true) (h5 : e 5 = .ptr 3 0)
    (hq : ∀ v T, Acc 2 7 T v ((runsF a b).map runT) → Q .normal e (o0 :: o1 :: o2 :: .live (v :: rest) :: .live [byV a] :: .live [byV b] :: .dead :: T)) :
    WRange p 110 (.fn (.func 82) [] [.ptr 4 0, .ptr 5 0]) e [o0, o1, o2, .live (.list [] true :: rest), .live [byV a], .live [byV b]] Q := by
  have hre : ∀ g, renL g rest = rest := fun g => groundL_ren g rest hr
  have hrr : refsL rest = [] := groundL_refs rest hr
  have e1 : refs (byV a) = [] := ground_refs _ (byV.gd a)
  have e2 : refs (byV b) = [] := ground_refs _ (byV.gd b)
  have ra : ∀ g, ren g (byV a) = byV a := fun g => ground_ren g _ (byV.gd a)
  have rb : ∀ g, ren g (byV b) = byV b := fun g => ground_ren g _ (byV.gd b)
  refine WRange_of (ab := bd110) (ids := [6, 4, 5, 3]) rfl (by decide) rfl rfl ?_ ?_
  · have : refsL ([] ++ [V.yld 6] ++ [V.ptr 4 0, V.ptr 5 0]) = [6, 4, 5] := by simp [refsL, refs]
    show reach _ 1000 (refsL ([] ++ [V.yld 6] ++ [V.ptr 4 0, V.ptr 5 0])) [] = _
    rw [this]
    have hk : bd110.keep.map e = [.ptr 3 0] := by show [e 5] = _; rw [h5]
    rw [hk]
    exact ids_s hr (by simp [refs, refsL])
  · have hk : bd110.keep.map e = [.ptr 3 0] := by show [e 5] = _; rw [h5]
    rw [hk]
    have i6 : List.idxOf 6 [6, 4, 5, 3] = 0 := rfl
    have i4 : List.idxOf 4 [6, 4, 5, 3] = 1 := rfl
    have i5 : List.idxOf 5 [6, 4, 5, 3] = 2 := rfl
    have i3 : List.idxOf 3 [6, 4, 5, 3] = 3 := rfl
    have ka : bd110.keep = [5] := rfl
    simp [renL, ren, renOb, i6, i4, i5, i3, hre, ra, rb, ka]
    refine runs1_s hb ha hr fun v T hac => ⟨by simp, ?_⟩
    obtain ⟨u1, u2, u3⟩ := hac
    rcases u3 with ⟨u3, rfl⟩ | ⟨j, rfl, hj⟩
    · refine ⟨.normal, e, _, ?_, hq (.list [] true) [] ⟨u1, u2, .inl ⟨u3, rfl⟩⟩⟩
      have k0 : backK [6, 4, 5, 3] 7 3 = 3 := rfl
      simp [backH, setAll, renOb, ren, renL, renR, hre, crV, refs, refsL, refsOb, hrr, e1, e2, ra, rb, k0, endRange]
    · have k0 : backK [6, 4, 5, 3] 7 3 = 3 := rfl
      have k1 : backK [6, 4, 5, 3] 7 (4 + j) = 7 + j := by simp [backK]; omega
      refine ⟨.normal, e, _, ?_, hq (.own (7 + j) 0 ((runsF a b).map runT).length 2) (T.map (renOb (backK [6, 4, 5, 3] 7))) ⟨u1, u2, .inr ⟨j, rfl, ?_⟩⟩⟩
      · simp [backH, setAll, renOb, ren, renL, renR, hre, crV, refs, refsL, refsOb, hrr, e1, e2, ra, rb, k0, k1, endRange]
      · rw [List.getElem?_map, hj]
        simp only [Option.map_some, renOb]
        rw [groundL_ren _ _ (by simp)]
theorem diff_s {f t : St} (hf : StLen f) (ht : StLen t) (hm : f.mem.length = t.mem.length) : Comes p 11 [stV f, stV t] (deV (diffD f t)) := by
  have c1 := shareInt_s (a := f.data) (b := t.data) (by have := hf.data; omega) (by have := ht.data; omega)
  have c2 := shareSlo_s (a := f.ret) (b := t.ret) (by have := hf.ret; omega) (by have := ht.ret; omega)
  have c3 := shareInt_s (a := f.ctl) (b := t.ctl) (by have := hf.ctl; omega) (by have := ht.ctl; omega)
  have c4 := shareWor_s (a := f.words) (b := t.words) (by have := hf.words; omega) (by have := ht.words; omega)
  have c5 := shareSpo_s (a := f.spots) (b := t.spots) (by have := hf.spots; omega) (by have := ht.spots; omega)
  have w : IntKind.i64.wrap ((t.out.length : Int) - f.out.length) = (t.out.length : Int) - f.out.length := Fz.w64 (by have := hf.out; omega) (by have := ht.out; omega)
  refine Comes_of w11 rfl rfl k11 ?_ ?_ ?_ ?_
  · simp
  · simp
  · simp
  · simp -dsimp [w11, wFix_by, isInl, w]
    refine runs_s _ _ ?_
    simp -dsimp [isInl]
    refine range_s hm hf.mem (by simp) rfl fun v T hac => ?_
    have hst : storable v = true := by
      obtain ⟨_, _, h3⟩ := hac
      rcases h3 with ⟨_, rfl⟩ | ⟨j, rfl, _⟩ <;> rfl
    simp -dsimp [-List.map_drop, drop_map, map_tail2, wFix_by, isInl, call_by c1, call_by c2, call_by c3, call_by c4, call_by c5]
    refine ⟨(shr_le _ _).1, (shr_le _ _).1, (shr_le _ _).1, (shr_le _ _).1, (shr_le _ _).1, hst, ?_⟩
    refine frz_acc 7 (k := 10) hac (by simp [byT]) (by simp; exact fun x _ => ⟨_, rfl⟩) (fun H' _ _ => ?_)
    simp -dsimp [-List.map_drop, drop_map, diffD]
    try rfl
end Fz.D
set_option maxRecDepth 100000
namespace Fz.D
open Go
def by8 (b : List Int) : Prop := ∀ x ∈ b, 0 ≤ x ∧ x < 256
/-- Bytes as a text. -/
def bstr (b : List Int) : ByteArray := bytesV (b.map (V.int .u8))
theorem all8 {b : List Int} (h : by8 b) : allU8 (b.map (V.int .u8)) = true := by
  unfold allU8
  rw [List.all_map, List.all_eq_true]
  intro x hx
  have := h x hx
  simp [this.1, this.2]
def u8f (x : Int) : UInt8 := x.toNat.toUInt8
theorem bstr_eq (b : List Int) : bstr b = ⟨(b.map u8f).toArray⟩ := by
  unfold bstr bytesV
  rw [List.map_map]; rfl
theorem bstr_inj {a b : List Int} (ha : by8 a) (hb : by8 b) (h : bstr a = bstr b) : a = b := by
  rw [bstr_eq, bstr_eq] at h
  have h1 : a.map u8f = b.map u8f := by
    have := congrArg (fun x => x.data.toList) h
    simpa using this
  have key : ∀ (l : List Int), by8 l → (l.map u8f).map (fun u => (u.toNat : Int)) = l := by
    intro l hl
    rw [List.map_map]
    conv => rhs; rw [← List.map_id l]
    refine List.map_congr_left fun x hx => ?_
    have := hl x hx
    have e : (u8f x).toNat = x.toNat := by
      show x.toNat % 256 = _
      omega
    simp only [Function.comp_apply, id_eq, e]
    omega
  rw [← key a ha, ← key b hb, h1]
theorem nmB_len (s : ByteArray) : (nmB s).length = s.size := by
  unfold nmB
  rw [List.length_map, Array.length_toList]; rfl
def fewB (s : St) : Bool := (s.words.take 41).all (fun w => decide (w.name.size ≤ 60)) && (decide (s.mem.length ≤ 600) && (decide (s.data.length ≤ 40) && (decide (s.ret.length ≤ 40) && (decide (s.ctl.length ≤ 200) && (decide (s.words.length ≤ 40) && (decide (s.spots.length ≤ 100) && decide (s.out.length ≤ 200)))))))
theorem all_take {α : Type} {f : α → Bool} {l : List α} {i : Nat} (h : i < l.length) : (l.take (i + 1)).all f = ((l.take i).all f && f l[i]) := by
  rw [List.take_succ_eq_append_getElem h, List.all_append, List.all_cons, List.all_nil, Bool.and_true]
theorem all_false {α : Type} {f : α → Bool} {l : List α} {i n : Nat} (h : i < l.length) (hn : i < n) (hf : f l[i] = false) : (l.take n).all f = false := by
  rw [List.all_eq_false]
  exact ⟨l[i], List.mem_take_iff_getElem.2 ⟨i, by omega, rfl⟩, by simp [hf]⟩
theorem few_s (s : St) : Comes p 9 [stV s] (.bool (fewB s)) := by
  refine Comes_of w9 rfl rfl k9 ?_ ?_ ?_ ?_
  · simp
  · simp
  · simp
  · simp -dsimp [w9, wFix_by, isInl]
    refine xL_by (by kernel_rfl) (fun k e H => ∃ i : Nat, i ≤ 41 ∧ k = 41 - i ∧ e 1 = .ptr 0 0 ∧ e 3 = .int .i64 i ∧ H = [.live (cellsOf (stV s))] ∧ (s.words.take i).all (fun w => decide (w.name.size ≤ 60)) = true) 41 ?_ ?_
    · refine ⟨0, by omega, rfl, ?_⟩
      simp -dsimp
    rintro k e H ⟨i, hi, hk, h1, h3, rfl, hall⟩
    by_cases c1 : i < s.words.length
    · by_cases c2 : i < 41
      · have w2 : IntKind.i64.wrap ((i : Int) + 1) = ((i + 1 : Nat) : Int) := by rw [Fz.w64 (by omega) (by omega)]; omega
        have c2' : (i : Int) < 41 := by omega
        have q := all_take (f := (fun w => decide (w.name.size ≤ 60))) c1
        by_cases c3 : s.words[i].name.size ≤ 60
        · have c3' : ¬ ((s.words[i].name.size : Nat) : Int) > 60 := by omega
          have c3'' : ¬ (60 < ((s.words[i].name.size : Nat) : Int)) := by omega
          simp -dsimp [h1, h3, c1, c2, c2', c3', c3'', w2]
          refine ⟨41 - (i + 1), by omega, i + 1, by omega, rfl, ?_⟩
          rw [q, hall]
          simp -dsimp [h1, h3, c3]
        · have c3' : ((s.words[i].name.size : Nat) : Int) > 60 := by omega
          have c3'' : 60 < ((s.words[i].name.size : Nat) : Int) := by omega
          have z : fewB s = false := by
            have := all_false (f := (fun w => decide (w.name.size ≤ 60))) (n := 41) c1 c2 (by simp; omega)
            unfold fewB
            rw [this]; simp
          simp -dsimp [h1, h3, c1, c2, c2', c3', c3'', wFix_by, isInl, z]
      have hi' : i = 41 := by omega
      have c2' : ¬ (i : Int) < 41 := by omega
      have a0 : (s.words.take 41).all (fun w => decide (w.name.size ≤ 60)) = true := by rw [← hi']; exact hall
      have f0 : ¬ (i < s.words.length ∧ i < 41) := by omega
      by_cases d0 : ¬ s.mem.length ≤ 600
      · have d0' : ¬ (((s.mem.length : Nat) : Int) ≤ 600) := by omega
        simp -dsimp [h1, h3, wFix_by, isInl, c1, c2, c2', d0, d0', fewB]
      rw [Classical.not_not] at d0
      have d0' : (((s.mem.length : Nat) : Int) ≤ 600) := by omega
      by_cases d1 : ¬ s.data.length ≤ 40
      · have d1' : ¬ (((s.data.length : Nat) : Int) ≤ 40) := by omega
        simp -dsimp [h1, h3, wFix_by, isInl, c1, c2, c2', d0, d0', d1, d1', fewB]
      rw [Classical.not_not] at d1
      have d1' : (((s.data.length : Nat) : Int) ≤ 40) := by omega
      by_cases d2 : ¬ s.ret.length ≤ 40
      · have d2' : ¬ (((s.ret.length : Nat) : Int) ≤ 40) := by omega
        simp -dsimp [h1, h3, wFix_by, isInl, c1, c2, c2', d0, d0', d1, d1', d2, d2', fewB]
      rw [Classical.not_not] at d2
      have d2' : (((s.ret.length : Nat) : Int) ≤ 40) := by omega
      by_cases d3 : ¬ s.ctl.length ≤ 200
      · have d3' : ¬ (((s.ctl.length : Nat) : Int) ≤ 200) := by omega
        simp -dsimp [h1, h3, wFix_by, isInl, c1, c2, c2', d0, d0', d1, d1', d2, d2', d3, d3', fewB]
      rw [Classical.not_not] at d3
      have d3' : (((s.ctl.length : Nat) : Int) ≤ 200) := by omega
      by_cases d4 : ¬ s.words.length ≤ 40
      · have d4' : ¬ (((s.words.length : Nat) : Int) ≤ 40) := by omega
        simp -dsimp [h1, h3, wFix_by, isInl, c1, c2, c2', d0, d0', d1, d1', d2, d2', d3, d3', d4, d4', fewB]
      rw [Classical.not_not] at d4
      have d4' : (((s.words.length : Nat) : Int) ≤ 40) := by omega
      by_cases d5 : ¬ s.spots.length ≤ 100
      · have d5' : ¬ (((s.spots.length : Nat) : Int) ≤ 100) := by omega
        simp -dsimp [h1, h3, wFix_by, isInl, c1, c2, c2', d0, d0', d1, d1', d2, d2', d3, d3', d4, d4', d5, d5', fewB]
      rw [Classical.not_not] at d5
      have d5' : (((s.spots.length : Nat) : Int) ≤ 100) := by omega
      by_cases d6 : ¬ s.out.length ≤ 200
      · have d6' : ¬ (((s.out.length : Nat) : Int) ≤ 200) := by omega
        simp -dsimp [h1, h3, wFix_by, isInl, c1, c2, c2', d0, d0', d1, d1', d2, d2', d3, d3', d4, d4', d5, d5', d6, d6', fewB]
      rw [Classical.not_not] at d6
      have d6' : (((s.out.length : Nat) : Int) ≤ 200) := by omega
      simp -dsimp [h1, h3, wFix_by, isInl, c1, c2, c2', d0, d0', d1, d1', d2, d2', d3, d3', d4, d4', d5, d5', d6, d6', a0, fewB]
    have a0 : (s.words.take 41).all (fun w => decide (w.name.size ≤ 60)) = true := by
      rw [List.take_of_length_le (by omega)]
      rw [List.take_of_length_le (by omega)] at hall
      exact hall
    by_cases d0 : ¬ s.mem.length ≤ 600
    · have d0' : ¬ (((s.mem.length : Nat) : Int) ≤ 600) := by omega
      simp -dsimp [h1, h3, wFix_by, isInl, c1, d0, d0', fewB]
    rw [Classical.not_not] at d0
    have d0' : (((s.mem.length : Nat) : Int) ≤ 600) := by omega
    by_cases d1 : ¬ s.data.length ≤ 40
    · have d1' : ¬ (((s.data.length : Nat) : Int) ≤ 40) := by omega
      simp -dsimp [h1, h3, wFix_by, isInl, c1, d0, d0', d1, d1', fewB]
    rw [Classical.not_not] at d1
    have d1' : (((s.data.length : Nat) : Int) ≤ 40) := by omega
    by_cases d2 : ¬ s.ret.length ≤ 40
    · have d2' : ¬ (((s.ret.length : Nat) : Int) ≤ 40) := by omega
      simp -dsimp [h1, h3, wFix_by, isInl, c1, d0, d0', d1, d1', d2, d2', fewB]
    rw [Classical.not_not] at d2
    have d2' : (((s.ret.length : Nat) : Int) ≤ 40) := by omega
    by_cases d3 : ¬ s.ctl.length ≤ 200
    · have d3' : ¬ (((s.ctl.length : Nat) : Int) ≤ 200) := by omega
      simp -dsimp [h1, h3, wFix_by, isInl, c1, d0, d0', d1, d1', d2, d2', d3, d3', fewB]
    rw [Classical.not_not] at d3
    have d3' : (((s.ctl.length : Nat) : Int) ≤ 200) := by omega
    by_cases d4 : ¬ s.words.length ≤ 40
    · have d4' : ¬ (((s.words.length : Nat) : Int) ≤ 40) := by omega
      simp -dsimp [h1, h3, wFix_by, isInl, c1, d0, d0', d1, d1', d2, d2', d3, d3', d4, d4', fewB]
    rw [Classical.not_not] at d4
    have d4' : (((s.words.length : Nat) : Int) ≤ 40) := by omega
    by_cases d5 : ¬ s.spots.length ≤ 100
    · have d5' : ¬ (((s.spots.length : Nat) : Int) ≤ 100) := by omega
      simp -dsimp [h1, h3, wFix_by, isInl, c1, d0, d0', d1, d1', d2, d2', d3, d3', d4, d4', d5, d5', fewB]
    rw [Classical.not_not] at d5
    have d5' : (((s.spots.length : Nat) : Int) ≤ 100) := by omega
    by_cases d6 : ¬ s.out.length ≤ 200
    · have d6' : ¬ (((s.out.length : Nat) : Int) ≤ 200) := by omega
      simp -dsimp [h1, h3, wFix_by, isInl, c1, d0, d0', d1, d1', d2, d2', d3, d3', d4, d4', d5, d5', d6, d6', fewB]
    rw [Classical.not_not] at d6
    have d6' : (((s.out.length : Nat) : Int) ≤ 200) := by omega
    simp -dsimp [h1, h3, wFix_by, isInl, c1, d0, d0', d1, d1', d2, d2', d3, d3', d4, d4', d5, d5', d6, d6', a0, fewB]
def fewD (d : De) : Bool := (d.mem.take 21).all (fun w => decide (w.b.length ≤ 100)) && ((d.wt.take 21).all (fun w => decide (w.name.size ≤ 60)) && (decide (d.mem.length ≤ 20) && (decide (d.dt.length ≤ 20) && (decide (d.rt.length ≤ 20) && (decide (d.ct.length ≤ 20) && (decide (d.wt.length ≤ 20) && decide (d.st.length ≤ 20)))))))
theorem few18_s (d : De) : Comes p 16 [deV d] (.bool (fewD d)) := by
  refine Comes_of w16 rfl rfl k16 ?_ ?_ ?_ ?_
  · simp
  · simp
  · simp
  · simp -dsimp [w16, wFix_by, isInl]
    refine xL_by (by kernel_rfl) (fun k e H => ∃ i : Nat, i ≤ 21 ∧ k = 21 - i ∧ e 1 = .ptr 0 0 ∧ e 3 = .int .i64 i ∧ H = [.live (cellsOf (deV d))] ∧ (d.mem.take i).all (fun w => decide (w.b.length ≤ 100)) = true) 21 ?_ ?_
    · refine ⟨0, by omega, rfl, ?_⟩
      simp -dsimp
    rintro k e H ⟨i, hi, hk, h1, h3, rfl, hall⟩
    by_cases c1 : i < d.mem.length
    · by_cases c2 : i < 21
      · have w2 : IntKind.i64.wrap ((i : Int) + 1) = ((i + 1 : Nat) : Int) := by rw [Fz.w64 (by omega) (by omega)]; omega
        have c2' : (i : Int) < 21 := by omega
        have q := all_take (f := (fun w => decide (w.b.length ≤ 100))) c1
        by_cases c3 : d.mem[i].b.length ≤ 100
        · have c3' : ¬ ((d.mem[i].b.length : Nat) : Int) > 100 := by omega
          have c3'' : ¬ (100 < ((d.mem[i].b.length : Nat) : Int)) := by omega
          simp -dsimp [h1, h3, c1, c2, c2', c3', c3'', w2]
          refine ⟨21 - (i + 1), by omega, i + 1, by omega, rfl, ?_⟩
          rw [q, hall]
          simp -dsimp [h1, h3, c3]
        · have c3' : ((d.mem[i].b.length : Nat) : Int) > 100 := by omega
          have c3'' : 100 < ((d.mem[i].b.length : Nat) : Int) := by omega
          have z : fewD d = false := by
            have := all_false (f := (fun w => decide (w.b.length ≤ 100))) (n := 21) c1 c2 (by simp; omega)
            unfold fewD
            rw [this]; simp
          simp -dsimp [h1, h3, c1, c2, c2', c3', c3'', wFix_by, isInl, z]
      have hi' : i = 21 := by omega
      have c2' : ¬ (i : Int) < 21 := by omega
      have a0 : (d.mem.take 21).all (fun w => decide (w.b.length ≤ 100)) = true := by rw [← hi']; exact hall
      have f0 : ¬ (i < d.mem.length ∧ i < 21) := by omega
      simp -dsimp [h1, h3, c1, c2, c2']
      refine xL_by (by kernel_rfl) (fun k e H => ∃ i : Nat, i ≤ 21 ∧ k = 21 - i ∧ e 1 = .ptr 0 0 ∧ e 4 = .int .i64 i ∧ H = [.live (cellsOf (deV d))] ∧ (d.wt.take i).all (fun w => decide (w.name.size ≤ 60)) = true) 21 ?_ ?_
      · refine ⟨0, by omega, rfl, ?_⟩
        simp -dsimp [h1]
      rintro k e H ⟨i, hi, hk, h1, h3, rfl, hall⟩
      by_cases c1 : i < d.wt.length
      · by_cases c2 : i < 21
        · have w2 : IntKind.i64.wrap ((i : Int) + 1) = ((i + 1 : Nat) : Int) := by rw [Fz.w64 (by omega) (by omega)]; omega
          have c2' : (i : Int) < 21 := by omega
          have q := all_take (f := (fun w => decide (w.name.size ≤ 60))) c1
          by_cases c3 : d.wt[i].name.size ≤ 60
          · have c3' : ¬ ((d.wt[i].name.size : Nat) : Int) > 60 := by omega
            have c3'' : ¬ (60 < ((d.wt[i].name.size : Nat) : Int)) := by omega
            simp -dsimp [h1, h3, c1, c2, c2', c3', c3'', w2]
            refine ⟨21 - (i + 1), by omega, i + 1, by omega, rfl, ?_⟩
            rw [q, hall]
            simp -dsimp [h1, h3, c3]
          · have c3' : ((d.wt[i].name.size : Nat) : Int) > 60 := by omega
            have c3'' : 60 < ((d.wt[i].name.size : Nat) : Int) := by omega
            have z : fewD d = false := by
              have := all_false (f := (fun w => decide (w.name.size ≤ 60))) (n := 21) c1 c2 (by simp; omega)
              unfold fewD
              rw [this]; simp
            simp -dsimp [h1, h3, c1, c2, c2', c3', c3'', wFix_by, isInl, z]
        have hi' : i = 21 := by omega
        have c2' : ¬ (i : Int) < 21 := by omega
        have a1 : (d.wt.take 21).all (fun w => decide (w.name.size ≤ 60)) = true := by rw [← hi']; exact hall
        have f1 : ¬ (i < d.wt.length ∧ i < 21) := by omega
        by_cases d0 : ¬ d.mem.length ≤ 20
        · have d0' : ¬ (((d.mem.length : Nat) : Int) ≤ 20) := by omega
          simp -dsimp [h1, h3, wFix_by, isInl, c1, c2, c2', d0, d0', fewD]
        rw [Classical.not_not] at d0
        have d0' : (((d.mem.length : Nat) : Int) ≤ 20) := by omega
        by_cases d1 : ¬ d.dt.length ≤ 20
        · have d1' : ¬ (((d.dt.length : Nat) : Int) ≤ 20) := by omega
          simp -dsimp [h1, h3, wFix_by, isInl, c1, c2, c2', d0, d0', d1, d1', fewD]
        rw [Classical.not_not] at d1
        have d1' : (((d.dt.length : Nat) : Int) ≤ 20) := by omega
        by_cases d2 : ¬ d.rt.length ≤ 20
        · have d2' : ¬ (((d.rt.length : Nat) : Int) ≤ 20) := by omega
          simp -dsimp [h1, h3, wFix_by, isInl, c1, c2, c2', d0, d0', d1, d1', d2, d2', fewD]
        rw [Classical.not_not] at d2
        have d2' : (((d.rt.length : Nat) : Int) ≤ 20) := by omega
        by_cases d3 : ¬ d.ct.length ≤ 20
        · have d3' : ¬ (((d.ct.length : Nat) : Int) ≤ 20) := by omega
          simp -dsimp [h1, h3, wFix_by, isInl, c1, c2, c2', d0, d0', d1, d1', d2, d2', d3, d3', fewD]
        rw [Classical.not_not] at d3
        have d3' : (((d.ct.length : Nat) : Int) ≤ 20) := by omega
        by_cases d4 : ¬ d.wt.length ≤ 20
        · have d4' : ¬ (((d.wt.length : Nat) : Int) ≤ 20) := by omega
          simp -dsimp [h1, h3, wFix_by, isInl, c1, c2, c2', d0, d0', d1, d1', d2, d2', d3, d3', d4, d4', fewD]
        rw [Classical.not_not] at d4
        have d4' : (((d.wt.length : Nat) : Int) ≤ 20) := by omega
        by_cases d5 : ¬ d.st.length ≤ 20
        · have d5' : ¬ (((d.st.length : Nat) : Int) ≤ 20) := by omega
          simp -dsimp [h1, h3, wFix_by, isInl, c1, c2, c2', d0, d0', d1, d1', d2, d2', d3, d3', d4, d4', d5, d5', fewD]
        rw [Classical.not_not] at d5
        have d5' : (((d.st.length : Nat) : Int) ≤ 20) := by omega
        simp -dsimp [h1, h3, wFix_by, isInl, c1, c2, c2', d0, d0', d1, d1', d2, d2', d3, d3', d4, d4', d5, d5', a0, a1, fewD]
      have a1 : (d.wt.take 21).all (fun w => decide (w.name.size ≤ 60)) = true := by
        rw [List.take_of_length_le (by omega)]
        rw [List.take_of_length_le (by omega)] at hall
        exact hall
      by_cases d0 : ¬ d.mem.length ≤ 20
      · have d0' : ¬ (((d.mem.length : Nat) : Int) ≤ 20) := by omega
        simp -dsimp [h1, h3, wFix_by, isInl, c1, d0, d0', fewD]
      rw [Classical.not_not] at d0
      have d0' : (((d.mem.length : Nat) : Int) ≤ 20) := by omega
      by_cases d1 : ¬ d.dt.length ≤ 20
      · have d1' : ¬ (((d.dt.length : Nat) : Int) ≤ 20) := by omega
        simp -dsimp [h1, h3, wFix_by, isInl, c1, d0, d0', d1, d1', fewD]
      rw [Classical.not_not] at d1
      have d1' : (((d.dt.length : Nat) : Int) ≤ 20) := by omega
      by_cases d2 : ¬ d.rt.length ≤ 20
      · have d2' : ¬ (((d.rt.length : Nat) : Int) ≤ 20) := by omega
        simp -dsimp [h1, h3, wFix_by, isInl, c1, d0, d0', d1, d1', d2, d2', fewD]
      rw [Classical.not_not] at d2
      have d2' : (((d.rt.length : Nat) : Int) ≤ 20) := by omega
      by_cases d3 : ¬ d.ct.length ≤ 20
      · have d3' : ¬ (((d.ct.length : Nat) : Int) ≤ 20) := by omega
        simp -dsimp [h1, h3, wFix_by, isInl, c1, d0, d0', d1, d1', d2, d2', d3, d3', fewD]
      rw [Classical.not_not] at d3
      have d3' : (((d.ct.length : Nat) : Int) ≤ 20) := by omega
      by_cases d4 : ¬ d.wt.length ≤ 20
      · have d4' : ¬ (((d.wt.length : Nat) : Int) ≤ 20) := by omega
        simp -dsimp [h1, h3, wFix_by, isInl, c1, d0, d0', d1, d1', d2, d2', d3, d3', d4, d4', fewD]
      rw [Classical.not_not] at d4
      have d4' : (((d.wt.length : Nat) : Int) ≤ 20) := by omega
      by_cases d5 : ¬ d.st.length ≤ 20
      · have d5' : ¬ (((d.st.length : Nat) : Int) ≤ 20) := by omega
        simp -dsimp [h1, h3, wFix_by, isInl, c1, d0, d0', d1, d1', d2, d2', d3, d3', d4, d4', d5, d5', fewD]
      rw [Classical.not_not] at d5
      have d5' : (((d.st.length : Nat) : Int) ≤ 20) := by omega
      simp -dsimp [h1, h3, wFix_by, isInl, c1, d0, d0', d1, d1', d2, d2', d3, d3', d4, d4', d5, d5', a0, a1, fewD]
    have a0 : (d.mem.take 21).all (fun w => decide (w.b.length ≤ 100)) = true := by
      rw [List.take_of_length_le (by omega)]
      rw [List.take_of_length_le (by omega)] at hall
      exact hall
    simp -dsimp [h1, h3, c1]
    refine xL_by (by kernel_rfl) (fun k e H => ∃ i : Nat, i ≤ 21 ∧ k = 21 - i ∧ e 1 = .ptr 0 0 ∧ e 4 = .int .i64 i ∧ H = [.live (cellsOf (deV d))] ∧ (d.wt.take i).all (fun w => decide (w.name.size ≤ 60)) = true) 21 ?_ ?_
    · refine ⟨0, by omega, rfl, ?_⟩
      simp -dsimp [h1]
    rintro k e H ⟨i, hi, hk, h1, h3, rfl, hall⟩
    by_cases c1 : i < d.wt.length
    · by_cases c2 : i < 21
      · have w2 : IntKind.i64.wrap ((i : Int) + 1) = ((i + 1 : Nat) : Int) := by rw [Fz.w64 (by omega) (by omega)]; omega
        have c2' : (i : Int) < 21 := by omega
        have q := all_take (f := (fun w => decide (w.name.size ≤ 60))) c1
        by_cases c3 : d.wt[i].name.size ≤ 60
        · have c3' : ¬ ((d.wt[i].name.size : Nat) : Int) > 60 := by omega
          have c3'' : ¬ (60 < ((d.wt[i].name.size : Nat) : Int)) := by omega
          simp -dsimp [h1, h3, c1, c2, c2', c3', c3'', w2]
          refine ⟨21 - (i + 1), by omega, i + 1, by omega, rfl, ?_⟩
          rw [q, hall]
          simp -dsimp [h1, h3, c3]
        · have c3' : ((d.wt[i].name.size : Nat) : Int) > 60 := by omega
          have c3'' : 60 < ((d.wt[i].name.size : Nat) : Int) := by omega
          have z : fewD d = false := by
            have := all_false (f := (fun w => decide (w.name.size ≤ 60))) (n := 21) c1 c2 (by simp; omega)
            unfold fewD
            rw [this]; simp
          simp -dsimp [h1, h3, c1, c2, c2', c3', c3'', wFix_by, isInl, z]
      have hi' : i = 21 := by omega
      have c2' : ¬ (i : Int) < 21 := by omega
      have a1 : (d.wt.take 21).all (fun w => decide (w.name.size ≤ 60)) = true := by rw [← hi']; exact hall
      have f1 : ¬ (i < d.wt.length ∧ i < 21) := by omega
      by_cases d0 : ¬ d.mem.length ≤ 20
      · have d0' : ¬ (((d.mem.length : Nat) : Int) ≤ 20) := by omega
        simp -dsimp [h1, h3, wFix_by, isInl, c1, c2, c2', d0, d0', fewD]
      rw [Classical.not_not] at d0
      have d0' : (((d.mem.length : Nat) : Int) ≤ 20) := by omega
      by_cases d1 : ¬ d.dt.length ≤ 20
      · have d1' : ¬ (((d.dt.length : Nat) : Int) ≤ 20) := by omega
        simp -dsimp [h1, h3, wFix_by, isInl, c1, c2, c2', d0, d0', d1, d1', fewD]
      rw [Classical.not_not] at d1
      have d1' : (((d.dt.length : Nat) : Int) ≤ 20) := by omega
      by_cases d2 : ¬ d.rt.length ≤ 20
      · have d2' : ¬ (((d.rt.length : Nat) : Int) ≤ 20) := by omega
        simp -dsimp [h1, h3, wFix_by, isInl, c1, c2, c2', d0, d0', d1, d1', d2, d2', fewD]
      rw [Classical.not_not] at d2
      have d2' : (((d.rt.length : Nat) : Int) ≤ 20) := by omega
      by_cases d3 : ¬ d.ct.length ≤ 20
      · have d3' : ¬ (((d.ct.length : Nat) : Int) ≤ 20) := by omega
        simp -dsimp [h1, h3, wFix_by, isInl, c1, c2, c2', d0, d0', d1, d1', d2, d2', d3, d3', fewD]
      rw [Classical.not_not] at d3
      have d3' : (((d.ct.length : Nat) : Int) ≤ 20) := by omega
      by_cases d4 : ¬ d.wt.length ≤ 20
      · have d4' : ¬ (((d.wt.length : Nat) : Int) ≤ 20) := by omega
        simp -dsimp [h1, h3, wFix_by, isInl, c1, c2, c2', d0, d0', d1, d1', d2, d2', d3, d3', d4, d4', fewD]
      rw [Classical.not_not] at d4
      have d4' : (((d.wt.length : Nat) : Int) ≤ 20) := by omega
      by_cases d5 : ¬ d.st.length ≤ 20
      · have d5' : ¬ (((d.st.length : Nat) : Int) ≤ 20) := by omega
        simp -dsimp [h1, h3, wFix_by, isInl, c1, c2, c2', d0, d0', d1, d1', d2, d2', d3, d3', d4, d4', d5, d5', fewD]
      rw [Classical.not_not] at d5
      have d5' : (((d.st.length : Nat) : Int) ≤ 20) := by omega
      simp -dsimp [h1, h3, wFix_by, isInl, c1, c2, c2', d0, d0', d1, d1', d2, d2', d3, d3', d4, d4', d5, d5', a0, a1, fewD]
    have a1 : (d.wt.take 21).all (fun w => decide (w.name.size ≤ 60)) = true := by
      rw [List.take_of_length_le (by omega)]
      rw [List.take_of_length_le (by omega)] at hall
      exact hall
    by_cases d0 : ¬ d.mem.length ≤ 20
    · have d0' : ¬ (((d.mem.length : Nat) : Int) ≤ 20) := by omega
      simp -dsimp [h1, h3, wFix_by, isInl, c1, d0, d0', fewD]
    rw [Classical.not_not] at d0
    have d0' : (((d.mem.length : Nat) : Int) ≤ 20) := by omega
    by_cases d1 : ¬ d.dt.length ≤ 20
    · have d1' : ¬ (((d.dt.length : Nat) : Int) ≤ 20) := by omega
      simp -dsimp [h1, h3, wFix_by, isInl, c1, d0, d0', d1, d1', fewD]
    rw [Classical.not_not] at d1
    have d1' : (((d.dt.length : Nat) : Int) ≤ 20) := by omega
    by_cases d2 : ¬ d.rt.length ≤ 20
    · have d2' : ¬ (((d.rt.length : Nat) : Int) ≤ 20) := by omega
      simp -dsimp [h1, h3, wFix_by, isInl, c1, d0, d0', d1, d1', d2, d2', fewD]
    rw [Classical.not_not] at d2
    have d2' : (((d.rt.length : Nat) : Int) ≤ 20) := by omega
    by_cases d3 : ¬ d.ct.length ≤ 20
    · have d3' : ¬ (((d.ct.length : Nat) : Int) ≤ 20) := by omega
      simp -dsimp [h1, h3, wFix_by, isInl, c1, d0, d0', d1, d1', d2, d2', d3, d3', fewD]
    rw [Classical.not_not] at d3
    have d3' : (((d.ct.length : Nat) : Int) ≤ 20) := by omega
    by_cases d4 : ¬ d.wt.length ≤ 20
    · have d4' : ¬ (((d.wt.length : Nat) : Int) ≤ 20) := by omega
      simp -dsimp [h1, h3, wFix_by, isInl, c1, d0, d0', d1, d1', d2, d2', d3, d3', d4, d4', fewD]
    rw [Classical.not_not] at d4
    have d4' : (((d.wt.length : Nat) : Int) ≤ 20) := by omega
    by_cases d5 : ¬ d.st.length ≤ 20
    · have d5' : ¬ (((d.st.length : Nat) : Int) ≤ 20) := by omega
      simp -dsimp [h1, h3, wFix_by, isInl, c1, d0, d0', d1, d1', d2, d2', d3, d3', d4, d4', d5, d5', fewD]
    rw [Classical.not_not] at d5
    have d5' : (((d.st.length : Nat) : Int) ≤ 20) := by omega
    simp -dsimp [h1, h3, wFix_by, isInl, c1, d0, d0', d1, d1', d2, d2', d3, d3', d4, d4', d5, d5', a0, a1, fewD]
end Fz.D
set_option maxRecDepth 100000
namespace Fz.D
open Go
theorem by8_app {a b : List Int} (ha : by8 a) (hb : by8 b) : by8 (a ++ b) := fun x hx => by
  rcases List.mem_append.1 hx with h | h
  · exact ha x h
  · exact hb x h
theorem by8_nil : by8 [] := fun x hx => by cases hx
theorem by8_cat {ls : List (List Int)} (h : ∀ l ∈ ls, by8 l) : by8 (cat ls) := fun x hx => by
  obtain ⟨l, hl, hx⟩ := List.mem_flatten.1 hx
  exact h l hl x hx
theorem by8_numC : ∀ (k x : Nat), x < 2 ^ k → by8 (numC x)
  | 0, x, h => by
    have : x = 0 := by simpa using h
    subst this; rw [numC_zero]; exact by8_nil
  | k + 1, x, h => by
    by_cases h0 : x = 0
    · subst h0; rw [numC_zero]; exact by8_nil
    · rw [numC_pos h0]
      refine by8_app (by8_numC k (x / 128) (by rw [Nat.pow_succ] at h; omega)) fun y hy => ?_
      simp only [List.mem_cons, List.not_mem_nil, or_false] at hy
      omega
theorem by8_numB (x : Nat) : by8 (numB x) := by
  unfold numB
  refine by8_app (by8_numC (x / 128) (x / 128) Nat.lt_two_pow_self) fun y hy => ?_
  simp only [List.mem_cons, List.not_mem_nil, or_false] at hy
  omega
theorem by8_encN (n : Int) : by8 (encN n) := by8_numB _
theorem by8_encs (l : List Int) : by8 (encs l) := by8_cat fun x hx => by
  obtain ⟨n, _, rfl⟩ := List.mem_map.1 hx
  exact by8_encN n
theorem by8_encL {α : Type} {f : α → List Int} {l : List α} (h : ∀ a ∈ l, by8 (f a)) : by8 (encL f l) := by8_cat fun x hx => by
  obtain ⟨a, ha, rfl⟩ := List.mem_map.1 hx
  exact h a ha
theorem by8_nmB (s : ByteArray) : by8 (nmB s) := fun x hx => by
  obtain ⟨b, _, rfl⟩ := List.mem_map.1 hx
  have := b.toNat_lt
  omega
theorem by8_txt {b : List Int} (h : by8 b) : by8 (txt b) := by8_app (by8_encN _) h
theorem by8_encD {d : De} (h : ∀ r ∈ d.mem, by8 r.b) : by8 (encD d) := by
  unfold encD
  have h1 : by8 (encL encRun d.mem) := by8_encL fun r hr => by8_app (by8_encN _) (by8_txt (h r hr))
  have h2 : by8 (encL encSlo d.rt) := by8_encL fun r _ => by8_encs _
  have h3 : by8 (encL encWor d.wt) := by8_encL fun r _ => by8_app (by8_txt (by8_nmB _)) (by8_encs _)
  have h4 : by8 (encL encSpo d.st) := by8_encL fun r _ => by8_encs _
  exact by8_app (by8_app (by8_app (by8_app (by8_app (by8_app (by8_app (by8_app (by8_app (by8_encN _) h1) (by8_app (by8_app (by8_encN _) (by8_encN _)) (by8_encs _))) (by8_app (by8_app (by8_encN _) (by8_encN _)) h2)) (by8_app (by8_app (by8_encN _) (by8_encN _)) (by8_encs _)))
    (by8_app (by8_app (by8_encN _) (by8_encN _)) h3)) (by8_app (by8_app (by8_encN _) (by8_encN _)) h4)) (by8_encs _)) (by8_encs _)) (by8_encs _)
theorem bstr_fold (b : List Int) : bytesV (b.map (V.int .u8)) = bstr b := rfl
theorem tk_map {α β : Type} (f : α → β) (l : List α) (n : Nat) : List.take n (List.map f l) = (l.take n).map f := List.map_take.symm
def nearB (f t : St) : Bool := decide (f.mem.length = t.mem.length) && (decide (f.out.length ≤ t.out.length) && decide (bstr (t.out.take f.out.length) = bstr f.out))
theorem near_s {f t : St} (hf : by8 f.out) (ht : by8 t.out) : Comes p 10 [stV f, stV t] (.bool (nearB f t)) := by
  refine Comes_of w10 rfl rfl k10 ?_ ?_ ?_ ?_
  · simp
  · simp
  · simp
  · have c0 : decide ((f.mem.length : Int) = t.mem.length) = decide (f.mem.length = t.mem.length) := decide_eq_decide.2 Int.natCast_inj
    cases c1 : decide (f.mem.length = t.mem.length) with
    | false =>
      rw [c1] at c0
      simp -dsimp [w10, wFix_by, isInl, c0, c1, nearB]
    | true =>
      rw [c1] at c0
      by_cases c2 : f.out.length ≤ t.out.length
      · have c2' : (f.out.length : Int) ≤ t.out.length := by omega
        have a1 := all8 hf
        have a2 : allU8 ((t.out.take f.out.length).map (V.int .u8)) = true := all8 fun x hx => ht x (List.mem_of_mem_take hx)
        simp -dsimp [-List.map_take, tk_map, w10, wFix_by, isInl, c0, c1, c2, c2', nearB, byV, a1, a2, bstr_fold]
      · have c2' : ¬ (f.out.length : Int) ≤ t.out.length := by omega
        simp -dsimp [w10, wFix_by, isInl, c0, c1, c2, c2', nearB]
theorem ints_self {a : List Int} (ha : a.length ≤ 1000000) : Comes p 56 [inV a, inV a] (.bool true) := by
  refine Comes_of w56 rfl rfl k56 ?_ ?_ ?_ ?_
  · simp
  · simp
  · simp
  · simp -dsimp [w56, wFix_by, isInl]
    refine xL_by (by kernel_rfl) (fun k e H => ∃ i : Nat, i ≤ a.length ∧ k = a.length - i ∧ e 0 = inV a ∧ e 1 = inV a ∧ e 5 = .int .i64 i) a.length ?_ ?_
    · refine ⟨0, by omega, rfl, ?_⟩
      simp -dsimp
    · rintro k e H ⟨i, hi, hk, h0, h1, h5⟩
      by_cases c1 : i < a.length
      · have g1 : a[i]?.getD default = a[i] := by simp [c1]
        have w2 : IntKind.i64.wrap ((i : Int) + 1) = ((i + 1 : Nat) : Int) := by rw [Fz.w64 (by omega) (by omega)]; omega
        have z : inQ a[i] a[i] = true := by simp [inQ]
        simp -dsimp [h0, h1, h5, wFix_by, isInl, inV, c1, g1, wOpt, w2, z]
        refine ⟨a.length - (i + 1), by omega, i + 1, by omega, rfl, ?_⟩
        simp -dsimp [h0, h1, inV]
      · simp -dsimp [h0, h1, h5, wFix_by, isInl, c1]
theorem slots_self {a : List Slo} (ha : a.length ≤ 1000000) : Comes p 57 [slosV a, slosV a] (.bool true) := by
  refine Comes_of w57 rfl rfl k57 ?_ ?_ ?_ ?_
  · simp
  · simp
  · simp
  · simp -dsimp [w57, wFix_by, isInl]
    refine xL_by (by kernel_rfl) (fun k e H => ∃ i : Nat, i ≤ a.length ∧ k = a.length - i ∧ e 0 = slosV a ∧ e 1 = slosV a ∧ e 5 = .int .i64 i) a.length ?_ ?_
    · refine ⟨0, by omega, rfl, ?_⟩
      simp -dsimp
    · rintro k e H ⟨i, hi, hk, h0, h1, h5⟩
      by_cases c1 : i < a.length
      · have g1 : a[i]?.getD default = a[i] := by simp [c1]
        have w2 : IntKind.i64.wrap ((i : Int) + 1) = ((i + 1 : Nat) : Int) := by rw [Fz.w64 (by omega) (by omega)]; omega
        have z : sloQ a[i] a[i] = true := by simp [sloQ]
        simp -dsimp [h0, h1, h5, wFix_by, isInl, slosV, c1, g1, wOpt, w2, slo_leaves, z]
        refine ⟨a.length - (i + 1), by omega, i + 1, by omega, rfl, ?_⟩
        simp -dsimp [h0, h1, slosV]
      · simp -dsimp [h0, h1, h5, wFix_by, isInl, c1]
theorem words_self {a : List Wor} (ha : a.length ≤ 1000000) : Comes p 58 [worsV a, worsV a] (.bool true) := by
  refine Comes_of w58 rfl rfl k58 ?_ ?_ ?_ ?_
  · simp
  · simp
  · simp
  · simp -dsimp [w58, wFix_by, isInl]
    refine xL_by (by kernel_rfl) (fun k e H => ∃ i : Nat, i ≤ a.length ∧ k = a.length - i ∧ e 0 = worsV a ∧ e 1 = worsV a ∧ e 5 = .int .i64 i) a.length ?_ ?_
    · refine ⟨0, by omega, rfl, ?_⟩
      simp -dsimp
    · rintro k e H ⟨i, hi, hk, h0, h1, h5⟩
      by_cases c1 : i < a.length
      · have g1 : a[i]?.getD default = a[i] := by simp [c1]
        have w2 : IntKind.i64.wrap ((i : Int) + 1) = ((i + 1 : Nat) : Int) := by rw [Fz.w64 (by omega) (by omega)]; omega
        have z : worQ a[i] a[i] = true := by simp [worQ]
        simp -dsimp [h0, h1, h5, wFix_by, isInl, worsV, c1, g1, wOpt, w2, wor_leaves, z]
        refine ⟨a.length - (i + 1), by omega, i + 1, by omega, rfl, ?_⟩
        simp -dsimp [h0, h1, worsV]
      · simp -dsimp [h0, h1, h5, wFix_by, isInl, c1]
theorem spots_self {a : List Spo} (ha : a.length ≤ 1000000) : Comes p 59 [sposV a, sposV a] (.bool true) := by
  refine Comes_of w59 rfl rfl k59 ?_ ?_ ?_ ?_
  · simp
  · simp
  · simp
  · simp -dsimp [w59, wFix_by, isInl]
    refine xL_by (by kernel_rfl) (fun k e H => ∃ i : Nat, i ≤ a.length ∧ k = a.length - i ∧ e 0 = sposV a ∧ e 1 = sposV a ∧ e 5 = .int .i64 i) a.length ?_ ?_
    · refine ⟨0, by omega, rfl, ?_⟩
      simp -dsimp
    · rintro k e H ⟨i, hi, hk, h0, h1, h5⟩
      by_cases c1 : i < a.length
      · have g1 : a[i]?.getD default = a[i] := by simp [c1]
        have w2 : IntKind.i64.wrap ((i : Int) + 1) = ((i + 1 : Nat) : Int) := by rw [Fz.w64 (by omega) (by omega)]; omega
        have z : spoQ a[i] a[i] = true := by simp [spoQ]
        simp -dsimp [h0, h1, h5, wFix_by, isInl, sposV, c1, g1, wOpt, w2, spo_leaves, z]
        refine ⟨a.length - (i + 1), by omega, i + 1, by omega, rfl, ?_⟩
        simp -dsimp [h0, h1, sposV]
      · simp -dsimp [h0, h1, h5, wFix_by, isInl, c1]
theorem same_self {s : St} (hs : StLen s) (hm : by8 s.mem) (ho : by8 s.out) : Comes p 19 [stV s, stV s] (.bool true) := by
  have c1 := ints_self (a := s.data) (by have := hs.data; omega)
  have c2 := slots_self (a := s.ret) (by have := hs.ret; omega)
  have c3 := ints_self (a := s.ctl) (by have := hs.ctl; omega)
  have c4 := words_self (a := s.words) (by have := hs.words; omega)
  have c5 := spots_self (a := s.spots) (by have := hs.spots; omega)
  refine Comes_of w19 rfl rfl k19 ?_ ?_ ?_ ?_
  · simp
  · simp
  · simp
  · simp -dsimp [w19, wFix_by, isInl, call_by c1, call_by c2, call_by c3, call_by c4, call_by c5]
    simp -dsimp [byV, all8 hm, all8 ho]
theorem same18_self {d : De} (h : DeOk d) (h8 : ∀ r ∈ d.mem, by8 r.b) : Comes p 12 [deV d, deV d] (.bool true) := by
  have c1 := refPut_s h
  have e8 := all8 (by8_encD h8)
  refine Comes_of w12 rfl rfl k12 ?_ ?_ ?_ ?_
  · simp
  · simp
  · simp
  · rw [show deV d = .agg (cellsOf (deV d)) from rfl] at c1
    simp only [deV.cells] at c1
    simp -dsimp [w12, wFix_by, isInl, quiet_by c1]
    simp -dsimp [byV, e8]
end Fz.D
set_option maxRecDepth 100000
namespace Fz.D
open Go
structure StTy (s : St) : Prop where
  mem : by8 s.mem
  data : ∀ n ∈ s.data, i64 n
  ret : ∀ x ∈ s.ret, i64 x.v
  ctl : ∀ n ∈ s.ctl, i64 n
  words : ∀ x ∈ s.words, i64 x.code
  spots : ∀ x ∈ s.spots, i64 x.addr ∧ i64 x.at_
  out : by8 s.out
  regs : ∀ n ∈ [s.ip, s.here, s.at_, s.tok, s.in_, s.err], i64 n
structure DeTy (d : De) : Prop where
  mem : ∀ r ∈ d.mem, i64 r.at_ ∧ by8 r.b
  dk : i64 d.dk
  dt : ∀ n ∈ d.dt, i64 n
  rk : i64 d.rk
  rt : ∀ s ∈ d.rt, i64 s.v
  ck : i64 d.ck
  ct : ∀ n ∈ d.ct, i64 n
  wk : i64 d.wk
  wt : ∀ s ∈ d.wt, i64 s.code
  sk : i64 d.sk
  st : ∀ s ∈ d.st, i64 s.addr ∧ i64 s.at_
  out : i64 d.out
  regs : ∀ n ∈ [d.r0, d.r1, d.r2, d.r3, d.r4, d.r5], i64 n
def SloT : Ty := .agg [.int .i64, .bool]
def WorT : Ty := .agg [.str, .int .i64, .bool, .bool]
def SpoT : Ty := .agg [.int .i64, .int .i64]
def RnT : Ty := .agg [.int .i64, .sl (.int .u8)]
def StT : Ty := .agg [.sl (.int .u8), .sl (.int .i64), .sl SloT, .sl (.int .i64), .sl WorT, .sl SpoT, .sl (.int .u8), .int .i64, .int .i64, .int .i64, .int .i64, .int .i64, .int .i64, .bool, .bool]
def DeT : Ty := .agg [.sl RnT, .agg [.int .i64, .sl (.int .i64)], .agg [.int .i64, .sl SloT], .agg [.int .i64, .sl (.int .i64)], .agg [.int .i64, .sl WorT], .agg [.int .i64, .sl SpoT], .int .i64,
  .agg [.int .i64, .int .i64, .int .i64, .int .i64, .int .i64, .int .i64], .bool, .bool]
theorem list_of {α : Type} {T : Ty} {f : α → V} {P : α → Prop} (h : ∀ v, HasT T v → ∃ a, v = f a ∧ P a) {v : V} (hv : HasT (.sl T) v) : ∃ l : List α, v = .list (l.map f) false ∧ ∀ a ∈ l, P a := by
  obtain ⟨vs, rfl, hh⟩ := hv
  have : ∃ l : List α, vs = l.map f ∧ ∀ a ∈ l, P a := by
    induction vs with
    | nil => exact ⟨[], rfl, fun a h => by cases h⟩
    | cons v vs ih =>
      obtain ⟨l, rfl, hl⟩ := ih fun x hx => hh x (List.mem_cons_of_mem _ hx)
      obtain ⟨a, rfl, ha⟩ := h v (hh v (List.mem_cons_self ..))
      refine ⟨a :: l, rfl, fun x hx => ?_⟩
      rcases List.mem_cons.1 hx with rfl | hx
      · exact ha
      · exact hl x hx
  obtain ⟨l, rfl, hl⟩ := this
  exact ⟨l, rfl, hl⟩
theorem u8_of {v : V} (h : HasT (.int .u8) v) : ∃ n, v = V.int .u8 n ∧ (0 ≤ n ∧ n < 256) := by
  obtain ⟨n, rfl, h1, h2⟩ := h
  have h1 : 0 ≤ n := h1
  have h2 : n ≤ 255 := h2
  exact ⟨n, rfl, by omega⟩
theorem i64_of {v : V} (h : HasT (.int .i64) v) : ∃ n, v = V.int .i64 n ∧ i64 n := by
  obtain ⟨n, rfl, h1, h2⟩ := h
  exact ⟨n, rfl, h1, h2⟩
theorem slo_of {v : V} (h : HasT SloT v) : ∃ s, v = sloV s ∧ i64 s.v := by
  obtain ⟨l, rfl, v1, r1, rfl, h1, v2, r2, rfl, ⟨b, rfl⟩, rfl⟩ := h
  obtain ⟨n, rfl, h1'⟩ := i64_of h1
  exact ⟨⟨n, b⟩, rfl, h1'⟩
theorem wor_of {v : V} (h : HasT WorT v) : ∃ s, v = worV s ∧ i64 s.code := by
  obtain ⟨l, rfl, v0, r0, rfl, ⟨s, rfl⟩, v1, r1, rfl, h1, v2, r2, rfl, ⟨b, rfl⟩, v3, r3, rfl, ⟨c, rfl⟩, rfl⟩ := h
  obtain ⟨n, rfl, h1'⟩ := i64_of h1
  exact ⟨⟨s, n, b, c⟩, rfl, h1'⟩
theorem spo_of {v : V} (h : HasT SpoT v) : ∃ s, v = spoV s ∧ (i64 s.addr ∧ i64 s.at_) := by
  obtain ⟨l, rfl, v1, r1, rfl, h1, v2, r2, rfl, h2, rfl⟩ := h
  obtain ⟨n, rfl, h1'⟩ := i64_of h1
  obtain ⟨m, rfl, h2'⟩ := i64_of h2
  exact ⟨⟨n, m⟩, rfl, h1', h2'⟩
theorem by_of {v : V} (h : HasT (.sl (.int .u8)) v) : ∃ b, v = byV b ∧ by8 b := list_of (fun _ h => u8_of h) h
theorem in_of {v : V} (h : HasT (.sl (.int .i64)) v) : ∃ b, v = inV b ∧ ∀ n ∈ b, i64 n := list_of (fun _ h => i64_of h) h
theorem rn_of {v : V} (h : HasT RnT v) : ∃ s, v = runV s ∧ (i64 s.at_ ∧ by8 s.b) := by
  obtain ⟨l, rfl, v1, r1, rfl, h1, v2, r2, rfl, h2, rfl⟩ := h
  obtain ⟨n, rfl, h1'⟩ := i64_of h1
  obtain ⟨b, rfl, h2'⟩ := by_of h2
  exact ⟨⟨n, b⟩, rfl, h1', h2'⟩
theorem st_of {v : V} (h : HasT StT v) : ∃ s, v = stV s ∧ StTy s := by
  obtain ⟨l, rfl, v1, r1, rfl, h1, v2, r2, rfl, h2, v3, r3, rfl, h3, v4, r4, rfl, h4, v5, r5, rfl, h5, v6, r6, rfl, h6, v7, r7, rfl, h7, v8, r8, rfl, h8, v9, r9, rfl, h9, v10, r10, rfl, h10, v11, r11, rfl, h11, v12, r12, rfl, h12, v13, r13, rfl, h13, v14, r14, rfl, ⟨b1, rfl⟩, v15, r15, rfl, ⟨b2, rfl⟩, rfl⟩ := h
  obtain ⟨a1, rfl, h1'⟩ := by_of h1
  obtain ⟨a2, rfl, h2'⟩ := in_of h2
  obtain ⟨a3, rfl, h3'⟩ := list_of (fun _ h => slo_of h) h3
  obtain ⟨a4, rfl, h4'⟩ := in_of h4
  obtain ⟨a5, rfl, h5'⟩ := list_of (fun _ h => wor_of h) h5
  obtain ⟨a6, rfl, h6'⟩ := list_of (fun _ h => spo_of h) h6
  obtain ⟨a7, rfl, h7'⟩ := by_of h7
  obtain ⟨n8, rfl, h8'⟩ := i64_of h8
  obtain ⟨n9, rfl, h9'⟩ := i64_of h9
  obtain ⟨n10, rfl, h10'⟩ := i64_of h10
  obtain ⟨n11, rfl, h11'⟩ := i64_of h11
  obtain ⟨n12, rfl, h12'⟩ := i64_of h12
  obtain ⟨n13, rfl, h13'⟩ := i64_of h13
  refine ⟨⟨a1, a2, a3, a4, a5, a6, a7, n8, n9, n10, n11, n12, n13, b1, b2⟩, rfl, ⟨h1', h2', h3', h4', h5', h6', h7', ?_⟩⟩
  intro n hn
  simp only [List.mem_cons, List.not_mem_nil, or_false] at hn
  rcases hn with rfl | rfl | rfl | rfl | rfl | rfl <;> assumption
theorem de_of {v : V} (h : HasT DeT v) : ∃ d, v = deV d ∧ DeTy d := by
  obtain ⟨l, rfl, v1, r1, rfl, h1, v2, r2, rfl, ⟨l2, rfl, va, ra, rfl, ha, vb, rb, rfl, hb, rfl⟩, v3, r3, rfl, ⟨l3, rfl, vc, rc, rfl, hc, vd, rd, rfl, hd, rfl⟩, v4, r4, rfl, ⟨l4, rfl, ve, re, rfl, he, vf, rf, rfl, hf, rfl⟩,
    v5, r5, rfl, ⟨l5, rfl, vg, rg, rfl, hg, vh, rh, rfl, hh, rfl⟩, v6, r6, rfl, ⟨l6, rfl, vi, ri, rfl, hi, vj, rj, rfl, hj, rfl⟩, v7, r7, rfl, h7, v8, r8, rfl, ⟨l8, rfl, w0, q0, rfl, g0, w1, q1, rfl, g1, w2, q2, rfl, g2, w3, q3, rfl, g3, w4, q4, rfl, g4, w5, q5, rfl, g5, rfl⟩,
    v9, r9, rfl, ⟨b1, rfl⟩, v10, r10, rfl, ⟨b2, rfl⟩, rfl⟩ := h
  obtain ⟨a1, rfl, h1'⟩ := list_of (fun _ h => rn_of h) h1
  obtain ⟨n2, rfl, ha'⟩ := i64_of ha
  obtain ⟨a2, rfl, hb'⟩ := in_of hb
  obtain ⟨n3, rfl, hc'⟩ := i64_of hc
  obtain ⟨a3, rfl, hd'⟩ := list_of (fun _ h => slo_of h) hd
  obtain ⟨n4, rfl, he'⟩ := i64_of he
  obtain ⟨a4, rfl, hf'⟩ := in_of hf
  obtain ⟨n5, rfl, hg'⟩ := i64_of hg
  obtain ⟨a5, rfl, hh'⟩ := list_of (fun _ h => wor_of h) hh
  obtain ⟨n6, rfl, hi'⟩ := i64_of hi
  obtain ⟨a6, rfl, hj'⟩ := list_of (fun _ h => spo_of h) hj
  obtain ⟨n7, rfl, h7'⟩ := i64_of h7
  obtain ⟨m0, rfl, g0'⟩ := i64_of g0
  obtain ⟨m1, rfl, g1'⟩ := i64_of g1
  obtain ⟨m2, rfl, g2'⟩ := i64_of g2
  obtain ⟨m3, rfl, g3'⟩ := i64_of g3
  obtain ⟨m4, rfl, g4'⟩ := i64_of g4
  obtain ⟨m5, rfl, g5'⟩ := i64_of g5
  refine ⟨⟨a1, n2, a2, n3, a3, n4, a4, n5, a5, n6, a6, n7, m0, m1, m2, m3, m4, m5, b1, b2⟩, rfl, ⟨h1', ha', hb', hc', hd', he', hf', hg', hh', hi', hj', h7', ?_⟩⟩
  intro n hn
  simp only [List.mem_cons, List.not_mem_nil, or_false] at hn
  rcases hn with rfl | rfl | rfl | rfl | rfl | rfl <;> assumption
end Fz.D
set_option maxRecDepth 100000
namespace Fz.D
open Go
theorem awake_s : Comes p 8 [] (.bool true) := by
  obtain ⟨H, h⟩ := isTrue_ok awake_run
  exact ⟨rfl, rfl, rfl, 400, .bool true, H, h, .inr ⟨rfl, .bool true, H, rfl, rfl⟩⟩
theorem few_len {s : St} (h : fewB s = true) : s.mem.length ≤ 600 ∧ s.data.length ≤ 40 ∧ s.ret.length ≤ 40 ∧ s.ctl.length ≤ 200 ∧ s.words.length ≤ 40 ∧ s.spots.length ≤ 100 ∧ s.out.length ≤ 200 ∧ ∀ w ∈ s.words, w.name.size ≤ 60 := by
  unfold fewB at h
  simp only [Bool.and_eq_true, decide_eq_true_eq, List.all_eq_true] at h
  obtain ⟨h0, h1, h2, h3, h4, h5, h6, h7⟩ := h
  exact ⟨h1, h2, h3, h4, h5, h6, h7, fun w hw => h0 w (by rw [List.take_of_length_le (by omega)]; exact hw)⟩
theorem few_st {s : St} (h : fewB s = true) : StLen s := by
  obtain ⟨h1, h2, h3, h4, h5, h6, h7, _⟩ := few_len h
  constructor <;> omega
theorem rn_ok {a : List Int} (ha : by8 a) {s i : Nat} (hs : s ≤ a.length) : (0 ≤ (rn a s i).at_ ∧ (rn a s i).at_ ≤ a.length) ∧ (rn a s i).b.length ≤ a.length ∧ by8 (rn a s i).b := by
  refine ⟨⟨by simp [rn], by simp [rn]; omega⟩, ?_, fun x hx => ha x (List.mem_of_mem_drop (List.mem_of_mem_take hx))⟩
  simp [rn]; omega
theorem fin_ok {a b : List Int} (ha : by8 a) : ∀ i, i ≤ a.length → ∀ r ∈ fin a (G a b i) i, (0 ≤ r.at_ ∧ r.at_ ≤ a.length) ∧ r.b.length ≤ a.length ∧ by8 r.b
  | 0, _, r, hr => by simp [fin, G] at hr
  | i + 1, hi, r, hr => by
    have ih := fin_ok ha (b := b) i (by omega)
    have hle := G_le a b i
    by_cases h : gt a i = gt b i
    · rw [fin_same h] at hr; exact ih r hr
    · rw [fin_more h] at hr
      rcases List.mem_append.1 hr with hr | hr
      · exact ih r (by unfold fin; split <;> simp [hr])
      · rw [List.mem_singleton.1 hr]; exact rn_ok ha (by omega)
theorem runs_ok {a b : List Int} (ha : by8 a) : ∀ r ∈ runsF a b, (0 ≤ r.at_ ∧ r.at_ ≤ a.length) ∧ r.b.length ≤ a.length ∧ by8 r.b := fin_ok ha a.length (Nat.le_refl _)
theorem diff_ok {f t : St} (tf : StTy f) (hf : fewB f = true) (ht : fewB t = true) : DeOk (diffD f t) := by
  obtain ⟨f1, f2, f3, f4, f5, f6, f7, f8⟩ := few_len hf
  obtain ⟨t1, t2, t3, t4, t5, t6, t7, _⟩ := few_len ht
  have l1 := (shr_le (q := inQ) f.data t.data).1
  have l2 := (shr_le (q := sloQ) f.ret t.ret).1
  have l3 := (shr_le (q := inQ) f.ctl t.ctl).1
  have l4 := (shr_le (q := worQ) f.words t.words).1
  have l5 := (shr_le (q := spoQ) f.spots t.spots).1
  have ll : (runsF f.mem t.mem).length ≤ f.mem.length := fin_len _ _ _
  constructor
  · intro r hr
    have := runs_ok tf.mem r hr
    unfold i64
    omega
  · exact Nat.le_trans ll (by omega)
  · show i64 (shr inQ f.data t.data : Nat); unfold i64; omega
  · exact fun n hn => tf.data n (List.mem_of_mem_drop hn)
  · show (f.data.drop _).length ≤ _; simp; omega
  · show i64 (shr sloQ f.ret t.ret : Nat); unfold i64; omega
  · exact fun n hn => tf.ret n (List.mem_of_mem_drop hn)
  · show (f.ret.drop _).length ≤ _; simp; omega
  · show i64 (shr inQ f.ctl t.ctl : Nat); unfold i64; omega
  · exact fun n hn => tf.ctl n (List.mem_of_mem_drop hn)
  · show (f.ctl.drop _).length ≤ _; simp; omega
  · show i64 (shr worQ f.words t.words : Nat); unfold i64; omega
  · exact fun n hn => ⟨tf.words n (List.mem_of_mem_drop hn), by rw [nmB_len]; have := f8 n (List.mem_of_mem_drop hn); omega⟩
  · show (f.words.drop _).length ≤ _; simp; omega
  · show i64 (shr spoQ f.spots t.spots : Nat); unfold i64; omega
  · exact fun n hn => tf.spots n (List.mem_of_mem_drop hn)
  · show (f.spots.drop _).length ≤ _; simp; omega
  · show i64 ((t.out.length : Int) - f.out.length); unfold i64; omega
  · exact tf.regs
theorem diff_by {f t : St} (tf : StTy f) : ∀ r ∈ (diffD f t).mem, by8 r.b := fun r hr => (runs_ok tf.mem r hr).2.2
theorem stF (s : St) : V.agg (cellsOf (stV s)) = stV s := rfl
theorem deF (d : De) : V.agg (cellsOf (deV d)) = deV d := rfl
theorem law3 {f t : St} (tf : StTy f) (tt : StTy t) : Comes p 3 [stV f, stV t] (.bool true) := by
  have a := awake_s
  have c1 := few_s f
  have c2 := few_s t
  have c3 := near_s (f := f) (t := t) tf.out tt.out
  rw [← stF f] at c1
  rw [← stF t] at c2
  rw [← stF f, ← stF t] at c3
  simp only [stV.cells] at c1 c2 c3
  refine Comes_of w3 rfl rfl k3 ?_ ?_ ?_ ?_
  · simp
  · simp
  · simp
  · cases h1 : fewB f with
    | false => rw [h1] at c1; simp -dsimp [w3, wFix_by, isInl, call_by a, call_by c1]
    | true =>
      rw [h1] at c1
      cases h2 : fewB t with
      | false => rw [h2] at c2; simp -dsimp [w3, wFix_by, isInl, call_by a, call_by c1, call_by c2]
      | true =>
        rw [h2] at c2
        cases h3 : nearB f t with
        | false => rw [h3] at c3; simp -dsimp [w3, wFix_by, isInl, call_by a, call_by c1, call_by c2, call_by c3]
        | true =>
          rw [h3] at c3
          have hm : f.mem.length = t.mem.length := by
            unfold nearB at h3
            simp only [Bool.and_eq_true, decide_eq_true_eq] at h3
            exact h3.1
          have ok := diff_ok tf h1 h2
          have o8 := diff_by (t := t) tf
          have d1 := diff_s (few_st h1) (few_st h2) hm
          have d2 := refDiff_s (few_st h1) (few_st h2) hm
          have s1 := same18_self ok o8
          have p1 := put_s ok
          have p2 := refPut_s ok
          have e8 := all8 (by8_encD o8)
          rw [← stF f, ← stF t] at d1 d2
          simp only [stV.cells] at d1 d2
          generalize diffD f t = d at *
          rw [← deF d] at d1 d2 s1 p1 p2
          simp only [deV.cells] at d1 d2 s1 p1 p2
          simp -dsimp [w3, wFix_by, isInl, call_by a, call_by c1, call_by c2, call_by c3, call_by d1, quiet_by d2, quiet_by s1, quiet_by p1, quiet_by p2]
          simp -dsimp [byV, e8]
end Fz.D
set_option maxRecDepth 100000
namespace Fz.D
open Go
theorem zeros_gd {z : List V} (h : groundL z = true) : ∀ k, groundL (zeros z k) = true
  | 0 => rfl
  | k + 1 => by
    rw [zeros, groundL_eq, List.all_append, ← groundL_eq, ← groundL_eq, h, zeros_gd h k]; rfl
theorem zeros_len {z : List V} : ∀ k, (zeros z k).length = k * z.length
  | 0 => by simp [zeros]
  | k + 1 => by rw [zeros, List.length_append, zeros_len k, Nat.succ_mul]; omega
def totA {α : Type} (ls : List (List α)) : Nat := (ls.map List.length).sum
theorem totA_take {α : Type} (ls : List (List α)) (i : Nat) : totA (ls.take i) ≤ totA ls := by
  unfold totA
  conv => rhs; rw [← List.take_append_drop i ls]
  rw [List.map_append, List.sum_append]; omega
theorem totA_succ {α : Type} (ls : List (List α)) (i : Nat) (h : i < ls.length) : totA (ls.take (i + 1)) = totA (ls.take i) + ls[i].length := by
  unfold totA
  rw [List.take_succ_eq_append_getElem h, List.map_append, List.sum_append]; simp
def catA {α : Type} (ls : List (List α)) : List α := ls.flatten
@[simp] theorem catA_nil {α : Type} : catA ([] : List (List α)) = [] := rfl
theorem catA_len {α : Type} (ls : List (List α)) : (catA ls).length = totA ls := by
  unfold totA catA; rw [List.length_flatten]
theorem catA_succ {α : Type} (ls : List (List α)) (i : Nat) (h : i < ls.length) : catA (ls.take (i + 1)) = catA (ls.take i) ++ ls[i] := by
  unfold catA
  rw [List.take_succ_eq_append_getElem h, List.flatten_append]; simp
/-- Made to stay. -/
theorem frz_acg (b : Nat) {H : List Ob} {n k : Nat} {v : V} {l : List V} {K : V → List Ob → Prop} (ha : Ac n b (H.drop b) v l) (hg : (flat l).all (gk k) = true)
    (hl : (n = 1 ∧ l.all leafy = true) ∨ (n ≠ 1 ∧ ∀ v ∈ l, ∃ c, v = .agg c)) (hK : ∀ H', H'.take b = H.take b → H'.length = H.length → K (.list (l.map nrm) false) H') : xFrz (k + 1) v H K := by
  obtain ⟨h1, h2, h3⟩ := ha
  rcases h3 with ⟨rfl, rfl⟩ | ⟨j, cells, rfl, h4, h5, h6⟩
  · rw [frz_gk (by rw [gk_list]; rfl)]
    exact hK H rfl rfl
  · rw [List.getElem?_drop] at h4
    rw [frz_own, wOb_at h4]
    refine ⟨⟨by omega, h2⟩, ?_⟩
    rw [wVal_eq, wSetOb_eq]
    have e1 : (cells.drop 0).take (l.length * n) = flat l := by rw [List.drop_zero, h6]
    rw [e1, frzL_gk hg, wVal_eq]
    have e3 : ∀ H', (H.set (b + j) (.fixed cells)) = H' → H'.take b = H.take b ∧ H'.length = H.length := by
      rintro H' rfl
      refine ⟨?_, by simp⟩
      rw [List.take_set_of_le (by omega)]
    obtain ⟨q1, q2⟩ := e3 _ rfl
    generalize H.set (b + j) (.fixed cells) = H' at q1 q2 ⊢
    rcases hl with ⟨rfl, hl⟩ | ⟨hn, hl⟩
    · rw [wChunk_one]
      obtain ⟨f1, _⟩ := flat_leafy hl
      rw [f1]
      refine ⟨by rw [leafy_nrm]; exact hl, ?_⟩
      show K _ _
      rw [List.take_of_length_le (by simp)]
      exact hK _ q1 q2
    · refine ⟨.inl hn, ?_⟩
      have : chunk n l.length ((flat l).map nrm) = l.map nrm := by
        rw [← chunk_nrm]
        unfold chunk
        rw [if_neg hn, chunk_of h1 hn hl]
      rw [this]
      exact hK _ q1 q2
/-- What grew in a call, in the caller's heap. -/
theorem acg_back {b m n : Nat} {g : Nat → Nat} {J : List Ob} {id len : Nat} {l : List V} (hg : ∀ j, g (b + j) = m + j) (hl : groundL (flat l) = true) (h : Ac n b J (.own id 0 len n) l) : Ac n m (J.map (renOb g)) (.own (g id) 0 len n) l := by
  obtain ⟨h1, h2, h3⟩ := h
  refine ⟨h1, h2, ?_⟩
  rcases h3 with ⟨_, h3⟩ | ⟨j, cells, h3, h4, h5, h6⟩
  · cases h3
  · cases h3
    refine .inr ⟨j, renL g cells, by rw [hg], by rw [List.getElem?_map, h4]; rfl, by rw [renL_eq, List.length_map (f := ren g)]; exact h5, ?_⟩
    rw [renL_eq, ← List.map_take, h6, ← renL_eq, groundL_ren g _ hl]

theorem grow_int {n : Int} {H : List Ob} {Q : CR → List Ob → Prop} (h0 : 0 ≤ n) (h1 : n ≤ 10000000) (hq : ∀ v J, Ac 1 H.length J v [] → Q (.ret v) (H ++ J)) : WCall p 97 [.list [] true, .int .i64 n] H Q := by
  have hr : reach H 1000 (refsL [.list [] true, .int .i64 n]) [] = some [] := rfl
  refine WCall_inl (by kernel_rfl) hr ?_
  refine WFun_of w97 rfl rfl k97 ?_
  have e0 : IntKind.i64.wrap n = n := Fz.w64 (by omega) (by omega)
  have z0 : IntKind.i64.wrap 0 = 0 := Fz.w64 (by omega) (by omega)
  have none : Q (renR (backK [] H.length) (CR.ret (V.list [] true))) (backH [] (CR.ret (V.list [] true)) [] H) := by
    have := hq (.list [] true) [] (ac_nil (by decide))
    simpa [renR, ren, renL, backH, crV, refs, refsL, setAll] using this
  by_cases hn : n = 0
  · subst hn
    simp -dsimp [w97, renL, ren]
    have e1 : IntKind.i64.wrap (-IntKind.i64.wrap 0) = 0 := by rw [z0]; exact z0
    rw [e1, if_neg (by omega)]
    exact none
  · have hp : 0 < n := by omega
    have hz : ¬ n < 0 := by omega
    simp -dsimp [w97, renL, ren, e0, hp, hz]
    have e1 : IntKind.i64.wrap (n - IntKind.i64.wrap 0) = n := by rw [z0, Int.sub_zero]; exact e0
    rw [e1, if_pos hp]
    have hl : (zeros [V.int .i64 0] n.toNat).length = n.toNat * 1 := zeros_len _
    first
    | (refine ⟨⟨h0, by omega, by omega⟩, ?_⟩
       rw [if_neg (by omega)]
       refine ⟨⟨hl, by simp [capOk]; omega⟩, ?_⟩)
    | (rw [if_neg (by omega)]
       refine ⟨⟨h0, by omega, by omega⟩, by simp [capOk]; omega, ?_⟩)
    | (refine ⟨⟨h0, by omega, by omega⟩, ?_⟩
       rw [if_neg (by omega)]
       refine ⟨by simp [capOk]; omega, ?_⟩)
    have := hq (.own H.length 0 0 1) [.live (zeros [V.int .i64 0] n.toNat)] ⟨rfl, by decide, .inr ⟨0, _, rfl, rfl, by simp, by simp [flat]⟩⟩
    have e2 : renOb (backK [] H.length) (.live (zeros [V.int .i64 0] n.toNat)) = .live (zeros [V.int .i64 0] n.toNat) := by
      rw [renOb, groundL_ren _ _ (zeros_gd (by simp) _)]
    try rw [show List.replicate n.toNat (V.int .i64 0) = zeros [V.int .i64 0] n.toNat from by simp]
    simp only [renR, ren, renL, backH, crV, refs, refsL, setAll, List.take_zero, List.flatMap_nil, List.append_nil, List.length_nil, List.any_cons, List.map_nil, List.drop_zero, List.map_cons, e2, List.any_nil]
    simpa [backK] using this
theorem concat_own_int {ls : List (List Int)} (ht : totA ls ≤ 10000000) (hl : ls.length ≤ 1000000) {Q : CR → List Ob → Prop} (hq : ∀ v J, Ac 1 1 J v ((catA ls).map (V.int .i64)) → Q (.ret v) (.live (ls.map inV) :: J)) :
    WFun p 85 [.own 0 0 ls.length 1] [.live (ls.map inV)] Q := by
  refine WFun_of w85 rfl rfl k85 ?_
  simp -dsimp [w85]
  refine xL_by (by kernel_rfl) (fun k e H => ∃ i : Nat, i ≤ ls.length ∧ k = ls.length - i ∧ e 0 = .own 0 0 ls.length 1 ∧ e 9 = .own 0 0 ls.length 1 ∧ e 10 = .int .i64 ls.length ∧ e 11 = .int .i64 i ∧ e 3 = .int .i64 (totA (ls.take i)) ∧ H = [.live (ls.map inV)]) ls.length ?_ ?_
  · exact ⟨0, by simp [totA]⟩
  · rintro k e H ⟨i, hi, hk, h0, h9, h10, h11, h3, rfl⟩
    have t1 := totA_take ls i
    simp -dsimp [h0, h9, h10, h11, h3]
    split
    · rename_i hlt
      have t2 := totA_succ ls i hlt
      have t3 := totA_take ls (i + 1)
      have d1 : List.take 1 (List.drop i (ls.map inV)) = [inV ls[i]] := by
        rw [List.drop_eq_getElem_cons (by simpa using hlt)]; simp
      have w1 : IntKind.i64.wrap (((totA (ls.take i) : Nat) : Int) + ((ls[i].length : Nat) : Int)) = ((totA (ls.take (i + 1)) : Nat) : Int) := by rw [Fz.w64 (by omega) (by omega)]; omega
      have w2 : IntKind.i64.wrap ((i : Int) + 1) = ((i + 1 : Nat) : Int) := by rw [Fz.w64 (by omega) (by omega)]; omega
      refine ⟨hlt, by omega, ?_⟩
      rw [d1]
      simp -dsimp [h0, h9, h10, h11, h3, w1, w2]
      refine ⟨ls.length - (i + 1), by omega, i + 1, by omega, rfl, ?_⟩
      simp -dsimp [h0, h9, h10]
    · rename_i hge
      have hii : i = ls.length := by omega
      subst hii
      rw [List.take_length] at h3 ⊢
      refine grow_int (by omega) (by omega) fun v J hac => ?_
      simp -dsimp [h0, h9, h10, h11, h3]
      refine xL_by (by kernel_rfl) (fun k e H => ∃ (i : Nat) (v : V) (J : List Ob), i ≤ ls.length ∧ k = ls.length - i ∧ e 25 = .own 0 0 ls.length 1 ∧ e 26 = .int .i64 ls.length ∧ e 27 = .int .i64 i ∧ e 6 = v ∧ Ac 1 1 J v ((catA (ls.take i)).map (V.int .i64)) ∧ H = .live (ls.map inV) :: J) ls.length ?_ ?_
      · exact ⟨0, v, J, by simp [h0]; exact hac⟩
      · rintro k e H ⟨i, v, J, hi, hk, h25, h26, h27, h6, hac, rfl⟩
        simp -dsimp [h25, h26, h27, h6]
        split
        · rename_i hlt
          have d1 : List.take 1 (List.drop i (ls.map inV)) = [inV ls[i]] := by
            rw [List.drop_eq_getElem_cons (by simpa using hlt)]; simp
          refine ⟨hlt, by omega, ?_⟩
          rw [d1]
          simp -dsimp [h25, h26, h27, h6]
          have t2 := totA_succ ls i hlt
          have t3 := totA_take ls (i + 1)
          have t4 : (catA (ls.take i)).length = totA (ls.take i) := catA_len _
          have e1 := catA_succ ls i hlt
          refine app_ac 1 (m := ls[i].map (V.int .i64)) (l := (catA (ls.take i)).map (V.int .i64)) (by simpa using hac) (by simp) (by simp) (by simp) (by simp) (by simp) (by rw [List.length_map, List.length_map, t4]; simp [capOk]; omega) fun v' J' hac' => ?_
          have w2 : IntKind.i64.wrap ((i : Int) + 1) = ((i + 1 : Nat) : Int) := by rw [Fz.w64 (by omega) (by omega)]; omega
          simp -dsimp [h25, h26, h27, w2]
          refine ⟨ls.length - (i + 1), by omega, i + 1, v', J', by omega, rfl, ?_⟩
          simp -dsimp [h25, h26]
          rw [e1, List.map_append]
          exact hac'
        · rename_i hge
          have hii : i = ls.length := by omega
          subst hii
          rw [List.take_length] at hac
          exact hq _ _ hac
theorem concat_call_int {H : List Ob} {id : Nat} {ls : List (List Int)} (hid : H[id]? = some (.live (ls.map inV))) (ht : totA ls ≤ 10000000) (hl : ls.length ≤ 1000000) {Q : CR → List Ob → Prop}
    (hq : ∀ v J, Ac 1 H.length J v ((catA ls).map (V.int .i64)) → Q (.ret v) (H ++ J)) : WCall p 85 [.own id 0 ls.length 1] H Q := by
  have hgl : groundL (ls.map inV) = true := by simp
  have hr : reach H 1000 (refsL [.own id 0 ls.length 1]) [] = some [id] := reach_one hid (groundL_refs _ hgl)
  refine WCall_inl (by kernel_rfl) hr ?_
  have e1 : renL (fun i => ([id] : List Nat).idxOf i) [.own id 0 ls.length 1] = [.own 0 0 ls.length 1] := by simp [renL, ren]
  have e2 : (([id] : List Nat).map fun i => renOb (fun i => ([id] : List Nat).idxOf i) (H[i]?.getD .dead)) = [.live (ls.map inV)] := by
    simp only [List.map_cons, List.map_nil, hid, Option.getD_some, renOb, groundL_ren _ _ hgl]
  rw [e1, e2]
  refine concat_own_int ht hl fun v J hac => ⟨by simp, ?_⟩
  have e3 : (refsOb (.live (ls.map inV))) = [] := groundL_refs _ hgl
  rcases ac_cases hac with ⟨rfl, h0⟩ | ⟨j, len, rfl, _⟩
  · have e4 : backH [id] (.ret (.list [] true)) (.live (ls.map inV) :: J) H = H := by
      unfold backH
      rw [if_neg (by simp [crV, refs, refsL, e3])]
      simp [setAll, renOb, groundL_ren _ _ hgl, set_same hid]
    rw [e4]
    have := hq (.list [] true) [] ⟨by rw [h0]; rfl, by decide, .inl ⟨h0, rfl⟩⟩
    simpa [renR, ren, renL] using this
  · have hg : ∀ j, backK [id] H.length (1 + j) = H.length + j := fun j => by rw [Nat.add_comm]; exact back_s
    have e4 : backH [id] (.ret (.own (1 + j) 0 len 1)) (.live (ls.map inV) :: J) H = H ++ J.map (renOb (backK [id] H.length)) := by
      unfold backH
      rw [if_pos (by simp [crV, refs])]
      simp [setAll, renOb, groundL_ren _ _ hgl, set_same hid]
    rw [e4]
    have := hq _ _ (acg_back hg (by simp) hac)
    simpa [renR, ren] using this
theorem joined_int {l tail : List Int} {keep : Int} (hl : l.length ≤ 1000000) (ht : tail.length ≤ 1000000) : Comes p 50 [inV l, .int .i64 keep, inV tail]
    (if 0 ≤ keep ∧ keep ≤ l.length then .tuple [inV (l.take keep.toNat ++ tail), .bool true] else .tuple [inV [], .bool false]) := by
  refine Comes_of w50 rfl rfl k50 ?_ ?_ ?_ ?_
  · simp
  · simp
  · split <;> simp
  · by_cases c1 : keep < 0
    · have c3 : ¬ (0 ≤ keep ∧ keep ≤ l.length) := by omega
      simp -dsimp [w50, wFix_by, isInl, c1, c3]
      try simp [inV]
    · by_cases c2 : keep ≤ l.length
      · have c3 : 0 ≤ keep ∧ keep ≤ l.length := by omega
        have c4 : ¬ (l.length : Int) < keep := by omega
        simp -dsimp [-List.map_take, tk_map, w50, wFix_by, isInl, c1, c3, c4]
        try refine ⟨by omega, ?_⟩
        refine concat_call_int (ls := [l.take keep.toNat, tail]) rfl (by simp [totA]; omega) (by simp) fun v J hac => ?_
        have hac : Ac 1 1 J v ((l.take keep.toNat ++ tail).map (V.int .i64)) := by
          have e : catA [l.take keep.toNat, tail] = l.take keep.toNat ++ tail := by simp [catA]
          rw [e] at hac; exact hac
        generalize l.take keep.toNat ++ tail = m at hac ⊢
        simp -dsimp [wFix_by, isInl]
        refine frz_acg 1 (k := 10) hac (by simp) (.inl ⟨rfl, by simp⟩) fun H' _ _ => ?_
        simp -dsimp [inV]
      · have c3 : ¬ (0 ≤ keep ∧ keep ≤ l.length) := by omega
        have c4 : (l.length : Int) < keep := by omega
        simp -dsimp [w50, wFix_by, isInl, c1, c3, c4]
        try simp [inV]

theorem grow_slo {n : Int} {H : List Ob} {Q : CR → List Ob → Prop} (h0 : 0 ≤ n) (h1 : n ≤ 10000000) (hq : ∀ v J, Ac 2 H.length J v [] → Q (.ret v) (H ++ J)) : WCall p 98 [.list [] true, .int .i64 n] H Q := by
  have hr : reach H 1000 (refsL [.list [] true, .int .i64 n]) [] = some [] := rfl
  refine WCall_inl (by kernel_rfl) hr ?_
  refine WFun_of w98 rfl rfl k98 ?_
  have e0 : IntKind.i64.wrap n = n := Fz.w64 (by omega) (by omega)
  have z0 : IntKind.i64.wrap 0 = 0 := Fz.w64 (by omega) (by omega)
  have none : Q (renR (backK [] H.length) (CR.ret (V.list [] true))) (backH [] (CR.ret (V.list [] true)) [] H) := by
    have := hq (.list [] true) [] (ac_nil (by decide))
    simpa [renR, ren, renL, backH, crV, refs, refsL, setAll] using this
  by_cases hn : n = 0
  · subst hn
    simp -dsimp [w98, renL, ren]
    have e1 : IntKind.i64.wrap (-IntKind.i64.wrap 0) = 0 := by rw [z0]; exact z0
    rw [e1, if_neg (by omega)]
    exact none
  · have hp : 0 < n := by omega
    have hz : ¬ n < 0 := by omega
    simp -dsimp [w98, renL, ren, e0, hp, hz]
    have e1 : IntKind.i64.wrap (n - IntKind.i64.wrap 0) = n := by rw [z0, Int.sub_zero]; exact e0
    rw [e1, if_pos hp]
    have hl : (zeros [V.int .i64 0, V.bool false] n.toNat).length = n.toNat * 2 := zeros_len _
    first
    | (refine ⟨⟨h0, by omega, by omega⟩, ?_⟩
       rw [if_neg (by omega)]
       refine ⟨⟨hl, by simp [capOk]; omega⟩, ?_⟩)
    | (rw [if_neg (by omega)]
       refine ⟨⟨h0, by omega, by omega⟩, by simp [capOk]; omega, ?_⟩)
    | (refine ⟨⟨h0, by omega, by omega⟩, ?_⟩
       rw [if_neg (by omega)]
       refine ⟨by simp [capOk]; omega, ?_⟩)
    have := hq (.own H.length 0 0 2) [.live (zeros [V.int .i64 0, V.bool false] n.toNat)] ⟨rfl, by decide, .inr ⟨0, _, rfl, rfl, by simp, by simp [flat]⟩⟩
    have e2 : renOb (backK [] H.length) (.live (zeros [V.int .i64 0, V.bool false] n.toNat)) = .live (zeros [V.int .i64 0, V.bool false] n.toNat) := by
      rw [renOb, groundL_ren _ _ (zeros_gd (by simp) _)]
    try rw [show List.replicate n.toNat (V.int .i64 0) = zeros [V.int .i64 0, V.bool false] n.toNat from by simp]
    simp only [renR, ren, renL, backH, crV, refs, refsL, setAll, List.take_zero, List.flatMap_nil, List.append_nil, List.length_nil, List.any_cons, List.map_nil, List.drop_zero, List.map_cons, e2, List.any_nil]
    simpa [backK] using this
theorem concat_own_slo {ls : List (List Slo)} (ht : totA ls ≤ 10000000) (hl : ls.length ≤ 1000000) {Q : CR → List Ob → Prop} (hq : ∀ v J, Ac 2 1 J v ((catA ls).map sloV) → Q (.ret v) (.live (ls.map slosV) :: J)) :
    WFun p 86 [.own 0 0 ls.length 1] [.live (ls.map slosV)] Q := by
  refine WFun_of w86 rfl rfl k86 ?_
  simp -dsimp [w86]
  refine xL_by (by kernel_rfl) (fun k e H => ∃ i : Nat, i ≤ ls.length ∧ k = ls.length - i ∧ e 0 = .own 0 0 ls.length 1 ∧ e 9 = .own 0 0 ls.length 1 ∧ e 10 = .int .i64 ls.length ∧ e 11 = .int .i64 i ∧ e 3 = .int .i64 (totA (ls.take i)) ∧ H = [.live (ls.map slosV)]) ls.length ?_ ?_
  · exact ⟨0, by simp [totA]⟩
  · rintro k e H ⟨i, hi, hk, h0, h9, h10, h11, h3, rfl⟩
    have t1 := totA_take ls i
    simp -dsimp [h0, h9, h10, h11, h3]
    split
    · rename_i hlt
      have t2 := totA_succ ls i hlt
      have t3 := totA_take ls (i + 1)
      have d1 : List.take 1 (List.drop i (ls.map slosV)) = [slosV ls[i]] := by
        rw [List.drop_eq_getElem_cons (by simpa using hlt)]; simp
      have w1 : IntKind.i64.wrap (((totA (ls.take i) : Nat) : Int) + ((ls[i].length : Nat) : Int)) = ((totA (ls.take (i + 1)) : Nat) : Int) := by rw [Fz.w64 (by omega) (by omega)]; omega
      have w2 : IntKind.i64.wrap ((i : Int) + 1) = ((i + 1 : Nat) : Int) := by rw [Fz.w64 (by omega) (by omega)]; omega
      refine ⟨hlt, by omega, ?_⟩
      rw [d1]
      simp -dsimp [h0, h9, h10, h11, h3, w1, w2]
      refine ⟨ls.length - (i + 1), by omega, i + 1, by omega, rfl, ?_⟩
      simp -dsimp [h0, h9, h10]
    · rename_i hge
      have hii : i = ls.length := by omega
      subst hii
      rw [List.take_length] at h3 ⊢
      refine grow_slo (by omega) (by omega) fun v J hac => ?_
      simp -dsimp [h0, h9, h10, h11, h3]
      refine xL_by (by kernel_rfl) (fun k e H => ∃ (i : Nat) (v : V) (J : List Ob), i ≤ ls.length ∧ k = ls.length - i ∧ e 25 = .own 0 0 ls.length 1 ∧ e 26 = .int .i64 ls.length ∧ e 27 = .int .i64 i ∧ e 6 = v ∧ Ac 2 1 J v ((catA (ls.take i)).map sloV) ∧ H = .live (ls.map slosV) :: J) ls.length ?_ ?_
      · exact ⟨0, v, J, by simp [h0]; exact hac⟩
      · rintro k e H ⟨i, v, J, hi, hk, h25, h26, h27, h6, hac, rfl⟩
        simp -dsimp [h25, h26, h27, h6]
        split
        · rename_i hlt
          have d1 : List.take 1 (List.drop i (ls.map slosV)) = [slosV ls[i]] := by
            rw [List.drop_eq_getElem_cons (by simpa using hlt)]; simp
          refine ⟨hlt, by omega, ?_⟩
          rw [d1]
          simp -dsimp [h25, h26, h27, h6]
          have t2 := totA_succ ls i hlt
          have t3 := totA_take ls (i + 1)
          have t4 : (catA (ls.take i)).length = totA (ls.take i) := catA_len _
          have e1 := catA_succ ls i hlt
          refine app_ac 1 (m := ls[i].map sloV) (l := (catA (ls.take i)).map sloV) (by simpa using hac) (by simp) (by simp) (by simp) (by simp) (by simp) (by rw [List.length_map, List.length_map, t4]; simp [capOk]; omega) fun v' J' hac' => ?_
          have w2 : IntKind.i64.wrap ((i : Int) + 1) = ((i + 1 : Nat) : Int) := by rw [Fz.w64 (by omega) (by omega)]; omega
          simp -dsimp [h25, h26, h27, w2]
          refine ⟨ls.length - (i + 1), by omega, i + 1, v', J', by omega, rfl, ?_⟩
          simp -dsimp [h25, h26]
          rw [e1, List.map_append]
          exact hac'
        · rename_i hge
          have hii : i = ls.length := by omega
          subst hii
          rw [List.take_length] at hac
          exact hq _ _ hac
theorem concat_call_slo {H : List Ob} {id : Nat} {ls : List (List Slo)} (hid : H[id]? = some (.live (ls.map slosV))) (ht : totA ls ≤ 10000000) (hl : ls.length ≤ 1000000) {Q : CR → List Ob → Prop}
    (hq : ∀ v J, Ac 2 H.length J v ((catA ls).map sloV) → Q (.ret v) (H ++ J)) : WCall p 86 [.own id 0 ls.length 1] H Q := by
  have hgl : groundL (ls.map slosV) = true := by simp
  have hr : reach H 1000 (refsL [.own id 0 ls.length 1]) [] = some [id] := reach_one hid (groundL_refs _ hgl)
  refine WCall_inl (by kernel_rfl) hr ?_
  have e1 : renL (fun i => ([id] : List Nat).idxOf i) [.own id 0 ls.length 1] = [.own 0 0 ls.length 1] := by simp [renL, ren]
  have e2 : (([id] : List Nat).map fun i => renOb (fun i => ([id] : List Nat).idxOf i) (H[i]?.getD .dead)) = [.live (ls.map slosV)] := by
    simp only [List.map_cons, List.map_nil, hid, Option.getD_some, renOb, groundL_ren _ _ hgl]
  rw [e1, e2]
  refine concat_own_slo ht hl fun v J hac => ⟨by simp, ?_⟩
  have e3 : (refsOb (.live (ls.map slosV))) = [] := groundL_refs _ hgl
  rcases ac_cases hac with ⟨rfl, h0⟩ | ⟨j, len, rfl, _⟩
  · have e4 : backH [id] (.ret (.list [] true)) (.live (ls.map slosV) :: J) H = H := by
      unfold backH
      rw [if_neg (by simp [crV, refs, refsL, e3])]
      simp [setAll, renOb, groundL_ren _ _ hgl, set_same hid]
    rw [e4]
    have := hq (.list [] true) [] ⟨by rw [h0]; rfl, by decide, .inl ⟨h0, rfl⟩⟩
    simpa [renR, ren, renL] using this
  · have hg : ∀ j, backK [id] H.length (1 + j) = H.length + j := fun j => by rw [Nat.add_comm]; exact back_s
    have e4 : backH [id] (.ret (.own (1 + j) 0 len 2)) (.live (ls.map slosV) :: J) H = H ++ J.map (renOb (backK [id] H.length)) := by
      unfold backH
      rw [if_pos (by simp [crV, refs])]
      simp [setAll, renOb, groundL_ren _ _ hgl, set_same hid]
    rw [e4]
    have := hq _ _ (acg_back hg (by simp) hac)
    simpa [renR, ren] using this
theorem joined_slo {l tail : List Slo} {keep : Int} (hl : l.length ≤ 1000000) (ht : tail.length ≤ 1000000) : Comes p 51 [slosV l, .int .i64 keep, slosV tail]
    (if 0 ≤ keep ∧ keep ≤ l.length then .tuple [slosV (l.take keep.toNat ++ tail), .bool true] else .tuple [slosV [], .bool false]) := by
  refine Comes_of w51 rfl rfl k51 ?_ ?_ ?_ ?_
  · simp
  · simp
  · split <;> simp
  · by_cases c1 : keep < 0
    · have c3 : ¬ (0 ≤ keep ∧ keep ≤ l.length) := by omega
      simp -dsimp [w51, wFix_by, isInl, c1, c3]
      try simp [slosV]
    · by_cases c2 : keep ≤ l.length
      · have c3 : 0 ≤ keep ∧ keep ≤ l.length := by omega
        have c4 : ¬ (l.length : Int) < keep := by omega
        simp -dsimp [-List.map_take, tk_map, w51, wFix_by, isInl, c1, c3, c4]
        try refine ⟨by omega, ?_⟩
        refine concat_call_slo (ls := [l.take keep.toNat, tail]) rfl (by simp [totA]; omega) (by simp) fun v J hac => ?_
        have hac : Ac 2 1 J v ((l.take keep.toNat ++ tail).map sloV) := by
          have e : catA [l.take keep.toNat, tail] = l.take keep.toNat ++ tail := by simp [catA]
          rw [e] at hac; exact hac
        generalize l.take keep.toNat ++ tail = m at hac ⊢
        simp -dsimp [wFix_by, isInl]
        refine frz_acg 1 (k := 10) hac (by simp) (.inr ⟨by decide, by simp; exact fun x _ => ⟨_, rfl⟩⟩) fun H' _ _ => ?_
        simp -dsimp [slosV]
      · have c3 : ¬ (0 ≤ keep ∧ keep ≤ l.length) := by omega
        have c4 : (l.length : Int) < keep := by omega
        simp -dsimp [w51, wFix_by, isInl, c1, c3, c4]
        try simp [slosV]

theorem grow_wor {n : Int} {H : List Ob} {Q : CR → List Ob → Prop} (h0 : 0 ≤ n) (h1 : n ≤ 10000000) (hq : ∀ v J, Ac 4 H.length J v [] → Q (.ret v) (H ++ J)) : WCall p 99 [.list [] true, .int .i64 n] H Q := by
  have hr : reach H 1000 (refsL [.list [] true, .int .i64 n]) [] = some [] := rfl
  refine WCall_inl (by kernel_rfl) hr ?_
  refine WFun_of w99 rfl rfl k99 ?_
  have e0 : IntKind.i64.wrap n = n := Fz.w64 (by omega) (by omega)
  have z0 : IntKind.i64.wrap 0 = 0 := Fz.w64 (by omega) (by omega)
  have none : Q (renR (backK [] H.length) (CR.ret (V.list [] true))) (backH [] (CR.ret (V.list [] true)) [] H) := by
    have := hq (.list [] true) [] (ac_nil (by decide))
    simpa [renR, ren, renL, backH, crV, refs, refsL, setAll] using this
  by_cases hn : n = 0
  · subst hn
    simp -dsimp [w99, renL, ren]
    have e1 : IntKind.i64.wrap (-IntKind.i64.wrap 0) = 0 := by rw [z0]; exact z0
    rw [e1, if_neg (by omega)]
    exact none
  · have hp : 0 < n := by omega
    have hz : ¬ n < 0 := by omega
    simp -dsimp [w99, renL, ren, e0, hp, hz]
    have e1 : IntKind.i64.wrap (n - IntKind.i64.wrap 0) = n := by rw [z0, Int.sub_zero]; exact e0
    rw [e1, if_pos hp]
    have hl : (zeros [V.str ⟨#[]⟩, V.int .i64 0, V.bool false, V.bool false] n.toNat).length = n.toNat * 4 := zeros_len _
    first
    | (refine ⟨⟨h0, by omega, by omega⟩, ?_⟩
       rw [if_neg (by omega)]
       refine ⟨⟨hl, by simp [capOk]; omega⟩, ?_⟩)
    | (rw [if_neg (by omega)]
       refine ⟨⟨h0, by omega, by omega⟩, by simp [capOk]; omega, ?_⟩)
    | (refine ⟨⟨h0, by omega, by omega⟩, ?_⟩
       rw [if_neg (by omega)]
       refine ⟨by simp [capOk]; omega, ?_⟩)
    have := hq (.own H.length 0 0 4) [.live (zeros [V.str ⟨#[]⟩, V.int .i64 0, V.bool false, V.bool false] n.toNat)] ⟨rfl, by decide, .inr ⟨0, _, rfl, rfl, by simp, by simp [flat]⟩⟩
    have e2 : renOb (backK [] H.length) (.live (zeros [V.str ⟨#[]⟩, V.int .i64 0, V.bool false, V.bool false] n.toNat)) = .live (zeros [V.str ⟨#[]⟩, V.int .i64 0, V.bool false, V.bool false] n.toNat) := by
      rw [renOb, groundL_ren _ _ (zeros_gd (by simp) _)]
    try rw [show List.replicate n.toNat (V.int .i64 0) = zeros [V.str ⟨#[]⟩, V.int .i64 0, V.bool false, V.bool false] n.toNat from by simp]
    simp only [renR, ren, renL, backH, crV, refs, refsL, setAll, List.take_zero, List.flatMap_nil, List.append_nil, List.length_nil, List.any_cons, List.map_nil, List.drop_zero, List.map_cons, e2, List.any_nil]
    simpa [backK] using this
theorem concat_own_wor {ls : List (List Wor)} (ht : totA ls ≤ 10000000) (hl : ls.length ≤ 1000000) {Q : CR → List Ob → Prop} (hq : ∀ v J, Ac 4 1 J v ((catA ls).map worV) → Q (.ret v) (.live (ls.map worsV) :: J)) :
    WFun p 87 [.own 0 0 ls.length 1] [.live (ls.map worsV)] Q := by
  refine WFun_of w87 rfl rfl k87 ?_
  simp -dsimp [w87]
  refine xL_by (by kernel_rfl) (fun k e H => ∃ i : Nat, i ≤ ls.length ∧ k = ls.length - i ∧ e 0 = .own 0 0 ls.length 1 ∧ e 9 = .own 0 0 ls.length 1 ∧ e 10 = .int .i64 ls.length ∧ e 11 = .int .i64 i ∧ e 3 = .int .i64 (totA (ls.take i)) ∧ H = [.live (ls.map worsV)]) ls.length ?_ ?_
  · exact ⟨0, by simp [totA]⟩
  · rintro k e H ⟨i, hi, hk, h0, h9, h10, h11, h3, rfl⟩
    have t1 := totA_take ls i
    simp -dsimp [h0, h9, h10, h11, h3]
    split
    · rename_i hlt
      have t2 := totA_succ ls i hlt
      have t3 := totA_take ls (i + 1)
      have d1 : List.take 1 (List.drop i (ls.map worsV)) = [worsV ls[i]] := by
        rw [List.drop_eq_getElem_cons (by simpa using hlt)]; simp
      have w1 : IntKind.i64.wrap (((totA (ls.take i) : Nat) : Int) + ((ls[i].length : Nat) : Int)) = ((totA (ls.take (i + 1)) : Nat) : Int) := by rw [Fz.w64 (by omega) (by omega)]; omega
      have w2 : IntKind.i64.wrap ((i : Int) + 1) = ((i + 1 : Nat) : Int) := by rw [Fz.w64 (by omega) (by omega)]; omega
      refine ⟨hlt, by omega, ?_⟩
      rw [d1]
      simp -dsimp [h0, h9, h10, h11, h3, w1, w2]
      refine ⟨ls.length - (i + 1), by omega, i + 1, by omega, rfl, ?_⟩
      simp -dsimp [h0, h9, h10]
    · rename_i hge
      have hii : i = ls.length := by omega
      subst hii
      rw [List.take_length] at h3 ⊢
      refine grow_wor (by omega) (by omega) fun v J hac => ?_
      simp -dsimp [h0, h9, h10, h11, h3]
      refine xL_by (by kernel_rfl) (fun k e H => ∃ (i : Nat) (v : V) (J : List Ob), i ≤ ls.length ∧ k = ls.length - i ∧ e 25 = .own 0 0 ls.length 1 ∧ e 26 = .int .i64 ls.length ∧ e 27 = .int .i64 i ∧ e 6 = v ∧ Ac 4 1 J v ((catA (ls.take i)).map worV) ∧ H = .live (ls.map worsV) :: J) ls.length ?_ ?_
      · exact ⟨0, v, J, by simp [h0]; exact hac⟩
      · rintro k e H ⟨i, v, J, hi, hk, h25, h26, h27, h6, hac, rfl⟩
        simp -dsimp [h25, h26, h27, h6]
        split
        · rename_i hlt
          have d1 : List.take 1 (List.drop i (ls.map worsV)) = [worsV ls[i]] := by
            rw [List.drop_eq_getElem_cons (by simpa using hlt)]; simp
          refine ⟨hlt, by omega, ?_⟩
          rw [d1]
          simp -dsimp [h25, h26, h27, h6]
          have t2 := totA_succ ls i hlt
          have t3 := totA_take ls (i + 1)
          have t4 : (catA (ls.take i)).length = totA (ls.take i) := catA_len _
          have e1 := catA_succ ls i hlt
          refine app_ac 1 (m := ls[i].map worV) (l := (catA (ls.take i)).map worV) (by simpa using hac) (by simp) (by simp) (by simp) (by simp) (by simp) (by rw [List.length_map, List.length_map, t4]; simp [capOk]; omega) fun v' J' hac' => ?_
          have w2 : IntKind.i64.wrap ((i : Int) + 1) = ((i + 1 : Nat) : Int) := by rw [Fz.w64 (by omega) (by omega)]; omega
          simp -dsimp [h25, h26, h27, w2]
          refine ⟨ls.length - (i + 1), by omega, i + 1, v', J', by omega, rfl, ?_⟩
          simp -dsimp [h25, h26]
          rw [e1, List.map_append]
          exact hac'
        · rename_i hge
          have hii : i = ls.length := by omega
          subst hii
          rw [List.take_length] at hac
          exact hq _ _ hac
theorem concat_call_wor {H : List Ob} {id : Nat} {ls : List (List Wor)} (hid : H[id]? = some (.live (ls.map worsV))) (ht : totA ls ≤ 10000000) (hl : ls.length ≤ 1000000) {Q : CR → List Ob → Prop}
    (hq : ∀ v J, Ac 4 H.length J v ((catA ls).map worV) → Q (.ret v) (H ++ J)) : WCall p 87 [.own id 0 ls.length 1] H Q := by
  have hgl : groundL (ls.map worsV) = true := by simp
  have hr : reach H 1000 (refsL [.own id 0 ls.length 1]) [] = some [id] := reach_one hid (groundL_refs _ hgl)
  refine WCall_inl (by kernel_rfl) hr ?_
  have e1 : renL (fun i => ([id] : List Nat).idxOf i) [.own id 0 ls.length 1] = [.own 0 0 ls.length 1] := by simp [renL, ren]
  have e2 : (([id] : List Nat).map fun i => renOb (fun i => ([id] : List Nat).idxOf i) (H[i]?.getD .dead)) = [.live (ls.map worsV)] := by
    simp only [List.map_cons, List.map_nil, hid, Option.getD_some, renOb, groundL_ren _ _ hgl]
  rw [e1, e2]
  refine concat_own_wor ht hl fun v J hac => ⟨by simp, ?_⟩
  have e3 : (refsOb (.live (ls.map worsV))) = [] := groundL_refs _ hgl
  rcases ac_cases hac with ⟨rfl, h0⟩ | ⟨j, len, rfl, _⟩
  · have e4 : backH [id] (.ret (.list [] true)) (.live (ls.map worsV) :: J) H = H := by
      unfold backH
      rw [if_neg (by simp [crV, refs, refsL, e3])]
      simp [setAll, renOb, groundL_ren _ _ hgl, set_same hid]
    rw [e4]
    have := hq (.list [] true) [] ⟨by rw [h0]; rfl, by decide, .inl ⟨h0, rfl⟩⟩
    simpa [renR, ren, renL] using this
  · have hg : ∀ j, backK [id] H.length (1 + j) = H.length + j := fun j => by rw [Nat.add_comm]; exact back_s
    have e4 : backH [id] (.ret (.own (1 + j) 0 len 4)) (.live (ls.map worsV) :: J) H = H ++ J.map (renOb (backK [id] H.length)) := by
      unfold backH
      rw [if_pos (by simp [crV, refs])]
      simp [setAll, renOb, groundL_ren _ _ hgl, set_same hid]
    rw [e4]
    have := hq _ _ (acg_back hg (by simp) hac)
    simpa [renR, ren] using this
theorem joined_wor {l tail : List Wor} {keep : Int} (hl : l.length ≤ 1000000) (ht : tail.length ≤ 1000000) : Comes p 52 [worsV l, .int .i64 keep, worsV tail]
    (if 0 ≤ keep ∧ keep ≤ l.length then .tuple [worsV (l.take keep.toNat ++ tail), .bool true] else .tuple [worsV [], .bool false]) := by
  refine Comes_of w52 rfl rfl k52 ?_ ?_ ?_ ?_
  · simp
  · simp
  · split <;> simp
  · by_cases c1 : keep < 0
    · have c3 : ¬ (0 ≤ keep ∧ keep ≤ l.length) := by omega
      simp -dsimp [w52, wFix_by, isInl, c1, c3]
      try simp [worsV]
    · by_cases c2 : keep ≤ l.length
      · have c3 : 0 ≤ keep ∧ keep ≤ l.length := by omega
        have c4 : ¬ (l.length : Int) < keep := by omega
        simp -dsimp [-List.map_take, tk_map, w52, wFix_by, isInl, c1, c3, c4]
        try refine ⟨by omega, ?_⟩
        refine concat_call_wor (ls := [l.take keep.toNat, tail]) rfl (by simp [totA]; omega) (by simp) fun v J hac => ?_
        have hac : Ac 4 1 J v ((l.take keep.toNat ++ tail).map worV) := by
          have e : catA [l.take keep.toNat, tail] = l.take keep.toNat ++ tail := by simp [catA]
          rw [e] at hac; exact hac
        generalize l.take keep.toNat ++ tail = m at hac ⊢
        simp -dsimp [wFix_by, isInl]
        refine frz_acg 1 (k := 10) hac (by simp) (.inr ⟨by decide, by simp; exact fun x _ => ⟨_, rfl⟩⟩) fun H' _ _ => ?_
        simp -dsimp [worsV]
      · have c3 : ¬ (0 ≤ keep ∧ keep ≤ l.length) := by omega
        have c4 : (l.length : Int) < keep := by omega
        simp -dsimp [w52, wFix_by, isInl, c1, c3, c4]
        try simp [worsV]

theorem grow_spo {n : Int} {H : List Ob} {Q : CR → List Ob → Prop} (h0 : 0 ≤ n) (h1 : n ≤ 10000000) (hq : ∀ v J, Ac 2 H.length J v [] → Q (.ret v) (H ++ J)) : WCall p 100 [.list [] true, .int .i64 n] H Q := by
  have hr : reach H 1000 (refsL [.list [] true, .int .i64 n]) [] = some [] := rfl
  refine WCall_inl (by kernel_rfl) hr ?_
  refine WFun_of w100 rfl rfl k100 ?_
  have e0 : IntKind.i64.wrap n = n := Fz.w64 (by omega) (by omega)
  have z0 : IntKind.i64.wrap 0 = 0 := Fz.w64 (by omega) (by omega)
  have none : Q (renR (backK [] H.length) (CR.ret (V.list [] true))) (backH [] (CR.ret (V.list [] true)) [] H) := by
    have := hq (.list [] true) [] (ac_nil (by decide))
    simpa [renR, ren, renL, backH, crV, refs, refsL, setAll] using this
  by_cases hn : n = 0
  · subst hn
    simp -dsimp [w100, renL, ren]
    have e1 : IntKind.i64.wrap (-IntKind.i64.wrap 0) = 0 := by rw [z0]; exact z0
    rw [e1, if_neg (by omega)]
    exact none
  · have hp : 0 < n := by omega
    have hz : ¬ n < 0 := by omega
    simp -dsimp [w100, renL, ren, e0, hp, hz]
    have e1 : IntKind.i64.wrap (n - IntKind.i64.wrap 0) = n := by rw [z0, Int.sub_zero]; exact e0
    rw [e1, if_pos hp]
    have hl : (zeros [V.int .i64 0, V.int .i64 0] n.toNat).length = n.toNat * 2 := zeros_len _
    first
    | (refine ⟨⟨h0, by omega, by omega⟩, ?_⟩
       rw [if_neg (by omega)]
       refine ⟨⟨hl, by simp [capOk]; omega⟩, ?_⟩)
    | (rw [if_neg (by omega)]
       refine ⟨⟨h0, by omega, by omega⟩, by simp [capOk]; omega, ?_⟩)
    | (refine ⟨⟨h0, by omega, by omega⟩, ?_⟩
       rw [if_neg (by omega)]
       refine ⟨by simp [capOk]; omega, ?_⟩)
    have := hq (.own H.length 0 0 2) [.live (zeros [V.int .i64 0, V.int .i64 0] n.toNat)] ⟨rfl, by decide, .inr ⟨0, _, rfl, rfl, by simp, by simp [flat]⟩⟩
    have e2 : renOb (backK [] H.length) (.live (zeros [V.int .i64 0, V.int .i64 0] n.toNat)) = .live (zeros [V.int .i64 0, V.int .i64 0] n.toNat) := by
      rw [renOb, groundL_ren _ _ (zeros_gd (by simp) _)]
    try rw [show List.replicate n.toNat (V.int .i64 0) = zeros [V.int .i64 0, V.int .i64 0] n.toNat from by simp]
    simp only [renR, ren, renL, backH, crV, refs, refsL, setAll, List.take_zero, List.flatMap_nil, List.append_nil, List.length_nil, List.any_cons, List.map_nil, List.drop_zero, List.map_cons, e2, List.any_nil]
    simpa [backK] using this
theorem concat_own_spo {ls : List (List Spo)} (ht : totA ls ≤ 10000000) (hl : ls.length ≤ 1000000) {Q : CR → List Ob → Prop} (hq : ∀ v J, Ac 2 1 J v ((catA ls).map spoV) → Q (.ret v) (.live (ls.map sposV) :: J)) :
    WFun p 88 [.own 0 0 ls.length 1] [.live (ls.map sposV)] Q := by
  refine WFun_of w88 rfl rfl k88 ?_
  simp -dsimp [w88]
  refine xL_by (by kernel_rfl) (fun k e H => ∃ i : Nat, i ≤ ls.length ∧ k = ls.length - i ∧ e 0 = .own 0 0 ls.length 1 ∧ e 9 = .own 0 0 ls.length 1 ∧ e 10 = .int .i64 ls.length ∧ e 11 = .int .i64 i ∧ e 3 = .int .i64 (totA (ls.take i)) ∧ H = [.live (ls.map sposV)]) ls.length ?_ ?_
  · exact ⟨0, by simp [totA]⟩
  · rintro k e H ⟨i, hi, hk, h0, h9, h10, h11, h3, rfl⟩
    have t1 := totA_take ls i
    simp -dsimp [h0, h9, h10, h11, h3]
    split
    · rename_i hlt
      have t2 := totA_succ ls i hlt
      have t3 := totA_take ls (i + 1)
      have d1 : List.take 1 (List.drop i (ls.map sposV)) = [sposV ls[i]] := by
        rw [List.drop_eq_getElem_cons (by simpa using hlt)]; simp
      have w1 : IntKind.i64.wrap (((totA (ls.take i) : Nat) : Int) + ((ls[i].length : Nat) : Int)) = ((totA (ls.take (i + 1)) : Nat) : Int) := by rw [Fz.w64 (by omega) (by omega)]; omega
      have w2 : IntKind.i64.wrap ((i : Int) + 1) = ((i + 1 : Nat) : Int) := by rw [Fz.w64 (by omega) (by omega)]; omega
      refine ⟨hlt, by omega, ?_⟩
      rw [d1]
      simp -dsimp [h0, h9, h10, h11, h3, w1, w2]
      refine ⟨ls.length - (i + 1), by omega, i + 1, by omega, rfl, ?_⟩
      simp -dsimp [h0, h9, h10]
    · rename_i hge
      have hii : i = ls.length := by omega
      subst hii
      rw [List.take_length] at h3 ⊢
      refine grow_spo (by omega) (by omega) fun v J hac => ?_
      simp -dsimp [h0, h9, h10, h11, h3]
      refine xL_by (by kernel_rfl) (fun k e H => ∃ (i : Nat) (v : V) (J : List Ob), i ≤ ls.length ∧ k = ls.length - i ∧ e 25 = .own 0 0 ls.length 1 ∧ e 26 = .int .i64 ls.length ∧ e 27 = .int .i64 i ∧ e 6 = v ∧ Ac 2 1 J v ((catA (ls.take i)).map spoV) ∧ H = .live (ls.map sposV) :: J) ls.length ?_ ?_
      · exact ⟨0, v, J, by simp [h0]; exact hac⟩
      · rintro k e H ⟨i, v, J, hi, hk, h25, h26, h27, h6, hac, rfl⟩
        simp -dsimp [h25, h26, h27, h6]
        split
        · rename_i hlt
          have d1 : List.take 1 (List.drop i (ls.map sposV)) = [sposV ls[i]] := by
            rw [List.drop_eq_getElem_cons (by simpa using hlt)]; simp
          refine ⟨hlt, by omega, ?_⟩
          rw [d1]
          simp -dsimp [h25, h26, h27, h6]
          have t2 := totA_succ ls i hlt
          have t3 := totA_take ls (i + 1)
          have t4 : (catA (ls.take i)).length = totA (ls.take i) := catA_len _
          have e1 := catA_succ ls i hlt
          refine app_ac 1 (m := ls[i].map spoV) (l := (catA (ls.take i)).map spoV) (by simpa using hac) (by simp) (by simp) (by simp) (by simp) (by simp) (by rw [List.length_map, List.length_map, t4]; simp [capOk]; omega) fun v' J' hac' => ?_
          have w2 : IntKind.i64.wrap ((i : Int) + 1) = ((i + 1 : Nat) : Int) := by rw [Fz.w64 (by omega) (by omega)]; omega
          simp -dsimp [h25, h26, h27, w2]
          refine ⟨ls.length - (i + 1), by omega, i + 1, v', J', by omega, rfl, ?_⟩
          simp -dsimp [h25, h26]
          rw [e1, List.map_append]
          exact hac'
        · rename_i hge
          have hii : i = ls.length := by omega
          subst hii
          rw [List.take_length] at hac
          exact hq _ _ hac
theorem concat_call_spo {H : List Ob} {id : Nat} {ls : List (List Spo)} (hid : H[id]? = some (.live (ls.map sposV))) (ht : totA ls ≤ 10000000) (hl : ls.length ≤ 1000000) {Q : CR → List Ob → Prop}
    (hq : ∀ v J, Ac 2 H.length J v ((catA ls).map spoV) → Q (.ret v) (H ++ J)) : WCall p 88 [.own id 0 ls.length 1] H Q := by
  have hgl : groundL (ls.map sposV) = true := by simp
  have hr : reach H 1000 (refsL [.own id 0 ls.length 1]) [] = some [id] := reach_one hid (groundL_refs _ hgl)
  refine WCall_inl (by kernel_rfl) hr ?_
  have e1 : renL (fun i => ([id] : List Nat).idxOf i) [.own id 0 ls.length 1] = [.own 0 0 ls.length 1] := by simp [renL, ren]
  have e2 : (([id] : List Nat).map fun i => renOb (fun i => ([id] : List Nat).idxOf i) (H[i]?.getD .dead)) = [.live (ls.map sposV)] := by
    simp only [List.map_cons, List.map_nil, hid, Option.getD_some, renOb, groundL_ren _ _ hgl]
  rw [e1, e2]
  refine concat_own_spo ht hl fun v J hac => ⟨by simp, ?_⟩
  have e3 : (refsOb (.live (ls.map sposV))) = [] := groundL_refs _ hgl
  rcases ac_cases hac with ⟨rfl, h0⟩ | ⟨j, len, rfl, _⟩
  · have e4 : backH [id] (.ret (.list [] true)) (.live (ls.map sposV) :: J) H = H := by
      unfold backH
      rw [if_neg (by simp [crV, refs, refsL, e3])]
      simp [setAll, renOb, groundL_ren _ _ hgl, set_same hid]
    rw [e4]
    have := hq (.list [] true) [] ⟨by rw [h0]; rfl, by decide, .inl ⟨h0, rfl⟩⟩
    simpa [renR, ren, renL] using this
  · have hg : ∀ j, backK [id] H.length (1 + j) = H.length + j := fun j => by rw [Nat.add_comm]; exact back_s
    have e4 : backH [id] (.ret (.own (1 + j) 0 len 2)) (.live (ls.map sposV) :: J) H = H ++ J.map (renOb (backK [id] H.length)) := by
      unfold backH
      rw [if_pos (by simp [crV, refs])]
      simp [setAll, renOb, groundL_ren _ _ hgl, set_same hid]
    rw [e4]
    have := hq _ _ (acg_back hg (by simp) hac)
    simpa [renR, ren] using this
theorem joined_spo {l tail : List Spo} {keep : Int} (hl : l.length ≤ 1000000) (ht : tail.length ≤ 1000000) : Comes p 53 [sposV l, .int .i64 keep, sposV tail]
    (if 0 ≤ keep ∧ keep ≤ l.length then .tuple [sposV (l.take keep.toNat ++ tail), .bool true] else .tuple [sposV [], .bool false]) := by
  refine Comes_of w53 rfl rfl k53 ?_ ?_ ?_ ?_
  · simp
  · simp
  · split <;> simp
  · by_cases c1 : keep < 0
    · have c3 : ¬ (0 ≤ keep ∧ keep ≤ l.length) := by omega
      simp -dsimp [w53, wFix_by, isInl, c1, c3]
      try simp [sposV]
    · by_cases c2 : keep ≤ l.length
      · have c3 : 0 ≤ keep ∧ keep ≤ l.length := by omega
        have c4 : ¬ (l.length : Int) < keep := by omega
        simp -dsimp [-List.map_take, tk_map, w53, wFix_by, isInl, c1, c3, c4]
        try refine ⟨by omega, ?_⟩
        refine concat_call_spo (ls := [l.take keep.toNat, tail]) rfl (by simp [totA]; omega) (by simp) fun v J hac => ?_
        have hac : Ac 2 1 J v ((l.take keep.toNat ++ tail).map spoV) := by
          have e : catA [l.take keep.toNat, tail] = l.take keep.toNat ++ tail := by simp [catA]
          rw [e] at hac; exact hac
        generalize l.take keep.toNat ++ tail = m at hac ⊢
        simp -dsimp [wFix_by, isInl]
        refine frz_acg 1 (k := 10) hac (by simp) (.inr ⟨by decide, by simp; exact fun x _ => ⟨_, rfl⟩⟩) fun H' _ _ => ?_
        simp -dsimp [sposV]
      · have c3 : ¬ (0 ≤ keep ∧ keep ≤ l.length) := by omega
        have c4 : (l.length : Int) < keep := by omega
        simp -dsimp [w53, wFix_by, isInl, c1, c3, c4]
        try simp [sposV]
end Fz.D
set_option maxRecDepth 100000
namespace Fz.D
open Go
/-- A copy of bytes that stay. -/
theorem clone_list {H : List Ob} {b : List Int} {Q : CR → List Ob → Prop} (hb : b.length ≤ 1000000) (hq : ∀ v J, Acc 1 H.length J v (b.map (V.int .u8)) → Q (.ret v) (H ++ J)) : WCall p 49 [byV b] H Q := by
  have h0 : refsL [byV b] = [] := groundL_refs _ (by simp)
  refine WCall_inl (by kernel_rfl) (ids := []) (by rw [h0]; rfl) ?_
  rw [groundL_ren _ [byV b] (by simp)]
  by_cases hb0 : b = []
  · subst hb0
    have e : acall p 20 49 [.list [] false] [] = some (.ret (.list [] true), []) := by kernel_rfl
    have := hq (.list [] true) [] (acc_nil (by decide))
    exact ⟨20, _, _, e, by simp, by simpa [renR, ren, renL, backH, crV, refs, refsL, setAll, renOb, backK] using this⟩
  · have := hq (.own H.length 0 b.length 1) [.live (b.map (V.int .u8))] ⟨by simp, by decide, .inr ⟨0, by simp, by simp⟩⟩
    have hne : b.map (V.int .u8) ≠ [] := by simpa using hb0
    refine WFun_of w49 rfl rfl k49 ?_
    simp -dsimp [w49, byV, xPur_isNilNe hne, hb0]
    refine ⟨by simp [capOk]; omega, ?_⟩
    simpa [renR, ren, renL, backH, crV, refs, refsL, setAll, renOb, backK] using this
theorem index_own {l : List Bool} (hl : l.length ≤ 100000) {Q : CR → List Ob → Prop} (hq : ∀ n : Int, (0 ≤ n ↔ l.all id = false) → Q (.ret (.int .i64 n)) [.live (l.map V.bool)]) : WFun p 89 [.own 0 0 l.length 1, .bool false] [.live (l.map V.bool)] Q := by
  refine WFun_of w89 rfl rfl k89 ?_
  simp -dsimp [w89]
  refine xL_by (by kernel_rfl) (fun k e H => ∃ i : Nat, i ≤ l.length ∧ k = l.length - i ∧ e 0 = .own 0 0 l.length 1 ∧ e 1 = .bool false ∧ e 7 = .int .i64 l.length ∧ e 8 = .int .i64 i ∧ H = [.live (l.map V.bool)] ∧ (l.take i).all id = true) l.length ?_ ?_
  · refine ⟨0, by omega, rfl, ?_⟩
    simp -dsimp
  · rintro k e H ⟨i, hi, hk, h0, h1, h7, h8, rfl, hall⟩
    by_cases c1 : i < l.length
    · have d1 : List.take 1 (List.drop i (l.map V.bool)) = [.bool l[i]] := by
        rw [List.drop_eq_getElem_cons (by simpa using c1)]; simp
      have w2 : IntKind.i64.wrap ((i : Int) + 1) = ((i + 1 : Nat) : Int) := by rw [Fz.w64 (by omega) (by omega)]; omega
      have q := all_take (f := id) c1
      cases c2 : l[i] with
      | true =>
        rw [c2] at d1
        simp -dsimp [h0, h1, h7, h8, c1, d1, w2]
        refine ⟨by omega, ?_⟩
        refine ⟨l.length - (i + 1), by omega, i + 1, by omega, rfl, ?_⟩
        rw [q, hall]
        simp -dsimp [h0, h1, h7, c2]
      | false =>
        rw [c2] at d1
        simp -dsimp [h0, h1, h7, h8, c1, d1, w2]
        refine ⟨by omega, hq i ⟨fun _ => ?_, fun _ => by omega⟩⟩
        rw [List.all_eq_false]
        exact ⟨l[i], List.getElem_mem c1, by simp [c2]⟩
    · have hii : i = l.length := by omega
      subst hii
      rw [List.take_length] at hall
      simp -dsimp [h0, h1, h7, h8, c1]
      exact hq (-1) ⟨fun h => by omega, fun h => by rw [hall] at h; cases h⟩
theorem contains_own {l : List Bool} (hl : l.length ≤ 100000) {Q : CR → List Ob → Prop} (hq : Q (.ret (.bool (!l.all id))) [.live (l.map V.bool)]) : WFun p 54 [.own 0 0 l.length 1, .bool false] [.live (l.map V.bool)] Q := by
  refine WFun_of w54 rfl rfl k54 ?_
  simp -dsimp [w54]
  have gl : groundL (l.map V.bool) = true := by simp
  have hr : reach [.live (l.map V.bool)] 1000 (refsL [.own 0 0 l.length 1, .bool false]) [] = some [0] := reach_one (i := 0) rfl (groundL_refs _ gl)
  refine WCall_inl (by kernel_rfl) hr ?_
  have e1 : renL (fun i => ([0] : List Nat).idxOf i) [.own 0 0 l.length 1, .bool false] = [.own 0 0 l.length 1, .bool false] := by simp [renL, ren]
  have e2 : (([0] : List Nat).map fun i => renOb (fun i => ([0] : List Nat).idxOf i) (([.live (l.map V.bool)] : List Ob)[i]?.getD .dead)) = [.live (l.map V.bool)] := by
    simp only [List.map_cons, List.map_nil, List.getElem?_cons_zero, Option.getD_some, renOb, groundL_ren _ _ gl]
  rw [e1, e2]
  refine index_own hl fun n hn => ⟨by simp, ?_⟩
  have e4 : backH [0] (.ret (.int .i64 n)) [.live (l.map V.bool)] [.live (l.map V.bool)] = [.live (l.map V.bool)] := by
    unfold backH
    rw [if_neg (by simp [crV, refs, refsOb, groundL_refs _ gl])]
    simp [setAll, renOb, groundL_ren _ _ gl]
  rw [e4]
  have e5 : (decide (0 ≤ n)) = !l.all id := by
    cases h : l.all id with
    | true => rw [h] at hn; simp at hn; simp; omega
    | false => rw [h] at hn; simp at hn; simp [hn]
  simp -dsimp [renR, ren, e5]
  exact hq
theorem contains_call {H : List Ob} {id : Nat} {l : List Bool} (hid : H[id]? = some (.live (l.map V.bool))) (hl : l.length ≤ 100000) {Q : CR → List Ob → Prop} (hq : Q (.ret (.bool (!l.all _root_.id))) H) : WCall p 54 [.own id 0 l.length 1, .bool false] H Q := by
  have gl : groundL (l.map V.bool) = true := by simp
  have hr : reach H 1000 (refsL [.own id 0 l.length 1, .bool false]) [] = some [id] := reach_one hid (groundL_refs _ gl)
  refine WCall_inl (by kernel_rfl) hr ?_
  have e1 : renL (fun i => ([id] : List Nat).idxOf i) [.own id 0 l.length 1, .bool false] = [.own 0 0 l.length 1, .bool false] := by simp [renL, ren]
  have e2 : (([id] : List Nat).map fun i => renOb (fun i => ([id] : List Nat).idxOf i) (H[i]?.getD .dead)) = [.live (l.map V.bool)] := by
    simp only [List.map_cons, List.map_nil, hid, Option.getD_some, renOb, groundL_ren _ _ gl]
  rw [e1, e2]
  refine contains_own hl ⟨by simp, ?_⟩
  have e4 : backH [id] (.ret (.bool (!l.all _root_.id))) [.live (l.map V.bool)] H = H := by
    unfold backH
    rw [if_neg (by simp [crV, refs, refsOb, groundL_refs _ gl])]
    simp [setAll, renOb, groundL_ren _ _ gl, set_same hid]
  rw [e4]
  simpa [renR, ren] using hq
theorem within_s (a b : Int) : Comes p 90 [.int .i64 a, .int .i64 b] (.bool (decide (0 ≤ a ∧ a ≤ b))) := by
  refine Comes_of w90 rfl rfl k90 ?_ ?_ ?_ ?_
  · simp
  · simp
  · simp
  · by_cases h : 0 ≤ a <;> simp -dsimp [w90, wFix_by, isInl, h]
end Fz.D
set_option maxRecDepth 100000
namespace Fz.D
open Go
def wi (a : Int) (n : Nat) : Bool := decide (0 ≤ a ∧ a ≤ (n : Int))
theorem wi_s (a : Int) (n : Nat) : Comes p 90 [.int .i64 a, .int .i64 n] (.bool (wi a n)) := within_s a n
def runOk (n : Nat) (r : Rn) : Bool := wi r.at_ n && decide (r.at_ + r.b.length ≤ n)
def restOk (t : St) (d : De) : Bool := wi d.dk t.data.length && (wi d.rk t.ret.length && (wi d.ck t.ctl.length && (wi d.wk t.words.length && (wi d.sk t.spots.length && wi d.out t.out.length))))
def fitsB (t : St) (d : De) : Bool := d.mem.all (runOk t.mem.length) && restOk t d
theorem fits_s {t : St} {d : De} (ht : t.mem.length ≤ 100000) (hd : d.mem.length ≤ 100000) (hr : ∀ r ∈ d.mem, r.b.length ≤ 100000) : Comes p 55 [stV t, deV d] (.bool (fitsB t d)) := by
  refine Comes_of w55 rfl rfl k55 ?_ ?_ ?_ ?_
  · simp
  · simp
  · simp
  · simp -dsimp [w55, wFix_by, isInl]
    refine xL_by (by kernel_rfl) (fun k e H => ∃ i : Nat, i ≤ d.mem.length ∧ k = d.mem.length - i ∧ e 2 = .ptr 0 0 ∧ e 3 = .ptr 1 0 ∧ e 5 = .int .i64 i ∧ H = [.live (cellsOf (stV t)), .live (cellsOf (deV d))] ∧ (d.mem.take i).all (runOk t.mem.length) = true) d.mem.length ?_ ?_
    · refine ⟨0, by omega, rfl, ?_⟩
      simp -dsimp
    rintro k e H ⟨i, hi, hk, h2, h3, h5, rfl, hall⟩
    by_cases c1 : i < d.mem.length
    · have w2 : IntKind.i64.wrap ((i : Int) + 1) = ((i + 1 : Nat) : Int) := by rw [Fz.w64 (by omega) (by omega)]; omega
      have g1 : d.mem[i]?.getD default = d.mem[i] := by simp [c1]
      have hb := hr d.mem[i] (List.getElem_mem c1)
      have q := all_take (f := runOk t.mem.length) c1
      have ws := wi_s d.mem[i].at_ t.mem.length
      have bad : runOk t.mem.length d.mem[i] = false → fitsB t d = false := fun h => by
        have := all_false (n := d.mem.length) c1 c1 h
        rw [List.take_length] at this
        unfold fitsB
        rw [this]; rfl
      cases c3 : wi d.mem[i].at_ t.mem.length with
      | false =>
        have z := bad (by unfold runOk; rw [c3]; rfl)
        rw [c3] at ws
        simp -dsimp [h2, h3, h5, c1, g1, w2, quiet_by ws, wFix_by, isInl, z]
      | true =>
        rw [c3] at ws
        have c3' : 0 ≤ d.mem[i].at_ ∧ d.mem[i].at_ ≤ t.mem.length := by simpa [wi] using c3
        have w4 : IntKind.i64.wrap (d.mem[i].at_ + (d.mem[i].b.length : Int)) = d.mem[i].at_ + d.mem[i].b.length := Fz.w64 (by omega) (by omega)
        by_cases c4 : d.mem[i].at_ + d.mem[i].b.length ≤ t.mem.length
        · have c4' : ¬ (t.mem.length : Int) < d.mem[i].at_ + d.mem[i].b.length := by omega
          simp -dsimp [h2, h3, h5, c1, g1, w2, w4, quiet_by ws, c4', wFix_by, isInl]
          refine ⟨d.mem.length - (i + 1), by omega, i + 1, by omega, rfl, ?_⟩
          rw [q, hall]
          simp -dsimp [h2, h3, runOk, c3, c4]
        · have c4' : (t.mem.length : Int) < d.mem[i].at_ + d.mem[i].b.length := by omega
          have z := bad (by unfold runOk; rw [c3]; simp; omega)
          simp -dsimp [h2, h3, h5, c1, g1, w2, w4, quiet_by ws, c4', wFix_by, isInl, z]
    · have hii : i = d.mem.length := by omega
      subst hii
      rw [List.take_length] at hall
      have hf : fitsB t d = restOk t d := by unfold fitsB; rw [hall]; rfl
      have s0 := wi_s d.dk t.data.length
      cases d0 : wi d.dk t.data.length with
      | false =>
        rw [d0] at s0
        simp -dsimp [h2, h3, h5, c1, wFix_by, isInl, hf, restOk, d0, call_by s0]
      | true =>
      rw [d0] at s0
      have s1 := wi_s d.rk t.ret.length
      cases d1 : wi d.rk t.ret.length with
      | false =>
        rw [d1] at s1
        simp -dsimp [h2, h3, h5, c1, wFix_by, isInl, hf, restOk, d0, call_by s0, d1, call_by s1]
      | true =>
      rw [d1] at s1
      have s2 := wi_s d.ck t.ctl.length
      cases d2 : wi d.ck t.ctl.length with
      | false =>
        rw [d2] at s2
        simp -dsimp [h2, h3, h5, c1, wFix_by, isInl, hf, restOk, d0, call_by s0, d1, call_by s1, d2, call_by s2]
      | true =>
      rw [d2] at s2
      have s3 := wi_s d.wk t.words.length
      cases d3 : wi d.wk t.words.length with
      | false =>
        rw [d3] at s3
        simp -dsimp [h2, h3, h5, c1, wFix_by, isInl, hf, restOk, d0, call_by s0, d1, call_by s1, d2, call_by s2, d3, call_by s3]
      | true =>
      rw [d3] at s3
      have s4 := wi_s d.sk t.spots.length
      cases d4 : wi d.sk t.spots.length with
      | false =>
        rw [d4] at s4
        simp -dsimp [h2, h3, h5, c1, wFix_by, isInl, hf, restOk, d0, call_by s0, d1, call_by s1, d2, call_by s2, d3, call_by s3, d4, call_by s4]
      | true =>
      rw [d4] at s4
      have s5 := wi_s d.out t.out.length
      cases d5 : wi d.out t.out.length with
      | false =>
        rw [d5] at s5
        simp -dsimp [h2, h3, h5, c1, wFix_by, isInl, hf, restOk, d0, call_by s0, d1, call_by s1, d2, call_by s2, d3, call_by s3, d4, call_by s4, d5, call_by s5]
      | true =>
      rw [d5] at s5
      simp -dsimp [h2, h3, h5, c1, wFix_by, isInl, hf, restOk, d0, call_by s0, d1, call_by s1, d2, call_by s2, d3, call_by s3, d4, call_by s4, d5, call_by s5]
/-- A memory with a run of bytes put into it. -/
def patch (m : List Int) (r : Rn) : List Int := m.take r.at_.toNat ++ r.b ++ m.drop (r.at_.toNat + r.b.length)
theorem patch_len {m : List Int} {r : Rn} (h : runOk m.length r = true) : (patch m r).length = m.length := by
  unfold runOk wi at h
  simp only [Bool.and_eq_true, decide_eq_true_eq] at h
  unfold patch
  simp only [List.length_append, List.length_take, List.length_drop]
  omega
/-- What a delta makes of a state. -/
def backS (t : St) (d : De) : St := { mem := d.mem.foldl patch t.mem, data := t.data.take d.dk.toNat ++ d.dt, ret := t.ret.take d.rk.toNat ++ d.rt, ctl := t.ctl.take d.ck.toNat ++ d.ct, words := t.words.take d.wk.toNat ++ d.wt, spots := t.spots.take d.sk.toNat ++ d.st, out := t.out.take (t.out.length - d.out.toNat), ip := d.r0, here := d.r1, at_ := d.r2, tok := d.r3, in_ := d.r4, err := d.r5, comp := d.comp, halt := d.halt }
def St0 : St := { mem := [], data := [], ret := [], ctl := [], words := [], spots := [], out := [], ip := 0, here := 0, at_ := 0, tok := 0, in_ := 0, err := 0, comp := false, halt := false }
def backV (t : St) (d : De) : V := if fitsB t d = true then .tuple [stV (backS t d), .int .i64 0] else .tuple [stV St0, .int .i64 1]
end Fz.D
set_option maxRecDepth 100000
namespace Fz.D
open Go
/-- The first k bytes of a run put into a memory. -/
def patchK (m : List Int) (r : Rn) (k : Nat) : List Int := m.take r.at_.toNat ++ r.b.take k ++ m.drop (r.at_.toNat + k)
theorem patchK_zero (m : List Int) (r : Rn) : patchK m r 0 = m := by simp [patchK]
theorem patchK_all (m : List Int) (r : Rn) : patchK m r r.b.length = patch m r := by simp [patchK, patch]
theorem patchK_len {m : List Int} {r : Rn} {k : Nat} (h : runOk m.length r = true) (hk : k ≤ r.b.length) : (patchK m r k).length = m.length := by
  unfold runOk wi at h
  simp only [Bool.and_eq_true, decide_eq_true_eq] at h
  unfold patchK
  simp only [List.length_append, List.length_take, List.length_drop]
  omega
theorem patchK_succ {m : List Int} {r : Rn} {k : Nat} (h : runOk m.length r = true) (hk : k < r.b.length) : patchK m r (k + 1) = (patchK m r k).set (r.at_.toNat + k) r.b[k] := by
  unfold runOk wi at h
  simp only [Bool.and_eq_true, decide_eq_true_eq] at h
  unfold patchK
  have l1 : (m.take r.at_.toNat ++ r.b.take k).length = r.at_.toNat + k := by simp; omega
  rw [List.set_append_right _ _ (by omega), l1, Nat.sub_self, List.drop_eq_getElem_cons (show r.at_.toNat + k < m.length by omega), List.set_cons_zero, List.take_succ_eq_append_getElem hk]
  rw [List.append_assoc, List.append_assoc, List.append_assoc]
  rfl
/-- One byte is stored. -/
theorem acc_store {k j i : Nat} {H : List Ob} {v : V} {l : List Int} {x : Int} (hj : Acc 1 k (H.drop k) v (l.map (V.int .u8))) (hi : i < l.length) :
    ∃ id, v = .own id 0 l.length 1 ∧ k ≤ id ∧ H[id]? = some (.live (l.map (V.int .u8))) ∧ Acc 1 k ((H.set id (.live ((l.set i x).map (V.int .u8)))).drop k) v ((l.set i x).map (V.int .u8)) ∧ (H.set id (.live ((l.set i x).map (V.int .u8)))).take k = H.take k := by
  obtain ⟨h1, h2, h3⟩ := hj
  rcases h3 with ⟨h3, _⟩ | ⟨j, rfl, h4⟩
  · have : l = [] := by simpa using h3
    subst this; simp at hi
  · rw [List.getElem?_drop, flat_int] at h4
    have hlt := (List.getElem?_eq_some_iff.1 h4).1
    refine ⟨k + j, by simp, by omega, h4, ⟨uni_int _, h2, .inr ⟨j, by simp, ?_⟩⟩, by rw [List.take_set_of_le (by omega)]⟩
    rw [List.getElem?_drop, List.getElem?_set_self hlt, flat_int]
theorem fold_len {n : Nat} : ∀ (rs : List Rn) (m : List Int), m.length = n → rs.all (runOk n) = true → (rs.foldl patch m).length = n
  | [], m, h, _ => h
  | r :: rs, m, h, ha => by
    rw [List.all_cons, Bool.and_eq_true] at ha
    rw [List.foldl_cons]
    exact fold_len rs _ (by rw [patch_len (by rw [h]; exact ha.1), h]) ha.2
theorem acc_val {n b : Nat} {J : List Ob} {v : V} {l : List V} (h : Acc n b J v l) : cellsOf v = [v] ∧ isAny v = false ∧ storable v = true := by
  obtain ⟨_, _, h3⟩ := h
  rcases h3 with ⟨_, rfl⟩ | ⟨j, rfl, _⟩ <;> exact ⟨rfl, rfl, rfl⟩
/-- A state's cells at first. -/
def Z15 : List V := [.list [] true, .list [] true, .list [] true, .list [] true, .list [] true, .list [] true, .list [] true, .int .i64 0, .int .i64 0, .int .i64 0, .int .i64 0, .int .i64 0, .int .i64 0, .bool false, .bool false]
/-- The first append to a slice, and a later one. -/
theorem app_new {H : List Ob} {n bytes k : Nat} {m xs : List V} {K : V → List Ob → Prop} (hxs : xs = flat m) (hk : k = m.length) (hu : uni n m = true) (hs : (flat m).all storable = true) (hn : n ≠ 0) (hc : capOk m.length bytes = true)
    (hK : ∀ v' J', Ac n H.length J' v' m → K v' (H ++ J')) : xAppend H n bytes (.list [] true) xs k K := by
  refine app_ac H.length (l := []) (m := m) (by rw [List.drop_length]; exact ac_nil hn) (Nat.le_refl _) hxs hk hu hs (by simpa using hc) fun v' J' h => ?_
  rw [List.take_length]
  exact hK v' J' h
theorem app_more {H J : List Ob} {n bytes k : Nat} {v : V} {l m xs : List V} {K : V → List Ob → Prop} (ha : Ac n H.length J v l) (hxs : xs = flat m) (hk : k = m.length) (hu : uni n m = true) (hs : (flat m).all storable = true) (hc : capOk (l.length + m.length) bytes = true)
    (hK : ∀ v' J', Ac n H.length J' v' (l ++ m) → K v' (H ++ J')) : xAppend (H ++ J) n bytes v xs k K := by
  refine app_ac H.length (l := l) (m := m) (by rw [List.drop_left]; exact ha) (by simp) hxs hk hu hs hc fun v' J' h => ?_
  rw [List.take_left]
  exact hK v' J' h
structure BkOk (t : St) (d : De) : Prop where
  tm : t.mem.length ≤ 100000
  to : t.out.length ≤ 100000
  dm : d.mem.length ≤ 100000
  db : ∀ r ∈ d.mem, r.b.length ≤ 100000
  l1 : t.data.length ≤ 100000 ∧ d.dt.length ≤ 100000
  l2 : t.ret.length ≤ 100000 ∧ d.rt.length ≤ 100000
  l3 : t.ctl.length ≤ 100000 ∧ d.ct.length ≤ 100000
  l4 : t.words.length ≤ 100000 ∧ d.wt.length ≤ 100000
  l5 : t.spots.length ≤ 100000 ∧ d.st.length ≤ 100000
abbrev R2 (t : St) (d : De) : List Ob := [.live (cellsOf (stV t)), .live (cellsOf (deV d))]
theorem refBack_s {t : St} {d : De} (ok : BkOk t d) : Comes p 18 [stV t, deV d] (backV t d) := by
  have tm := ok.tm
  have dm := ok.dm
  have c0 := fits_s (t := t) (d := d) ok.tm ok.dm ok.db
  rw [← stF t, ← deF d] at c0
  simp only [stV.cells, deV.cells] at c0
  refine Comes_of w18 rfl rfl k18 ?_ ?_ ?_ ?_
  · simp
  · simp
  · unfold backV; split <;> simp
  · cases hf : fitsB t d with
    | false =>
      rw [hf] at c0
      simp -dsimp [w18, wFix_by, isInl, call_by c0, backV, hf]
      rfl
    | true =>
      rw [hf] at c0
      have hall : d.mem.all (runOk t.mem.length) = true := by unfold fitsB at hf; rw [Bool.and_eq_true] at hf; exact hf.1
      have hrest : restOk t d = true := by unfold fitsB at hf; rw [Bool.and_eq_true] at hf; exact hf.2
      simp -dsimp [-wAppend_list, w18, wFix_by, isInl, call_by c0, backV, hf]
      refine app_acc 3 (m := t.mem.map (V.int .u8)) (l := []) (acc_nil (by decide)) (by simp) (by simp) (by simp) (by simp) (by simp) (by simp [capOk]; omega) fun v T ha => ?_
      simp -dsimp [-wAppend_list]
      refine xL_by (by kernel_rfl) (fun k e H => ∃ (i : Nat) (T : List Ob), i ≤ d.mem.length ∧ k = d.mem.length - i ∧ e 2 = .ptr 0 0 ∧ e 3 = .ptr 1 0 ∧ e 4 = .ptr 2 0 ∧ e 7 = .int .i64 i ∧ e 6 = v ∧ H = .live (cellsOf (stV t)) :: .live (cellsOf (deV d)) :: .live Z15 :: T ∧ Acc 1 3 T v (((d.mem.take i).foldl patch t.mem).map (V.int .u8))) d.mem.length ?_ ?_
      · refine ⟨0, T, by omega, rfl, ?_⟩
        simp -dsimp [Z15]
        simpa using ha
      clear ha T
      rintro k e H ⟨i, T, hi, hk, h2, h3, h4, h7, h6, rfl, ha⟩
      by_cases c1 : i < d.mem.length
      · have g1 : d.mem[i]?.getD default = d.mem[i] := by simp [c1]
        have hb := ok.db d.mem[i] (List.getElem_mem c1)
        have hr : runOk t.mem.length d.mem[i] = true := List.all_eq_true.1 hall _ (List.getElem_mem c1)
        have w2 : IntKind.i64.wrap ((i : Int) + 1) = ((i + 1 : Nat) : Int) := by rw [Fz.w64 (by omega) (by omega)]; omega
        have hml : ((d.mem.take i).foldl patch t.mem).length = t.mem.length := fold_len _ _ rfl (by
          rw [List.all_eq_true] at hall ⊢
          exact fun x hx => hall x (List.mem_of_mem_take hx))
        have hstep : (d.mem.take (i + 1)).foldl patch t.mem = patch ((d.mem.take i).foldl patch t.mem) d.mem[i] := by
          rw [List.take_succ_eq_append_getElem c1, List.foldl_append]; rfl
        generalize (d.mem.take i).foldl patch t.mem = m at *
        have hr' : runOk m.length d.mem[i] = true := by rw [hml]; exact hr
        have hw : 0 ≤ d.mem[i].at_ ∧ d.mem[i].at_ + d.mem[i].b.length ≤ m.length := by
          unfold runOk wi at hr'
          simp only [Bool.and_eq_true, decide_eq_true_eq] at hr'
          omega
        obtain ⟨r, hrr⟩ : ∃ r, r = d.mem[i] := ⟨_, rfl⟩
        rw [← hrr] at g1 hb hr hr' hw hstep
        simp -dsimp [-wAppend_list, h2, h3, h4, h7, h6, c1, w2, ← hrr]
        refine xL_by (by kernel_rfl) (fun k e H => ∃ (j : Nat) (T : List Ob), j ≤ r.b.length ∧ k = r.b.length - j ∧ e 2 = .ptr 0 0 ∧ e 3 = .ptr 1 0 ∧ e 4 = .ptr 2 0 ∧ e 7 = .int .i64 i ∧ e 8 = .int .i64 j ∧ e 6 = v ∧ H = .live (cellsOf (stV t)) :: .live (cellsOf (deV d)) :: .live Z15 :: T ∧ Acc 1 3 T v ((patchK m r j).map (V.int .u8))) r.b.length ?_ ?_
        · refine ⟨0, T, by omega, rfl, ?_⟩
          simp -dsimp [h2, h3, h4, h7, h6]
          rw [patchK_zero]; exact ha
        clear ha T
        rintro k' e H ⟨j, T, hj, hk', h2, h3, h4, h7, h8, h6, rfl, ha⟩
        by_cases c2 : j < r.b.length
        · have g2 : r.b[j]?.getD default = r.b[j] := by simp [c2]
          have w3 : IntKind.i64.wrap ((j : Int) + 1) = ((j + 1 : Nat) : Int) := by rw [Fz.w64 (by omega) (by omega)]; omega
          obtain ⟨q, hq⟩ : ∃ q, q = r.at_.toNat := ⟨_, rfl⟩
          have w4 : IntKind.i64.wrap (r.at_ + (j : Int)) = ((q + j : Nat) : Int) := by rw [Fz.w64 (by omega) (by omega)]; omega
          have hpl := patchK_len hr' hj
          obtain ⟨id, hv, hid, hget, hacc, htake⟩ := acc_store (k := 3) (j := 0) (H := .live (cellsOf (stV t)) :: .live (cellsOf (deV d)) :: .live Z15 :: T) (i := r.at_.toNat + j) (x := r.b[j]) ha (by omega)
          obtain ⟨id, rfl⟩ : ∃ q, id = q + 1 + 1 + 1 := ⟨id - 3, by omega⟩
          rw [← patchK_succ hr' c2] at hacc htake
          have hsu := patchK_succ hr' c2
          rw [← hq] at hsu
          have hget' : T[id]? = some (.live ((patchK m r j).map (V.int .u8))) := by simpa using hget
          simp -dsimp [h2, h3, h4, h7, h8, h6, c1, c2, w2, w3, w4, ← hrr, hv, wMut_at hget']
          refine ⟨by omega, by omega, by omega, ?_⟩
          refine ⟨r.b.length - (j + 1), by omega, j + 1, T.set id (.live ((patchK m r (j + 1)).map (V.int .u8))), by omega, rfl, ?_⟩
          simp -dsimp [h2, h3, h4, h7, h6]
          have tn : ((q : Int) + (j : Int)).toNat = q + j := by omega
          have e : List.take (q + j) ((patchK m r j).map (V.int .u8)) ++ V.int .u8 r.b[j] :: List.drop (q + j + 1) ((patchK m r j).map (V.int .u8)) = (patchK m r (j + 1)).map (V.int .u8) := by
            rw [hsu, List.map_set, List.set_eq_take_append_cons_drop, if_pos (by simp; omega)]
          rw [tn, e]
          exact ⟨rfl, by simpa using hacc⟩
        · have hjj : j = r.b.length := by omega
          subst hjj
          rw [patchK_all, ← hstep] at ha
          simp -dsimp [h2, h3, h4, h7, h8, h6, c1, c2, w2, ← hrr]
          refine ⟨d.mem.length - (i + 1), by omega, i + 1, T, by omega, rfl, ?_⟩
          simp -dsimp [h2, h3, h4, h6]
          exact ha
      · have hii : i = d.mem.length := by omega
        subst hii
        rw [List.take_length] at ha
        obtain ⟨xv, yv, uv'⟩ := acc_val ha
        have hrest' := hrest
        unfold restOk wi at hrest'
        simp only [Bool.and_eq_true, decide_eq_true_eq] at hrest'
        obtain ⟨k1, k2, k3, k4, k5, k6⟩ := hrest'
        have hto := ok.to
        have wo : IntKind.i64.wrap ((t.out.length : Int) - d.out) = ((t.out.length - d.out.toNat : Nat) : Int) := by rw [Fz.w64 (by omega) (by omega)]; omega
        simp -dsimp [-wAppend_list, h2, h3, h4, h7, h6, xv, yv, uv', wo, wFix_by, isInl]
        obtain ⟨H0, hH⟩ : ∃ H : List Ob, H = (.live (cellsOf (stV t)) :: .live (cellsOf (deV d)) :: .live Z15 :: (T ++ [.live Z15])).set (T.length + 1 + 1 + 1) (.live [v, .list [] true, .list [] true, .list [] true, .list [] true, .list [] true, .list (List.take (t.out.length - d.out.toNat) (t.out.map (V.int .u8))) false, .int .i64 0, .int .i64 0, .int .i64 0, .int .i64 0, .int .i64 0, .int .i64 0, .bool d.comp, .bool d.halt]) := ⟨_, rfl⟩
        have s0 : Sees (R2 t d) H0 := by rw [hH]; simp
        have n0 : T.length + 1 + 1 + 1 < H0.length := by rw [hH]; simp
        have b0 : 2 < H0.length := by rw [hH]; simp
        have q0 : H0[T.length + 1 + 1 + 1]? = some (.live [v, .list [] true, .list [] true, .list [] true, .list [] true, .list [] true, .list (List.take (t.out.length - d.out.toNat) (t.out.map (V.int .u8))) false, .int .i64 0, .int .i64 0, .int .i64 0, .int .i64 0, .int .i64 0, .int .i64 0, .bool d.comp, .bool d.halt]) := by rw [hH]; simp
        have z0 : H0[2]? = some (.live Z15) := by rw [hH]; simp
        have v0 : Has 1 (gho (T.length + 1 + 1 + 1) 2 H0) v ((d.mem.foldl patch t.mem).map (V.int .u8)) := by
          refine has_ac (b := 3) (ac_acc ?_)
          rw [hH]
          unfold gho
          simp
          exact acc_ext ha _
        have hdr : ∀ A B Q, xDraw p A B H0 Q → xDraw p A B ((.live (cellsOf (stV t)) :: .live (cellsOf (deV d)) :: .live Z15 :: (T ++ [.live Z15])).set (T.length + 1 + 1 + 1) (.live [v, .list [] true, .list [] true, .list [] true, .list [] true, .list [] true, .list (List.take (t.out.length - d.out.toNat) (t.out.map (V.int .u8))) false, .int .i64 0, .int .i64 0, .int .i64 0, .int .i64 0, .int .i64 0, .int .i64 0, .bool d.comp, .bool d.halt])) Q := fun A B Q h => by rw [← hH]; exact h
        refine hdr _ _ _ ?_
        clear hdr hH ha
        obtain ⟨m1, hm1⟩ : ∃ m, m = t.data.take d.dk.toNat := ⟨_, rfl⟩
        have ml1 : m1.length ≤ 100000 := by rw [hm1]; have := ok.l1.1; simp; omega
        have tl1 := ok.l1.2
        refine WDraw_see (R := R2 t d) (by kernel_rfl) s0 ?_
        simp -dsimp [-wAppend_list, -List.map_take, tk_map, ← hm1, h2, h3, h4, h7, h6, wFix_by, isInl, fillV, splice, wOpt, chunk]
        refine ⟨by omega, by omega, ?_⟩
        refine app_new (m := m1.map (V.int .i64)) (by simp) (by rw [hm1]; simp) (by simp) (by simp) (by decide) (by simp [capOk]; omega) fun w1 J1 a1 => ?_
        refine ⟨s0.trans (Sees.app _ _), ?_⟩
        simp -dsimp [-wAppend_list, h2, h3, h4, h7, h6, wFix_by, isInl, fillV, splice, wOpt, chunk]
        refine app_more (m := d.dt.map (V.int .i64)) a1 (by simp) (by simp) (by simp) (by simp) (by simp [capOk]; omega) fun v1 I1 a1 => ?_
        rw [← List.map_append] at a1
        refine ⟨s0.trans (Sees.app _ _), ?_⟩
        obtain ⟨x1, y1, u1⟩ := has_val (has_ac (H := H0 ++ I1) (b := H0.length) (by rw [List.drop_left]; exact a1))
        have p1 : (H0 ++ I1)[T.length + 1 + 1 + 1]? = some (.live [v, V.list [] true, V.list [] true, V.list [] true, V.list [] true, V.list [] true, V.list (List.take (t.out.length - d.out.toNat) (t.out.map (V.int .u8))) false, .int .i64 0, .int .i64 0, .int .i64 0, .int .i64 0, .int .i64 0, .int .i64 0, .bool d.comp, .bool d.halt]) := by rw [List.getElem?_append_left n0]; exact q0
        obtain ⟨H1, hH⟩ : ∃ H : List Ob, H = (H0 ++ I1).set (T.length + 1 + 1 + 1) (.live [v, v1, V.list [] true, V.list [] true, V.list [] true, V.list [] true, V.list (List.take (t.out.length - d.out.toNat) (t.out.map (V.int .u8))) false, .int .i64 0, .int .i64 0, .int .i64 0, .int .i64 0, .int .i64 0, .int .i64 0, .bool d.comp, .bool d.halt]) := ⟨_, rfl⟩
        have s1 : Sees (R2 t d) H1 := by rw [hH]; exact sees_set (s0.trans (Sees.app _ _)) (.inl (by simp))
        have n1 : T.length + 1 + 1 + 1 < H1.length := by rw [hH]; simp; omega
        have b1 : 2 < H1.length := by rw [hH]; simp; omega
        have q1 : H1[T.length + 1 + 1 + 1]? = some (.live [v, v1, V.list [] true, V.list [] true, V.list [] true, V.list [] true, V.list (List.take (t.out.length - d.out.toNat) (t.out.map (V.int .u8))) false, .int .i64 0, .int .i64 0, .int .i64 0, .int .i64 0, .int .i64 0, .int .i64 0, .bool d.comp, .bool d.halt]) := by rw [hH, List.getElem?_set_self (by simp; omega)]
        have z1 : H1[2]? = some (.live Z15) := by rw [hH, List.getElem?_set_ne (by omega), List.getElem?_append_left b0]; exact z0
        have g1_0 := has_next (J := I1) (x := .live [v, v1, V.list [] true, V.list [] true, V.list [] true, V.list [] true, V.list (List.take (t.out.length - d.out.toNat) (t.out.map (V.int .u8))) false, .int .i64 0, .int .i64 0, .int .i64 0, .int .i64 0, .int .i64 0, .int .i64 0, .bool d.comp, .bool d.halt]) n0 b0 v0
        rw [← hH] at g1_0
        have g1_1 := has_new (m := 2) (x := .live [v, v1, V.list [] true, V.list [] true, V.list [] true, V.list [] true, V.list (List.take (t.out.length - d.out.toNat) (t.out.map (V.int .u8))) false, .int .i64 0, .int .i64 0, .int .i64 0, .int .i64 0, .int .i64 0, .int .i64 0, .bool d.comp, .bool d.halt]) n0 b0 a1
        rw [← hH] at g1_1
        have hdr : ∀ A B Q, xDraw p A B H1 Q → xDraw p A B ((H0 ++ I1).set (T.length + 1 + 1 + 1) (.live [v, v1, V.list [] true, V.list [] true, V.list [] true, V.list [] true, V.list (List.take (t.out.length - d.out.toNat) (t.out.map (V.int .u8))) false, .int .i64 0, .int .i64 0, .int .i64 0, .int .i64 0, .int .i64 0, .int .i64 0, .bool d.comp, .bool d.halt])) Q := fun A B Q h => by rw [← hH]; exact h
        simp -dsimp [-wAppend_list, h2, h3, h4, h7, h6, wMut_at p1, x1, y1, u1, sees_set (s0.trans (Sees.app _ I1)) (.inl (show (R2 t d)[T.length + 1 + 1 + 1]? = none by simp))]
        refine hdr _ _ _ ?_
        clear hdr hH
        obtain ⟨m2, hm2⟩ : ∃ m, m = t.ret.take d.rk.toNat := ⟨_, rfl⟩
        have ml2 : m2.length ≤ 100000 := by rw [hm2]; have := ok.l2.1; simp; omega
        have tl2 := ok.l2.2
        refine WDraw_see (R := R2 t d) (by kernel_rfl) s1 ?_
        simp -dsimp [-wAppend_list, -List.map_take, tk_map, ← hm2, h2, h3, h4, h7, h6, wFix_by, isInl, fillV, splice, wOpt, chunk]
        refine ⟨by omega, by omega, ?_⟩
        refine app_new (m := m2.map (sloV)) (by simp) (by rw [hm2]; simp) (by simp) (by simp) (by decide) (by simp [capOk]; omega) fun w2 J2 a2 => ?_
        refine ⟨s1.trans (Sees.app _ _), ?_⟩
        simp -dsimp [-wAppend_list, h2, h3, h4, h7, h6, wFix_by, isInl, fillV, splice, wOpt, chunk]
        refine app_more (m := d.rt.map (sloV)) a2 (by simp) (by simp) (by simp) (by simp) (by simp [capOk]; omega) fun v2 I2 a2 => ?_
        rw [← List.map_append] at a2
        refine ⟨s1.trans (Sees.app _ _), ?_⟩
        obtain ⟨x2, y2, u2⟩ := has_val (has_ac (H := H1 ++ I2) (b := H1.length) (by rw [List.drop_left]; exact a2))
        have p2 : (H1 ++ I2)[T.length + 1 + 1 + 1]? = some (.live [v, v1, V.list [] true, V.list [] true, V.list [] true, V.list [] true, V.list (List.take (t.out.length - d.out.toNat) (t.out.map (V.int .u8))) false, .int .i64 0, .int .i64 0, .int .i64 0, .int .i64 0, .int .i64 0, .int .i64 0, .bool d.comp, .bool d.halt]) := by rw [List.getElem?_append_left n1]; exact q1
        obtain ⟨H2, hH⟩ : ∃ H : List Ob, H = (H1 ++ I2).set (T.length + 1 + 1 + 1) (.live [v, v1, v2, V.list [] true, V.list [] true, V.list [] true, V.list (List.take (t.out.length - d.out.toNat) (t.out.map (V.int .u8))) false, .int .i64 0, .int .i64 0, .int .i64 0, .int .i64 0, .int .i64 0, .int .i64 0, .bool d.comp, .bool d.halt]) := ⟨_, rfl⟩
        have s2 : Sees (R2 t d) H2 := by rw [hH]; exact sees_set (s1.trans (Sees.app _ _)) (.inl (by simp))
        have n2 : T.length + 1 + 1 + 1 < H2.length := by rw [hH]; simp; omega
        have b2 : 2 < H2.length := by rw [hH]; simp; omega
        have q2 : H2[T.length + 1 + 1 + 1]? = some (.live [v, v1, v2, V.list [] true, V.list [] true, V.list [] true, V.list (List.take (t.out.length - d.out.toNat) (t.out.map (V.int .u8))) false, .int .i64 0, .int .i64 0, .int .i64 0, .int .i64 0, .int .i64 0, .int .i64 0, .bool d.comp, .bool d.halt]) := by rw [hH, List.getElem?_set_self (by simp; omega)]
        have z2 : H2[2]? = some (.live Z15) := by rw [hH, List.getElem?_set_ne (by omega), List.getElem?_append_left b1]; exact z1
        have g2_0 := has_next (J := I2) (x := .live [v, v1, v2, V.list [] true, V.list [] true, V.list [] true, V.list (List.take (t.out.length - d.out.toNat) (t.out.map (V.int .u8))) false, .int .i64 0, .int .i64 0, .int .i64 0, .int .i64 0, .int .i64 0, .int .i64 0, .bool d.comp, .bool d.halt]) n1 b1 g1_0
        rw [← hH] at g2_0
        have g2_1 := has_next (J := I2) (x := .live [v, v1, v2, V.list [] true, V.list [] true, V.list [] true, V.list (List.take (t.out.length - d.out.toNat) (t.out.map (V.int .u8))) false, .int .i64 0, .int .i64 0, .int .i64 0, .int .i64 0, .int .i64 0, .int .i64 0, .bool d.comp, .bool d.halt]) n1 b1 g1_1
        rw [← hH] at g2_1
        have g2_2 := has_new (m := 2) (x := .live [v, v1, v2, V.list [] true, V.list [] true, V.list [] true, V.list (List.take (t.out.length - d.out.toNat) (t.out.map (V.int .u8))) false, .int .i64 0, .int .i64 0, .int .i64 0, .int .i64 0, .int .i64 0, .int .i64 0, .bool d.comp, .bool d.halt]) n1 b1 a2
        rw [← hH] at g2_2
        have hdr : ∀ A B Q, xDraw p A B H2 Q → xDraw p A B ((H1 ++ I2).set (T.length + 1 + 1 + 1) (.live [v, v1, v2, V.list [] true, V.list [] true, V.list [] true, V.list (List.take (t.out.length - d.out.toNat) (t.out.map (V.int .u8))) false, .int .i64 0, .int .i64 0, .int .i64 0, .int .i64 0, .int .i64 0, .int .i64 0, .bool d.comp, .bool d.halt])) Q := fun A B Q h => by rw [← hH]; exact h
        simp -dsimp [-wAppend_list, h2, h3, h4, h7, h6, wMut_at p2, x2, y2, u2, sees_set (s1.trans (Sees.app _ I2)) (.inl (show (R2 t d)[T.length + 1 + 1 + 1]? = none by simp))]
        refine hdr _ _ _ ?_
        clear hdr hH
        obtain ⟨m3, hm3⟩ : ∃ m, m = t.ctl.take d.ck.toNat := ⟨_, rfl⟩
        have ml3 : m3.length ≤ 100000 := by rw [hm3]; have := ok.l3.1; simp; omega
        have tl3 := ok.l3.2
        refine WDraw_see (R := R2 t d) (by kernel_rfl) s2 ?_
        simp -dsimp [-wAppend_list, -List.map_take, tk_map, ← hm3, h2, h3, h4, h7, h6, wFix_by, isInl, fillV, splice, wOpt, chunk]
        refine ⟨by omega, by omega, ?_⟩
        refine app_new (m := m3.map (V.int .i64)) (by simp) (by rw [hm3]; simp) (by simp) (by simp) (by decide) (by simp [capOk]; omega) fun w3 J3 a3 => ?_
        refine ⟨s2.trans (Sees.app _ _), ?_⟩
        simp -dsimp [-wAppend_list, h2, h3, h4, h7, h6, wFix_by, isInl, fillV, splice, wOpt, chunk]
        refine app_more (m := d.ct.map (V.int .i64)) a3 (by simp) (by simp) (by simp) (by simp) (by simp [capOk]; omega) fun v3 I3 a3 => ?_
        rw [← List.map_append] at a3
        refine ⟨s2.trans (Sees.app _ _), ?_⟩
        obtain ⟨x3, y3, u3⟩ := has_val (has_ac (H := H2 ++ I3) (b := H2.length) (by rw [List.drop_left]; exact a3))
        have p3 : (H2 ++ I3)[T.length + 1 + 1 + 1]? = some (.live [v, v1, v2, V.list [] true, V.list [] true, V.list [] true, V.list (List.take (t.out.length - d.out.toNat) (t.out.map (V.int .u8))) false, .int .i64 0, .int .i64 0, .int .i64 0, .int .i64 0, .int .i64 0, .int .i64 0, .bool d.comp, .bool d.halt]) := by rw [List.getElem?_append_left n2]; exact q2
        obtain ⟨H3, hH⟩ : ∃ H : List Ob, H = (H2 ++ I3).set (T.length + 1 + 1 + 1) (.live [v, v1, v2, v3, V.list [] true, V.list [] true, V.list (List.take (t.out.length - d.out.toNat) (t.out.map (V.int .u8))) false, .int .i64 0, .int .i64 0, .int .i64 0, .int .i64 0, .int .i64 0, .int .i64 0, .bool d.comp, .bool d.halt]) := ⟨_, rfl⟩
        have s3 : Sees (R2 t d) H3 := by rw [hH]; exact sees_set (s2.trans (Sees.app _ _)) (.inl (by simp))
        have n3 : T.length + 1 + 1 + 1 < H3.length := by rw [hH]; simp; omega
        have b3 : 2 < H3.length := by rw [hH]; simp; omega
        have q3 : H3[T.length + 1 + 1 + 1]? = some (.live [v, v1, v2, v3, V.list [] true, V.list [] true, V.list (List.take (t.out.length - d.out.toNat) (t.out.map (V.int .u8))) false, .int .i64 0, .int .i64 0, .int .i64 0, .int .i64 0, .int .i64 0, .int .i64 0, .bool d.comp, .bool d.halt]) := by rw [hH, List.getElem?_set_self (by simp; omega)]
        have z3 : H3[2]? = some (.live Z15) := by rw [hH, List.getElem?_set_ne (by omega), List.getElem?_append_left b2]; exact z2
        have g3_0 := has_next (J := I3) (x := .live [v, v1, v2, v3, V.list [] true, V.list [] true, V.list (List.take (t.out.length - d.out.toNat) (t.out.map (V.int .u8))) false, .int .i64 0, .int .i64 0, .int .i64 0, .int .i64 0, .int .i64 0, .int .i64 0, .bool d.comp, .bool d.halt]) n2 b2 g2_0
        rw [← hH] at g3_0
        have g3_1 := has_next (J := I3) (x := .live [v, v1, v2, v3, V.list [] true, V.list [] true, V.list (List.take (t.out.length - d.out.toNat) (t.out.map (V.int .u8))) false, .int .i64 0, .int .i64 0, .int .i64 0, .int .i64 0, .int .i64 0, .int .i64 0, .bool d.comp, .bool d.halt]) n2 b2 g2_1
        rw [← hH] at g3_1
        have g3_2 := has_next (J := I3) (x := .live [v, v1, v2, v3, V.list [] true, V.list [] true, V.list (List.take (t.out.length - d.out.toNat) (t.out.map (V.int .u8))) false, .int .i64 0, .int .i64 0, .int .i64 0, .int .i64 0, .int .i64 0, .int .i64 0, .bool d.comp, .bool d.halt]) n2 b2 g2_2
        rw [← hH] at g3_2
        have g3_3 := has_new (m := 2) (x := .live [v, v1, v2, v3, V.list [] true, V.list [] true, V.list (List.take (t.out.length - d.out.toNat) (t.out.map (V.int .u8))) false, .int .i64 0, .int .i64 0, .int .i64 0, .int .i64 0, .int .i64 0, .int .i64 0, .bool d.comp, .bool d.halt]) n2 b2 a3
        rw [← hH] at g3_3
        have hdr : ∀ A B Q, xDraw p A B H3 Q → xDraw p A B ((H2 ++ I3).set (T.length + 1 + 1 + 1) (.live [v, v1, v2, v3, V.list [] true, V.list [] true, V.list (List.take (t.out.length - d.out.toNat) (t.out.map (V.int .u8))) false, .int .i64 0, .int .i64 0, .int .i64 0, .int .i64 0, .int .i64 0, .int .i64 0, .bool d.comp, .bool d.halt])) Q := fun A B Q h => by rw [← hH]; exact h
        simp -dsimp [-wAppend_list, h2, h3, h4, h7, h6, wMut_at p3, x3, y3, u3, sees_set (s2.trans (Sees.app _ I3)) (.inl (show (R2 t d)[T.length + 1 + 1 + 1]? = none by simp))]
        refine hdr _ _ _ ?_
        clear hdr hH
        obtain ⟨m4, hm4⟩ : ∃ m, m = t.words.take d.wk.toNat := ⟨_, rfl⟩
        have ml4 : m4.length ≤ 100000 := by rw [hm4]; have := ok.l4.1; simp; omega
        have tl4 := ok.l4.2
        refine WDraw_see (R := R2 t d) (by kernel_rfl) s3 ?_
        simp -dsimp [-wAppend_list, -List.map_take, tk_map, ← hm4, h2, h3, h4, h7, h6, wFix_by, isInl, fillV, splice, wOpt, chunk]
        refine ⟨by omega, by omega, ?_⟩
        refine app_new (m := m4.map (worV)) (by simp) (by rw [hm4]; simp) (by simp) (by simp) (by decide) (by simp [capOk]; omega) fun w4 J4 a4 => ?_
        refine ⟨s3.trans (Sees.app _ _), ?_⟩
        simp -dsimp [-wAppend_list, h2, h3, h4, h7, h6, wFix_by, isInl, fillV, splice, wOpt, chunk]
        refine app_more (m := d.wt.map (worV)) a4 (by simp) (by simp) (by simp) (by simp) (by simp [capOk]; omega) fun v4 I4 a4 => ?_
        rw [← List.map_append] at a4
        refine ⟨s3.trans (Sees.app _ _), ?_⟩
        obtain ⟨x4, y4, u4⟩ := has_val (has_ac (H := H3 ++ I4) (b := H3.length) (by rw [List.drop_left]; exact a4))
        have p4 : (H3 ++ I4)[T.length + 1 + 1 + 1]? = some (.live [v, v1, v2, v3, V.list [] true, V.list [] true, V.list (List.take (t.out.length - d.out.toNat) (t.out.map (V.int .u8))) false, .int .i64 0, .int .i64 0, .int .i64 0, .int .i64 0, .int .i64 0, .int .i64 0, .bool d.comp, .bool d.halt]) := by rw [List.getElem?_append_left n3]; exact q3
        obtain ⟨H4, hH⟩ : ∃ H : List Ob, H = (H3 ++ I4).set (T.length + 1 + 1 + 1) (.live [v, v1, v2, v3, v4, V.list [] true, V.list (List.take (t.out.length - d.out.toNat) (t.out.map (V.int .u8))) false, .int .i64 0, .int .i64 0, .int .i64 0, .int .i64 0, .int .i64 0, .int .i64 0, .bool d.comp, .bool d.halt]) := ⟨_, rfl⟩
        have s4 : Sees (R2 t d) H4 := by rw [hH]; exact sees_set (s3.trans (Sees.app _ _)) (.inl (by simp))
        have n4 : T.length + 1 + 1 + 1 < H4.length := by rw [hH]; simp; omega
        have b4 : 2 < H4.length := by rw [hH]; simp; omega
        have q4 : H4[T.length + 1 + 1 + 1]? = some (.live [v, v1, v2, v3, v4, V.list [] true, V.list (List.take (t.out.length - d.out.toNat) (t.out.map (V.int .u8))) false, .int .i64 0, .int .i64 0, .int .i64 0, .int .i64 0, .int .i64 0, .int .i64 0, .bool d.comp, .bool d.halt]) := by rw [hH, List.getElem?_set_self (by simp; omega)]
        have z4 : H4[2]? = some (.live Z15) := by rw [hH, List.getElem?_set_ne (by omega), List.getElem?_append_left b3]; exact z3
        have g4_0 := has_next (J := I4) (x := .live [v, v1, v2, v3, v4, V.list [] true, V.list (List.take (t.out.length - d.out.toNat) (t.out.map (V.int .u8))) false, .int .i64 0, .int .i64 0, .int .i64 0, .int .i64 0, .int .i64 0, .int .i64 0, .bool d.comp, .bool d.halt]) n3 b3 g3_0
        rw [← hH] at g4_0
        have g4_1 := has_next (J := I4) (x := .live [v, v1, v2, v3, v4, V.list [] true, V.list (List.take (t.out.length - d.out.toNat) (t.out.map (V.int .u8))) false, .int .i64 0, .int .i64 0, .int .i64 0, .int .i64 0, .int .i64 0, .int .i64 0, .bool d.comp, .bool d.halt]) n3 b3 g3_1
        rw [← hH] at g4_1
        have g4_2 := has_next (J := I4) (x := .live [v, v1, v2, v3, v4, V.list [] true, V.list (List.take (t.out.length - d.out.toNat) (t.out.map (V.int .u8))) false, .int .i64 0, .int .i64 0, .int .i64 0, .int .i64 0, .int .i64 0, .int .i64 0, .bool d.comp, .bool d.halt]) n3 b3 g3_2
        rw [← hH] at g4_2
        have g4_3 := has_next (J := I4) (x := .live [v, v1, v2, v3, v4, V.list [] true, V.list (List.take (t.out.length - d.out.toNat) (t.out.map (V.int .u8))) false, .int .i64 0, .int .i64 0, .int .i64 0, .int .i64 0, .int .i64 0, .int .i64 0, .bool d.comp, .bool d.halt]) n3 b3 g3_3
        rw [← hH] at g4_3
        have g4_4 := has_new (m := 2) (x := .live [v, v1, v2, v3, v4, V.list [] true, V.list (List.take (t.out.length - d.out.toNat) (t.out.map (V.int .u8))) false, .int .i64 0, .int .i64 0, .int .i64 0, .int .i64 0, .int .i64 0, .int .i64 0, .bool d.comp, .bool d.halt]) n3 b3 a4
        rw [← hH] at g4_4
        have hdr : ∀ A B Q, xDraw p A B H4 Q → xDraw p A B ((H3 ++ I4).set (T.length + 1 + 1 + 1) (.live [v, v1, v2, v3, v4, V.list [] true, V.list (List.take (t.out.length - d.out.toNat) (t.out.map (V.int .u8))) false, .int .i64 0, .int .i64 0, .int .i64 0, .int .i64 0, .int .i64 0, .int .i64 0, .bool d.comp, .bool d.halt])) Q := fun A B Q h => by rw [← hH]; exact h
        simp -dsimp [-wAppend_list, h2, h3, h4, h7, h6, wMut_at p4, x4, y4, u4, sees_set (s3.trans (Sees.app _ I4)) (.inl (show (R2 t d)[T.length + 1 + 1 + 1]? = none by simp))]
        refine hdr _ _ _ ?_
        clear hdr hH
        obtain ⟨m5, hm5⟩ : ∃ m, m = t.spots.take d.sk.toNat := ⟨_, rfl⟩
        have ml5 : m5.length ≤ 100000 := by rw [hm5]; have := ok.l5.1; simp; omega
        have tl5 := ok.l5.2
        refine WDraw_see (R := R2 t d) (by kernel_rfl) s4 ?_
        simp -dsimp [-wAppend_list, -List.map_take, tk_map, ← hm5, h2, h3, h4, h7, h6, wFix_by, isInl, fillV, splice, wOpt, chunk]
        refine ⟨by omega, by omega, ?_⟩
        refine app_new (m := m5.map (spoV)) (by simp) (by rw [hm5]; simp) (by simp) (by simp) (by decide) (by simp [capOk]; omega) fun w5 J5 a5 => ?_
        refine ⟨s4.trans (Sees.app _ _), ?_⟩
        simp -dsimp [-wAppend_list, h2, h3, h4, h7, h6, wFix_by, isInl, fillV, splice, wOpt, chunk]
        refine app_more (m := d.st.map (spoV)) a5 (by simp) (by simp) (by simp) (by simp) (by simp [capOk]; omega) fun v5 I5 a5 => ?_
        rw [← List.map_append] at a5
        refine ⟨s4.trans (Sees.app _ _), ?_⟩
        obtain ⟨x5, y5, u5⟩ := has_val (has_ac (H := H4 ++ I5) (b := H4.length) (by rw [List.drop_left]; exact a5))
        have p5 : (H4 ++ I5)[T.length + 1 + 1 + 1]? = some (.live [v, v1, v2, v3, v4, V.list [] true, V.list (List.take (t.out.length - d.out.toNat) (t.out.map (V.int .u8))) false, .int .i64 0, .int .i64 0, .int .i64 0, .int .i64 0, .int .i64 0, .int .i64 0, .bool d.comp, .bool d.halt]) := by rw [List.getElem?_append_left n4]; exact q4
        obtain ⟨H5, hH⟩ : ∃ H : List Ob, H = (H4 ++ I5).set (T.length + 1 + 1 + 1) (.live [v, v1, v2, v3, v4, v5, V.list (List.take (t.out.length - d.out.toNat) (t.out.map (V.int .u8))) false, .int .i64 0, .int .i64 0, .int .i64 0, .int .i64 0, .int .i64 0, .int .i64 0, .bool d.comp, .bool d.halt]) := ⟨_, rfl⟩
        have s5 : Sees (R2 t d) H5 := by rw [hH]; exact sees_set (s4.trans (Sees.app _ _)) (.inl (by simp))
        have n5 : T.length + 1 + 1 + 1 < H5.length := by rw [hH]; simp; omega
        have b5 : 2 < H5.length := by rw [hH]; simp; omega
        have q5 : H5[T.length + 1 + 1 + 1]? = some (.live [v, v1, v2, v3, v4, v5, V.list (List.take (t.out.length - d.out.toNat) (t.out.map (V.int .u8))) false, .int .i64 0, .int .i64 0, .int .i64 0, .int .i64 0, .int .i64 0, .int .i64 0, .bool d.comp, .bool d.halt]) := by rw [hH, List.getElem?_set_self (by simp; omega)]
        have z5 : H5[2]? = some (.live Z15) := by rw [hH, List.getElem?_set_ne (by omega), List.getElem?_append_left b4]; exact z4
        have g5_0 := has_next (J := I5) (x := .live [v, v1, v2, v3, v4, v5, V.list (List.take (t.out.length - d.out.toNat) (t.out.map (V.int .u8))) false, .int .i64 0, .int .i64 0, .int .i64 0, .int .i64 0, .int .i64 0, .int .i64 0, .bool d.comp, .bool d.halt]) n4 b4 g4_0
        rw [← hH] at g5_0
        have g5_1 := has_next (J := I5) (x := .live [v, v1, v2, v3, v4, v5, V.list (List.take (t.out.length - d.out.toNat) (t.out.map (V.int .u8))) false, .int .i64 0, .int .i64 0, .int .i64 0, .int .i64 0, .int .i64 0, .int .i64 0, .bool d.comp, .bool d.halt]) n4 b4 g4_1
        rw [← hH] at g5_1
        have g5_2 := has_next (J := I5) (x := .live [v, v1, v2, v3, v4, v5, V.list (List.take (t.out.length - d.out.toNat) (t.out.map (V.int .u8))) false, .int .i64 0, .int .i64 0, .int .i64 0, .int .i64 0, .int .i64 0, .int .i64 0, .bool d.comp, .bool d.halt]) n4 b4 g4_2
        rw [← hH] at g5_2
        have g5_3 := has_next (J := I5) (x := .live [v, v1, v2, v3, v4, v5, V.list (List.take (t.out.length - d.out.toNat) (t.out.map (V.int .u8))) false, .int .i64 0, .int .i64 0, .int .i64 0, .int .i64 0, .int .i64 0, .int .i64 0, .bool d.comp, .bool d.halt]) n4 b4 g4_3
        rw [← hH] at g5_3
        have g5_4 := has_next (J := I5) (x := .live [v, v1, v2, v3, v4, v5, V.list (List.take (t.out.length - d.out.toNat) (t.out.map (V.int .u8))) false, .int .i64 0, .int .i64 0, .int .i64 0, .int .i64 0, .int .i64 0, .int .i64 0, .bool d.comp, .bool d.halt]) n4 b4 g4_4
        rw [← hH] at g5_4
        have g5_5 := has_new (m := 2) (x := .live [v, v1, v2, v3, v4, v5, V.list (List.take (t.out.length - d.out.toNat) (t.out.map (V.int .u8))) false, .int .i64 0, .int .i64 0, .int .i64 0, .int .i64 0, .int .i64 0, .int .i64 0, .bool d.comp, .bool d.halt]) n4 b4 a5
        rw [← hH] at g5_5
        have hne1 : T.length + 1 + 1 + 1 ≠ 1 := by omega
        have hne2 : T.length + 1 + 1 + 1 ≠ 2 := by omega
        have nX : T.length + 1 + 1 + 1 < (H4 ++ I5).length := by simp; omega
        have bX : ∀ x, 2 < ((H4 ++ I5).set (T.length + 1 + 1 + 1) x).length := fun x => by simp; omega
        have zX : (H4 ++ I5)[2]? = some (.live Z15) := by rw [List.getElem?_append_left b4]; exact z4
        have r1 : ∀ x (K : List V → Prop), wLive ((H4 ++ I5).set (T.length + 1 + 1 + 1) x) 1 K = K (cellsOf (deV d)) := fun x K => by
          rw [wLive_ne hne1]; exact wLive_sees (s4.trans (Sees.app _ I5)) (show (R2 t d)[1]? = some (.live (cellsOf (deV d))) from rfl)
        have r2 : ∀ l (K : List V → Prop), wMut ((H4 ++ I5).set (T.length + 1 + 1 + 1) (.live l)) (T.length + 1 + 1 + 1) K = K l := fun l K => wMut_eq nX
        have r3 : ∀ l (K : List V → Prop), wLive ((H4 ++ I5).set (T.length + 1 + 1 + 1) (.live l)) (T.length + 1 + 1 + 1) K = K l := fun l K => wLive_eq nX
        have r4 : ∀ x (K : List V → Prop), wMut ((H4 ++ I5).set (T.length + 1 + 1 + 1) x) 2 K = K Z15 := fun x K => by
          rw [wMut_ne hne2]; exact wMut_at zX
        have r5 : ∀ x l (K : List V → Prop), wLive (((H4 ++ I5).set (T.length + 1 + 1 + 1) x).set 2 (.live l)) 2 K = K l := fun x l K => wLive_eq (bX x)
        simp -dsimp [-wAppend_list, h2, h3, h4, h7, h6, wMut_at p5, x5, y5, u5, sees_set (s4.trans (Sees.app _ I5)) (.inl (show (R2 t d)[T.length + 1 + 1 + 1]? = none by simp)), r1, r2, r3, r4, r5, u1, u2, u3, u4, uv', Z15, wFix_by, isInl]
        rw [hH, gho_set] at g5_0
        have f0 := has_fin (x := .live [v, v1, v2, v3, v4, v5, V.list (List.take (t.out.length - d.out.toNat) (t.out.map (V.int .u8))) false, .int .i64 d.r0, .int .i64 d.r1, .int .i64 d.r2, .int .i64 d.r3, .int .i64 d.r4, .int .i64 d.r5, .bool d.comp, .bool d.halt]) (y := .live [v, v1, v2, v3, v4, v5, V.list (List.take (t.out.length - d.out.toNat) (t.out.map (V.int .u8))) false, .int .i64 d.r0, .int .i64 d.r1, .int .i64 d.r2, .int .i64 d.r3, .int .i64 d.r4, .int .i64 d.r5, .bool d.comp, .bool d.halt]) g5_0
        rw [hH, gho_set] at g5_1
        have f1 := has_fin (x := .live [v, v1, v2, v3, v4, v5, V.list (List.take (t.out.length - d.out.toNat) (t.out.map (V.int .u8))) false, .int .i64 d.r0, .int .i64 d.r1, .int .i64 d.r2, .int .i64 d.r3, .int .i64 d.r4, .int .i64 d.r5, .bool d.comp, .bool d.halt]) (y := .live [v, v1, v2, v3, v4, v5, V.list (List.take (t.out.length - d.out.toNat) (t.out.map (V.int .u8))) false, .int .i64 d.r0, .int .i64 d.r1, .int .i64 d.r2, .int .i64 d.r3, .int .i64 d.r4, .int .i64 d.r5, .bool d.comp, .bool d.halt]) g5_1
        rw [hH, gho_set] at g5_2
        have f2 := has_fin (x := .live [v, v1, v2, v3, v4, v5, V.list (List.take (t.out.length - d.out.toNat) (t.out.map (V.int .u8))) false, .int .i64 d.r0, .int .i64 d.r1, .int .i64 d.r2, .int .i64 d.r3, .int .i64 d.r4, .int .i64 d.r5, .bool d.comp, .bool d.halt]) (y := .live [v, v1, v2, v3, v4, v5, V.list (List.take (t.out.length - d.out.toNat) (t.out.map (V.int .u8))) false, .int .i64 d.r0, .int .i64 d.r1, .int .i64 d.r2, .int .i64 d.r3, .int .i64 d.r4, .int .i64 d.r5, .bool d.comp, .bool d.halt]) g5_2
        rw [hH, gho_set] at g5_3
        have f3 := has_fin (x := .live [v, v1, v2, v3, v4, v5, V.list (List.take (t.out.length - d.out.toNat) (t.out.map (V.int .u8))) false, .int .i64 d.r0, .int .i64 d.r1, .int .i64 d.r2, .int .i64 d.r3, .int .i64 d.r4, .int .i64 d.r5, .bool d.comp, .bool d.halt]) (y := .live [v, v1, v2, v3, v4, v5, V.list (List.take (t.out.length - d.out.toNat) (t.out.map (V.int .u8))) false, .int .i64 d.r0, .int .i64 d.r1, .int .i64 d.r2, .int .i64 d.r3, .int .i64 d.r4, .int .i64 d.r5, .bool d.comp, .bool d.halt]) g5_3
        rw [hH, gho_set] at g5_4
        have f4 := has_fin (x := .live [v, v1, v2, v3, v4, v5, V.list (List.take (t.out.length - d.out.toNat) (t.out.map (V.int .u8))) false, .int .i64 d.r0, .int .i64 d.r1, .int .i64 d.r2, .int .i64 d.r3, .int .i64 d.r4, .int .i64 d.r5, .bool d.comp, .bool d.halt]) (y := .live [v, v1, v2, v3, v4, v5, V.list (List.take (t.out.length - d.out.toNat) (t.out.map (V.int .u8))) false, .int .i64 d.r0, .int .i64 d.r1, .int .i64 d.r2, .int .i64 d.r3, .int .i64 d.r4, .int .i64 d.r5, .bool d.comp, .bool d.halt]) g5_4
        rw [hH, gho_set] at g5_5
        have f5 := has_fin (x := .live [v, v1, v2, v3, v4, v5, V.list (List.take (t.out.length - d.out.toNat) (t.out.map (V.int .u8))) false, .int .i64 d.r0, .int .i64 d.r1, .int .i64 d.r2, .int .i64 d.r3, .int .i64 d.r4, .int .i64 d.r5, .bool d.comp, .bool d.halt]) (y := .live [v, v1, v2, v3, v4, v5, V.list (List.take (t.out.length - d.out.toNat) (t.out.map (V.int .u8))) false, .int .i64 d.r0, .int .i64 d.r1, .int .i64 d.r2, .int .i64 d.r3, .int .i64 d.r4, .int .i64 d.r5, .bool d.comp, .bool d.halt]) g5_5
        refine frz_has f0 (by simp) (by simp) (.inl ⟨rfl, by simp⟩) fun F1 t1 _ => ?_
        simp -dsimp [-List.map_take, tk_map]
        refine frz_has (has_see t1 f1) (by simp) (by simp) (.inl ⟨rfl, by simp⟩) fun F2 t2 _ => ?_
        have t2 := t1.trans t2
        simp -dsimp [-List.map_take, tk_map]
        refine frz_has (has_see t2 f2) (by simp) (by simp) (.inr ⟨by decide, fun x hx => by obtain ⟨a, _, rfl⟩ := List.mem_map.1 hx; exact ⟨_, rfl⟩⟩) fun F3 t3 _ => ?_
        have t3 := t2.trans t3
        simp -dsimp [-List.map_take, tk_map]
        refine frz_has (has_see t3 f3) (by simp) (by simp) (.inl ⟨rfl, by simp⟩) fun F4 t4 _ => ?_
        have t4 := t3.trans t4
        simp -dsimp [-List.map_take, tk_map]
        refine frz_has (has_see t4 f4) (by simp) (by simp) (.inr ⟨by decide, fun x hx => by obtain ⟨a, _, rfl⟩ := List.mem_map.1 hx; exact ⟨_, rfl⟩⟩) fun F5 t5 _ => ?_
        have t5 := t4.trans t5
        simp -dsimp [-List.map_take, tk_map]
        refine frz_has (has_see t5 f5) (by simp) (by simp) (.inr ⟨by decide, fun x hx => by obtain ⟨a, _, rfl⟩ := List.mem_map.1 hx; exact ⟨_, rfl⟩⟩) fun F6 t6 _ => ?_
        have t6 := t5.trans t6
        simp -dsimp [-List.map_take, tk_map]
        simp only [← List.map_append, hm1, hm2, hm3, hm4, hm5]
        rfl
end Fz.D
set_option maxRecDepth 100000
namespace Fz.D
open Go
/-- A list's begin and what stands behind it, or nothing. -/
def jn {α : Type} (l : List α) (keep : Int) (tail : List α) : List α := if wi keep l.length = true then l.take keep.toNat ++ tail else []
theorem jn_ok {α : Type} {l : List α} {keep : Int} {tail : List α} (h : wi keep l.length = true) : jn l keep tail = l.take keep.toNat ++ tail := if_pos h
theorem jn_int {l tail : List Int} {keep : Int} (h : l.length ≤ 100000 ∧ tail.length ≤ 100000) : Comes p 50 [inV l, .int .i64 keep, inV tail] (.tuple [inV (jn l keep tail), .bool (wi keep l.length)]) := by
  have := joined_int (l := l) (tail := tail) (keep := keep) (by omega) (by omega)
  by_cases hc : 0 ≤ keep ∧ keep ≤ l.length
  · have hw : wi keep l.length = true := by unfold wi; exact decide_eq_true hc
    rw [if_pos hc] at this
    rw [jn_ok hw, hw]; exact this
  · have hw : wi keep l.length = false := by unfold wi; exact decide_eq_false hc
    rw [if_neg hc] at this
    unfold jn
    rw [hw]; exact this
theorem jn_slo {l tail : List Slo} {keep : Int} (h : l.length ≤ 100000 ∧ tail.length ≤ 100000) : Comes p 51 [slosV l, .int .i64 keep, slosV tail] (.tuple [slosV (jn l keep tail), .bool (wi keep l.length)]) := by
  have := joined_slo (l := l) (tail := tail) (keep := keep) (by omega) (by omega)
  by_cases hc : 0 ≤ keep ∧ keep ≤ l.length
  · have hw : wi keep l.length = true := by unfold wi; exact decide_eq_true hc
    rw [if_pos hc] at this
    rw [jn_ok hw, hw]; exact this
  · have hw : wi keep l.length = false := by unfold wi; exact decide_eq_false hc
    rw [if_neg hc] at this
    unfold jn
    rw [hw]; exact this
theorem jn_wor {l tail : List Wor} {keep : Int} (h : l.length ≤ 100000 ∧ tail.length ≤ 100000) : Comes p 52 [worsV l, .int .i64 keep, worsV tail] (.tuple [worsV (jn l keep tail), .bool (wi keep l.length)]) := by
  have := joined_wor (l := l) (tail := tail) (keep := keep) (by omega) (by omega)
  by_cases hc : 0 ≤ keep ∧ keep ≤ l.length
  · have hw : wi keep l.length = true := by unfold wi; exact decide_eq_true hc
    rw [if_pos hc] at this
    rw [jn_ok hw, hw]; exact this
  · have hw : wi keep l.length = false := by unfold wi; exact decide_eq_false hc
    rw [if_neg hc] at this
    unfold jn
    rw [hw]; exact this
theorem jn_spo {l tail : List Spo} {keep : Int} (h : l.length ≤ 100000 ∧ tail.length ≤ 100000) : Comes p 53 [sposV l, .int .i64 keep, sposV tail] (.tuple [sposV (jn l keep tail), .bool (wi keep l.length)]) := by
  have := joined_spo (l := l) (tail := tail) (keep := keep) (by omega) (by omega)
  by_cases hc : 0 ≤ keep ∧ keep ≤ l.length
  · have hw : wi keep l.length = true := by unfold wi; exact decide_eq_true hc
    rw [if_pos hc] at this
    rw [jn_ok hw, hw]; exact this
  · have hw : wi keep l.length = false := by unfold wi; exact decide_eq_false hc
    rw [if_neg hc] at this
    unfold jn
    rw [hw]; exact this
/-- The heap in Back's loop. -/
def BS (t : St) (d : De) (v : V) : List V := [v, inV (jn t.data d.dk d.dt), slosV (jn t.ret d.rk d.rt), inV (jn t.ctl d.ck d.ct), worsV (jn t.words d.wk d.wt), sposV (jn t.spots d.sk d.st), byV t.out, .int .i64 t.ip, .int .i64 t.here, .int .i64 t.at_, .int .i64 t.tok, .int .i64 t.in_, .int .i64 t.err, .bool t.comp, .bool t.halt]
def BH (t : St) (d : De) (v : V) (T : List Ob) : List Ob := .live (cellsOf (stV t)) :: .live (cellsOf (deV d)) :: .live Z15 :: .live [.bool true, .bool true, .bool true, .bool true, .bool true, .bool true] :: .live (BS t d v) :: T
theorem applied_s {t : St} {d : De} (ok : BkOk t d) : Comes p 17 [stV t, deV d] (backV t d) := by
  have tm := ok.tm
  have dm := ok.dm
  have c1 := jn_int (keep := d.dk) ok.l1
  have c2 := jn_slo (keep := d.rk) ok.l2
  have c3 := jn_int (keep := d.ck) ok.l3
  have c4 := jn_wor (keep := d.wk) ok.l4
  have c5 := jn_spo (keep := d.sk) ok.l5
  refine Comes_of w17 rfl rfl k17 ?_ ?_ ?_ ?_
  · simp
  · simp
  · unfold backV; split <;> simp
  · simp -dsimp [-wAppend_list, w17, wFix_by, isInl]
    refine clone_list (by omega) fun v T ha => ?_
    obtain ⟨xv, yv, sv⟩ := acc_val ha
    by_cases o1 : ¬ 0 ≤ d.out
    · have w5 : wi d.out t.out.length = false := by unfold wi; exact decide_eq_false (by omega)
      have hf : fitsB t d = false := by unfold fitsB restOk; rw [w5]; simp
      simp -dsimp [-wAppend_list, xv, yv, sv, call_by c1, call_by c2, call_by c3, call_by c4, call_by c5, o1]
      refine contains_call (l := [wi d.dk t.data.length, wi d.rk t.ret.length, wi d.ck t.ctl.length, wi d.wk t.words.length, wi d.sk t.spots.length, false]) (by rfl) (by simp) ?_
      simp -dsimp [wFix_by, isInl, backV, hf]
      rfl
    rw [Classical.not_not] at o1
    have w5 : decide (d.out ≤ (t.out.length : Int)) = wi d.out t.out.length := by unfold wi; simp [o1]
    simp -dsimp [-wAppend_list, xv, yv, sv, call_by c1, call_by c2, call_by c3, call_by c4, call_by c5, o1, w5]
    refine contains_call (l := [wi d.dk t.data.length, wi d.rk t.ret.length, wi d.ck t.ctl.length, wi d.wk t.words.length, wi d.sk t.spots.length, wi d.out t.out.length]) (by rfl) (by simp) ?_
    cases hrest : restOk t d with
    | false =>
      have hf : fitsB t d = false := by unfold fitsB; rw [hrest]; simp
      have ha : [wi d.dk t.data.length, wi d.rk t.ret.length, wi d.ck t.ctl.length, wi d.wk t.words.length, wi d.sk t.spots.length, wi d.out t.out.length].all id = false := by
        unfold restOk at hrest
        simpa using hrest
      rw [ha]
      simp -dsimp [wFix_by, isInl, backV, hf]
      rfl
    | true =>
      have hal : [wi d.dk t.data.length, wi d.rk t.ret.length, wi d.ck t.ctl.length, wi d.wk t.words.length, wi d.sk t.spots.length, wi d.out t.out.length].all id = true := by
        unfold restOk at hrest
        simpa using hrest
      have hrest' := hrest
      unfold restOk at hrest'
      simp only [Bool.and_eq_true] at hrest'
      obtain ⟨k1, k2, k3, k4, k5, k6⟩ := hrest'
      rw [hal]
      simp -dsimp [-wAppend_list, k1, k2, k3, k4, k5, k6]
      refine xL_by (by kernel_rfl) (fun k e H => ∃ (i : Nat) (T : List Ob), i ≤ d.mem.length ∧ k = d.mem.length - i ∧ e 2 = .ptr 0 0 ∧ e 3 = .ptr 1 0 ∧ e 4 = .ptr 2 0 ∧ e 7 = .ptr 4 0 ∧ e 102 = runsV d.mem ∧ e 103 = .int .i64 d.mem.length ∧ e 104 = .int .i64 i ∧ H = BH t d v T ∧ Acc 1 5 T v (((d.mem.take i).foldl patch t.mem).map (V.int .u8)) ∧ (d.mem.take i).all (runOk t.mem.length) = true) d.mem.length ?_ ?_
      · refine ⟨0, T, by omega, rfl, ?_⟩
        simp -dsimp [BH, BS, Z15, k1, k2, k3, k4, k5, k6]
        exact ha
      clear ha T
      rintro k e H ⟨i, T, hi, hk, h2, h3, h4, h7, h102, h103, h104, rfl, ha, hall⟩
      have hml : ((d.mem.take i).foldl patch t.mem).length = t.mem.length := fold_len _ _ rfl hall
      by_cases c1 : i < d.mem.length
      · have g1 : d.mem[i]?.getD default = d.mem[i] := by simp [c1]
        have hb := ok.db d.mem[i] (List.getElem_mem c1)
        have w2 : IntKind.i64.wrap ((i : Int) + 1) = ((i + 1 : Nat) : Int) := by rw [Fz.w64 (by omega) (by omega)]; omega
        have q := all_take (f := runOk t.mem.length) c1
        have hstep : (d.mem.take (i + 1)).foldl patch t.mem = patch ((d.mem.take i).foldl patch t.mem) d.mem[i] := by
          rw [List.take_succ_eq_append_getElem c1, List.foldl_append]; rfl
        have bad : runOk t.mem.length d.mem[i] = false → fitsB t d = false := fun h => by
          have := all_false (n := d.mem.length) c1 c1 h
          rw [List.take_length] at this
          unfold fitsB
          rw [this]; rfl
        generalize (d.mem.take i).foldl patch t.mem = m at *
        obtain ⟨r, hrr⟩ : ∃ r, r = d.mem[i] := ⟨_, rfl⟩
        rw [← hrr] at g1 hb bad hstep q
        have alen := fun K => acc_len ha (K := K)
        rw [List.length_map] at alen
        by_cases c3 : r.at_ < 0
        · have hf := bad (by unfold runOk wi; simp; omega)
          simp -dsimp [BH, BS, Z15, h2, h3, h4, h7, h102, h103, h104, c1, c3, ← hrr, wFix_by, isInl, backV, hf]
          rfl
        by_cases c4 : (m.length : Int) < r.at_
        · have hf := bad (by unfold runOk wi; simp; omega)
          simp -dsimp [BH, BS, Z15, h2, h3, h4, h7, h102, h103, h104, c1, c3, c4, ← hrr, alen, wFix_by, isInl, backV, hf]
          rfl
        have w5 : IntKind.i64.wrap ((m.length : Int) - r.at_) = (m.length : Int) - r.at_ := Fz.w64 (by omega) (by omega)
        by_cases c5 : (m.length : Int) - r.at_ < r.b.length
        · have hf := bad (by unfold runOk wi; simp; omega)
          simp -dsimp [BH, BS, Z15, h2, h3, h4, h7, h102, h103, h104, c1, c3, c4, c5, w5, ← hrr, alen, wFix_by, isInl, backV, hf]
          rfl
        have hr : runOk t.mem.length r = true := by unfold runOk wi; simp; omega
        have hr' : runOk m.length r = true := by rw [hml]; exact hr
        have hfin : ∀ T', Acc 1 5 T' v ((patch m r).map (V.int .u8)) → ∃ k', k' < k ∧ ∃ (i' : Nat) (T : List Ob), i' ≤ d.mem.length ∧ k' = d.mem.length - i' ∧ i' = i + 1 ∧ T = T' ∧ Acc 1 5 T v (((d.mem.take i').foldl patch t.mem).map (V.int .u8)) ∧ (d.mem.take i').all (runOk t.mem.length) = true := fun T' h =>
          ⟨d.mem.length - (i + 1), by omega, i + 1, T', by omega, rfl, rfl, rfl, by rw [hstep]; exact h, by rw [q, hall, hr]; rfl⟩
        simp -dsimp [BH, BS, h2, h3, h4, h7, h102, h103, h104, c1, c3, c4, c5, w5, ← hrr, alen]
        have ha' := ha
        obtain ⟨u1, u2, u3⟩ := ha'
        rcases u3 with ⟨u3, rfl⟩ | ⟨j, rfl, hj⟩
        · have hm0 : m = [] := by simpa using u3
          subst hm0
          simp -dsimp
          rw [List.length_nil] at c4 c5
          refine ⟨by omega, by omega, ?_⟩
          have hb0 : r.b = [] := List.length_eq_zero_iff.1 (by omega)
          have hp : patch [] r = [] := by simp [patch, hb0]
          simp -dsimp [h104, w2]
          refine ⟨d.mem.length - (i + 1), by omega, i + 1, T ++ [.live [.int .i64 r.at_, byV r.b]], by omega, rfl, ?_⟩
          rw [hstep, hp, q, hall, hr]
          simp -dsimp [BH, BS, h2, h3, h4, h7, h102, h103]
          exact acc_ext ha _
        · rw [flat_int] at hj
          simp -dsimp
          refine ⟨by omega, by omega, ?_⟩
          have e5 : 5 + j = j + 1 + 1 + 1 + 1 + 1 := by omega
          have hjT := (List.getElem?_eq_some_iff.1 hj).1
          by_cases c6 : m.length = r.at_.toNat ∧ 0 < r.at_
          · have hb0 : r.b = [] := List.length_eq_zero_iff.1 (by omega)
            have hp : patch m r = m := by simp [patch, hb0]
            simp -dsimp [h104, w2, c6]
            refine ⟨d.mem.length - (i + 1), by omega, i + 1, T ++ [.live [.int .i64 r.at_, byV r.b]], by omega, rfl, ?_⟩
            rw [hstep, hp, q, hall, hr]
            simp -dsimp [BH, BS, h2, h3, h4, h7, h102, h103]
            simpa using acc_ext ha _
          · have ct : Nat.min r.b.length (m.length - r.at_.toNat) = r.b.length := Nat.min_eq_left (by omega)
            have ct2 : min r.b.length (m.length - r.at_.toNat) = r.b.length := Nat.min_eq_left (by omega)
            rw [if_neg c6]
            simp -dsimp [h104, w2, e5, wMut_app hj, ct, ct2]
            refine ⟨by omega, ?_⟩
            refine ⟨d.mem.length - (i + 1), by omega, i + 1, (T ++ [Ob.live [.int .i64 r.at_, byV r.b]]).set j (.live ((patch m r).map (V.int .u8))), by omega, rfl, ?_⟩
            rw [hstep, q, hall, hr]
            have hpl := patch_len hr'
            have hset : (T ++ [Ob.live [.int .i64 r.at_, byV r.b]]).set j (.live ((patch m r).map (V.int .u8))) = (T.set j (.live ((patch m r).map (V.int .u8)))) ++ [.live [.int .i64 r.at_, byV r.b]] := List.set_append_left _ _ hjT
            rw [hset]
            simp -dsimp [BH, BS, h2, h3, h4, h7, h102, h103]
            have hpat : List.take r.at_.toNat (m.map (V.int .u8)) ++ (List.take (Nat.min r.b.length (m.length - r.at_.toNat)) (r.b.map (V.int .u8)) ++ List.drop (r.at_.toNat + min r.b.length (m.length - r.at_.toNat)) (m.map (V.int .u8))) = (patch m r).map (V.int .u8) := by
              rw [ct, ct2, show List.take r.b.length (r.b.map (V.int .u8)) = r.b.map (V.int .u8) from List.take_of_length_le (by simp)]
              simp [patch]
            rw [hpat]
            refine ⟨hset, ?_⟩
            refine acc_ext ⟨by simp, u2, .inr ⟨j, by simp [hpl], ?_⟩⟩ _
            rw [List.getElem?_set_self hjT, flat_int]
      · have hii : i = d.mem.length := by omega
        subst hii
        rw [List.take_length] at ha hall hml
        have hf : fitsB t d = true := by unfold fitsB; rw [hall, hrest]; rfl
        have k6' : 0 ≤ d.out ∧ d.out ≤ t.out.length := by simpa [wi] using k6
        have hto := ok.to
        have wo : IntKind.i64.wrap ((t.out.length : Int) - d.out) = ((t.out.length - d.out.toNat : Nat) : Int) := by rw [Fz.w64 (by omega) (by omega)]; omega
        simp -dsimp [BH, BS, Z15, h2, h3, h4, h7, h102, h103, h104, wo]
        refine WDraw_see (R := R2 t d) (by kernel_rfl) (by simp) ?_
        simp -dsimp [h2, h3, h4, h7]
        refine WDraw_see (R := R2 t d) (by kernel_rfl) (by simp) ?_
        simp -dsimp [h2, h3, h4, h7, xv, yv, sv, wFix_by, isInl, backV, hf]
        refine frz_acc 5 (k := 9) ha (by simp) (.inl ⟨rfl, by simp⟩) fun H' _ _ => ?_
        simp -dsimp [-List.map_take, tk_map, jn_ok k1, jn_ok k2, jn_ok k3, jn_ok k4, jn_ok k5, backS]
        rfl
end Fz.D
set_option maxRecDepth 100000
namespace Fz.D
open Go
theorem fewD_len {d : De} (h : fewD d = true) : d.mem.length ≤ 20 ∧ d.dt.length ≤ 20 ∧ d.rt.length ≤ 20 ∧ d.ct.length ≤ 20 ∧ d.wt.length ≤ 20 ∧ d.st.length ≤ 20 ∧ (∀ r ∈ d.mem, r.b.length ≤ 100) ∧ ∀ w ∈ d.wt, w.name.size ≤ 60 := by
  unfold fewD at h
  simp only [Bool.and_eq_true, decide_eq_true_eq, List.all_eq_true] at h
  obtain ⟨h0, h1, h2, h3, h4, h5, h6, h7⟩ := h
  exact ⟨h2, h3, h4, h5, h6, h7, fun r hr => h0 r (by rw [List.take_of_length_le (by omega)]; exact hr), fun w hw => h1 w (by rw [List.take_of_length_le (by omega)]; exact hw)⟩
theorem fewD_ok {d : De} (td : DeTy d) (h : fewD d = true) : DeOk d := by
  obtain ⟨h1, h2, h3, h4, h5, h6, h7, h8⟩ := fewD_len h
  exact ⟨fun r hr => ⟨(td.mem r hr).1, by have := h7 r hr; omega⟩, by omega, td.dk, td.dt, by omega, td.rk, td.rt, by omega, td.ck, td.ct, by omega, td.wk,
    fun w hw => ⟨td.wt w hw, by rw [nmB_len]; have := h8 w hw; omega⟩, by omega, td.sk, td.st, by omega, td.out, td.regs⟩
theorem few_bk {t : St} {d : De} (ht : fewB t = true) (hd : fewD d = true) : BkOk t d := by
  obtain ⟨t1, t2, t3, t4, t5, t6, t7, _⟩ := few_len ht
  obtain ⟨h1, h2, h3, h4, h5, h6, h7, h8⟩ := fewD_len hd
  exact ⟨by omega, by omega, by omega, fun r hr => by have := h7 r hr; omega, ⟨by omega, by omega⟩, ⟨by omega, by omega⟩, ⟨by omega, by omega⟩, ⟨by omega, by omega⟩, ⟨by omega, by omega⟩⟩
theorem patch_by {m : List Int} {r : Rn} (hm : by8 m) (hr : by8 r.b) : by8 (patch m r) :=
  by8_app (by8_app (fun x hx => hm x (List.mem_of_mem_take hx)) hr) fun x hx => hm x (List.mem_of_mem_drop hx)
theorem fold_by : ∀ (rs : List Rn) (m : List Int), by8 m → (∀ r ∈ rs, by8 r.b) → by8 (rs.foldl patch m)
  | [], m, h, _ => h
  | r :: rs, m, h, ha => by
    rw [List.foldl_cons]
    exact fold_by rs _ (patch_by h (ha r (by simp))) fun x hx => ha x (by simp [hx])
theorem back_by {t : St} {d : De} (tt : StTy t) (td : DeTy d) : by8 (backS t d).mem ∧ by8 (backS t d).out :=
  ⟨fold_by _ _ tt.mem fun r hr => (td.mem r hr).2, fun x hx => tt.out x (List.mem_of_mem_take hx)⟩
theorem back_len {t : St} {d : De} (h1 : fewB t = true) (h2 : fewD d = true) (hf : fitsB t d = true) : StLen (backS t d) := by
  have hall : d.mem.all (runOk t.mem.length) = true := by unfold fitsB at hf; rw [Bool.and_eq_true] at hf; exact hf.1
  have hrest : restOk t d = true := by unfold fitsB at hf; rw [Bool.and_eq_true] at hf; exact hf.2
  have e := fold_len d.mem t.mem rfl hall
  obtain ⟨t1, t2, t3, t4, t5, t6, t7, _⟩ := few_len h1
  obtain ⟨d1, d2, d3, d4, d5, d6, d7, d8⟩ := fewD_len h2
  constructor
  · show (d.mem.foldl patch t.mem).length ≤ _; omega
  · show (t.data.take _ ++ d.dt).length ≤ _; simp; omega
  · show (t.ret.take _ ++ d.rt).length ≤ _; simp; omega
  · show (t.ctl.take _ ++ d.ct).length ≤ _; simp; omega
  · show (t.words.take _ ++ d.wt).length ≤ _; simp; omega
  · show (t.spots.take _ ++ d.st).length ≤ _; simp; omega
  · show (t.out.take _).length ≤ _; simp; omega
theorem law4 {t : St} {d : De} (tt : StTy t) (td : DeTy d) : Comes p 4 [stV t, deV d] (.bool true) := by
  have a := awake_s
  have c1 := few_s t
  have c2 := few18_s d
  rw [← stF t] at c1
  rw [← deF d] at c2
  simp only [stV.cells, deV.cells] at c1 c2
  have e8 := all8 tt.mem
  refine Comes_of w4 rfl rfl k4 ?_ ?_ ?_ ?_
  · simp
  · simp
  · simp
  · cases h1 : fewB t with
    | false => rw [h1] at c1; simp -dsimp [w4, wFix_by, isInl, call_by a, call_by c1]
    | true =>
      rw [h1] at c1
      cases h2 : fewD d with
      | false => rw [h2] at c2; simp -dsimp [w4, wFix_by, isInl, call_by a, call_by c1, call_by c2]
      | true =>
        rw [h2] at c2
        have ok := few_bk h1 h2
        have b1 := applied_s ok
        have b2 := refBack_s ok
        cases hf : fitsB t d with
        | false =>
          have z : backV t d = .tuple [stV St0, .int .i64 1] := by unfold backV; rw [hf]; rfl
          have s1 := same_self (s := St0) (by constructor <;> simp [St0]) by8_nil by8_nil
          rw [z] at b1 b2
          rw [← stF t, ← deF d] at b1 b2
          rw [← stF St0] at s1 b1 b2
          simp only [stV.cells, deV.cells] at b1 b2 s1
          simp -dsimp [w4, wFix_by, isInl, call_by a, call_by c1, call_by c2, call_by b1, call_by b2, call_by s1, e8]
        | true =>
          have z : backV t d = .tuple [stV (backS t d), .int .i64 0] := by unfold backV; rw [hf]; rfl
          have s1 := same_self (back_len h1 h2 hf) (back_by tt td).1 (back_by tt td).2
          rw [z] at b1 b2
          generalize backS t d = s at *
          rw [← stF t, ← deF d] at b1 b2
          rw [← stF s] at s1 b1 b2
          simp only [stV.cells, deV.cells] at b1 b2 s1
          simp -dsimp [w4, wFix_by, isInl, call_by a, call_by c1, call_by c2, call_by b1, call_by b2, call_by s1, e8]
end Fz.D
