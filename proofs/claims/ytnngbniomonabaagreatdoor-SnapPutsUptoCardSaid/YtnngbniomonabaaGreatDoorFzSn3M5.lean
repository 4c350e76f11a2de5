import Derived.Test.YtnngbniomonabaaGreatDoorFzSn3M4
import Derived.Test.YtnngbniomonabaaGreatDoorRows
import Derived.Test.YtnngbniomonabaaGreatDoorCards
import Derived.Test.YtnngbniomonabaaGreatDoorTie
import Derived.Deep.DeepWitnessRowRef
import Derived.LaidMore
import Derived.Lay
set_option linter.all false
set_option linter.unusedVariables false
set_option linter.unusedSimpArgs false
set_option linter.unnecessarySimpa false
set_option maxRecDepth 100000
namespace Fz.D
open Go
def encN (n : Int) : List Int := numB (zz n).toNat
def encs (l : List Int) : List Int := cat (l.map encN)
theorem encN_len {n : Int} (h : i64 n) : (encN n).length ≤ 65 := by
  obtain ⟨h1, h2⟩ := zz_le h
  exact numB_len (by omega)
theorem encs_succ (l : List Int) (i : Nat) (h : i < l.length) : encs (l.take (i + 1)) = encs (l.take i) ++ encN l[i] := by
  unfold encs cat
  rw [List.take_succ_eq_append_getElem h, List.map_append, List.flatten_append]; simp
theorem encs_len {l : List Int} (h : ∀ n ∈ l, i64 n) : (encs l).length ≤ 65 * l.length := by
  induction l with
  | nil => simp [encs]
  | cons n l ih =>
    have h1 := encN_len (h n (by simp))
    have h2 := ih fun m hm => h m (by simp [hm])
    have : encs (n :: l) = encN n ++ encs l := by simp [encs, cat]
    rw [this, List.length_append, List.length_cons]; omega
theorem bit_s (b : Bool) (n : Int) : Comes p 56 [.bool b, .int .i64 n] (.int .i64 (if b then n else 0)) := by
  refine Comes_of w56 rfl rfl k56 ?_ ?_ ?_ ?_
  · simp
  · simp
  · simp
  · cases b <;> simp -dsimp [w56, wFix_by, isInl]
theorem flags_s (a b : Bool) : Comes p 68 [.bool a, .bool b] (.int .i64 ((if a then 1 else 0) + (if b then 2 else 0))) := by
  refine Comes_of w68 rfl rfl k68 ?_ ?_ ?_ ?_
  · simp
  · simp
  · simp
  · cases a <;> cases b <;> simp -dsimp [w68, wFix_by, isInl] <;> rfl
theorem nums_s {l : List Int} (h : ∀ n ∈ l, i64 n) (hl : l.length ≤ 1000000) : Comes p 55 [inV l] (byV (encs l)) := by
  refine Comes_of w55 rfl rfl k55 ?_ ?_ ?_ ?_
  · simp
  · simp
  · simp
  · simp -dsimp [w55, wFix_by, isInl]
    refine xL_by (by kernel_rfl) (fun k e H => ∃ (i : Nat) (v : V), i ≤ l.length ∧ k = l.length - i ∧ e 6 = inV l ∧ e 7 = .int .i64 l.length ∧ e 8 = .int .i64 i ∧ e 3 = v ∧ Acc 1 0 H v ((encs (l.take i)).map (V.int .u8))) l.length ?_ ?_
    · refine ⟨0, .list [] true, ?_⟩
      simp -dsimp [encs]
      exact acc_nil (by decide)
    · rintro k e H ⟨i, v, hi, hk, h6, h7, h8, h3, hac⟩
      simp -dsimp [h6, h7, h8, h3, wFix_by, isInl]
      split
      · rename_i hlt
        have g : l[i]?.getD default = l[i] := by simp [hlt]
        refine ⟨hlt, ?_⟩
        have hn := num_s (h l[i] (List.getElem_mem hlt))
        simp -dsimp [hlt, call_by hn, h3]
        have e1 := encs_succ l i hlt
        have t1 : (encs (l.take i)).length ≤ 65 * l.length := Nat.le_trans (encs_len fun m hm => h m (List.mem_of_mem_take hm)) (by rw [List.length_take]; omega)
        have t2 := encN_len (h l[i] (List.getElem_mem hlt))
        refine app_acc 0 (m := (encN l[i]).map (V.int .u8)) (by simpa using hac) (by simp) (by simp [encN]) (by simp [encN]) (by simp) (by simp [storable]) (by simp [capOk]; omega) fun v' J' hac' => ?_
        have w2 : IntKind.i64.wrap ((i : Int) + 1) = ((i + 1 : Nat) : Int) := by rw [Fz.w64 (by omega) (by omega)]; omega
        simp -dsimp [h6, h7, h8, w2]
        refine ⟨l.length - (i + 1), by omega, i + 1, v', by omega, rfl, ?_⟩
        simp -dsimp [h6, h7]
        rw [e1, List.map_append]
        exact hac'
      · have hii : i = l.length := by omega
        subst hii
        rw [List.take_length] at hac
        exact frz_ac (b := 0) (by simpa using ac_acc hac)
theorem refNums_s {l : List Int} (h : ∀ n ∈ l, i64 n) (hl : l.length ≤ 1000000) : Comes p 67 [inV l] (byV (encs l)) := by
  refine Comes_of w67 rfl rfl k67 ?_ ?_ ?_ ?_
  · simp
  · simp
  · simp
  · simp -dsimp [w67, wFix_by, isInl]
    refine xL_by (by kernel_rfl) (fun k e H => ∃ (i : Nat) (v : V), i ≤ l.length ∧ k = l.length - i ∧ e 0 = inV l ∧ e 4 = .int .i64 i ∧ e 3 = v ∧ Acc 1 0 H v ((encs (l.take i)).map (V.int .u8))) l.length ?_ ?_
    · refine ⟨0, .list [] true, ?_⟩
      simp -dsimp [encs]
      exact acc_nil (by decide)
    · rintro k e H ⟨i, v, hi, hk, h0, h4, h3, hac⟩
      simp -dsimp [h0, h4, h3, wFix_by, isInl]
      split
      · rename_i hlt
        have g : l[i]?.getD default = l[i] := by simp [hlt]
        refine ⟨hlt, ?_⟩
        have hn := refNum_s (h l[i] (List.getElem_mem hlt))
        simp -dsimp [hlt, call_by hn, h3, h0, h4]
        have e1 := encs_succ l i hlt
        have t1 : (encs (l.take i)).length ≤ 65 * l.length := Nat.le_trans (encs_len fun m hm => h m (List.mem_of_mem_take hm)) (by rw [List.length_take]; omega)
        have t2 := encN_len (h l[i] (List.getElem_mem hlt))
        refine app_acc 0 (m := (encN l[i]).map (V.int .u8)) (by simpa using hac) (by simp) (by simp [encN]) (by simp [encN]) (by simp) (by simp [storable]) (by simp [capOk]; omega) fun v' J' hac' => ?_
        have w2 : IntKind.i64.wrap ((i : Int) + 1) = ((i + 1 : Nat) : Int) := by rw [Fz.w64 (by omega) (by omega)]; omega
        simp -dsimp [h0, h4, w2]
        refine ⟨l.length - (i + 1), by omega, i + 1, v', by omega, rfl, ?_⟩
        simp -dsimp [h0]
        rw [e1, List.map_append]
        exact hac'
      · have hii : i = l.length := by omega
        subst hii
        rw [List.take_length] at hac
        exact frz_ac (b := 0) (by simpa using ac_acc hac)
end Fz.D
set_option maxRecDepth 100000
namespace Fz.D
open Go
theorem put1_s {n : Int} (h : i64 n) : Comes p 51 [.int .i64 n] (byV (encN n)) := by
  refine Comes_of w51 rfl rfl k51 ?_ ?_ ?_ ?_
  · simp
  · simp
  · simp
  · simp -dsimp [w51, wFix_by, isInl, call_by (num_s h), encN]
theorem listed_s {keep : Int} {l : List Int} (hk : i64 keep) (h : ∀ n ∈ l, i64 n) (hl : l.length ≤ 1000000) :
    Comes p 52 [.int .i64 keep, inV l, .fn (.func 51) [] []] (byV (encN keep ++ encN l.length ++ encs l)) := by
  have hn : i64 (l.length : Int) := by unfold i64; omega
  have k1 := encN_len hk
  have k2 := encN_len hn
  refine Comes_of w52 rfl rfl k52 ?_ ?_ ?_ ?_
  · simp
  · simp
  · simp
  · simp -dsimp [w52, wFix_by, isInl, call_by (num_s hk), call_by (num_s hn)]
    refine concat_call (ls := [encN keep, encN l.length]) rfl (by simp [tot]; omega) (by simp) fun v J hac => ?_
    simp -dsimp [wFix_by, isInl]
    refine xL_by (by kernel_rfl) (fun k e H => ∃ (i : Nat) (v : V) (J : List Ob), i ≤ l.length ∧ k = l.length - i ∧ e 2 = .fn (.func 51) [] [] ∧ e 17 = inV l ∧ e 18 = .int .i64 l.length ∧ e 19 = .int .i64 i ∧ e 7 = v ∧
      Ac 1 1 (H.drop 1) v ((encN keep ++ encN l.length ++ encs (l.take i)).map (V.int .u8)) ∧ 1 ≤ H.length) l.length ?_ ?_
    · refine ⟨0, v, J, ?_⟩
      simp -dsimp [encs]
      simpa [cat] using hac
    · rintro k e H ⟨i, v, J, hi, hk, h2, h17, h18, h19, h7, hac, hH⟩
      simp -dsimp [h2, h17, h18, h19, h7, wFix_by, isInl]
      split
      · rename_i hlt
        have hn := put1_s (h l[i] (List.getElem_mem hlt))
        refine ⟨hlt, ?_⟩
        simp -dsimp [hlt, call_by hn, h7]
        have e1 := encs_succ l i hlt
        have t1 : (encs (l.take i)).length ≤ 65 * l.length := Nat.le_trans (encs_len fun m hm => h m (List.mem_of_mem_take hm)) (by rw [List.length_take]; omega)
        have t2 := encN_len (h l[i] (List.getElem_mem hlt))
        refine app_ac 1 (m := (encN l[i]).map (V.int .u8)) hac hH (by simp) (by simp) (by simp) (by simp [storable]) (by simp [capOk]; omega) fun v' J' hac' => ?_
        have w2 : IntKind.i64.wrap ((i : Int) + 1) = ((i + 1 : Nat) : Int) := by rw [Fz.w64 (by omega) (by omega)]; omega
        simp -dsimp [h2, h17, h18, h19, w2]
        refine ⟨l.length - (i + 1), by omega, i + 1, v', J', by omega, rfl, ?_⟩
        have e3 : (H.take 1 ++ J').tail = J' := by
          cases H with
          | nil => simp at hH
          | cons a H => rfl
        simp -dsimp [h2, h17, h18, e3]
        refine ⟨?_, by omega⟩
        rw [e1]
        simpa using hac'
      · have hii : i = l.length := by omega
        subst hii
        rw [List.take_length] at hac
        exact frz_ac (b := 1) (by simpa [List.append_assoc] using hac)
end Fz.D
namespace Fz.D
open Go
theorem bit01 (b : Bool) : i64 (if b then 1 else 0) := by cases b <;> simp [i64]
theorem put2_s {s : Slo} (h : i64 s.v) : Comes p 54 [sloV s] (byV (encs [s.v, if s.call then 1 else 0])) := by
  have hl : ∀ n ∈ [s.v, if s.call then 1 else 0], i64 n := by
    intro n hn
    simp only [List.mem_cons, List.not_mem_nil, or_false] at hn
    rcases hn with rfl | rfl
    · exact h
    · exact bit01 _
  have hn := nums_s hl (by simp)
  refine Comes_of w54 rfl rfl k54 ?_ ?_ ?_ ?_
  · simp
  · simp
  · simp
  · simp -dsimp [w54, wFix_by, isInl, quiet_by (bit_s s.call 1)]
    have q : ∀ (H : List Ob) (K : V → Prop), xQuiet p 55 [.list [.int .i64 s.v, .int .i64 (if s.call = true then 1 else 0)] true] H K = K (byV (encs [s.v, if s.call = true then 1 else 0])) :=
      fun H K => quiet_nrm (a := [inV [s.v, if s.call = true then 1 else 0]]) rfl (by simp) (by simp [inV, nrm, nrmL_eq]) hn
    simp -dsimp [fillV, splice, cellsOf, isAny, wOpt, chunk, leafy, q, wFix_by, isInl]
theorem put4_s {s : Spo} (h : i64 s.addr) (h' : i64 s.at_) : Comes p 60 [spoV s] (byV (encs [s.addr, s.at_])) := by
  have hl : ∀ n ∈ [s.addr, s.at_], i64 n := by
    intro n hn
    simp only [List.mem_cons, List.not_mem_nil, or_false] at hn
    rcases hn with rfl | rfl
    · exact h
    · exact h'
  have hn := nums_s hl (by simp)
  refine Comes_of w60 rfl rfl k60 ?_ ?_ ?_ ?_
  · simp
  · simp
  · simp
  · simp -dsimp [w60, wFix_by, isInl]
    refine call_frz rfl ?_
    simp -dsimp [wFix_by, isInl]
    rw [show (V.list [V.int .i64 s.addr, V.int .i64 s.at_] false) = inV [s.addr, s.at_] from rfl, callN_by hn]
    simp -dsimp [wFix_by, isInl]
end Fz.D
namespace Fz.D
open Go
theorem concat_call_list {H : List Ob} {ls : List (List Int)} {c : Bool} (ht : tot ls ≤ 100000000) (hl : ls.length ≤ 1000000) {Q : CR → List Ob → Prop}
    (hq : ∀ v J, Ac 1 H.length J v ((cat ls).map (V.int .u8)) → Q (.ret v) (H ++ J)) : WCall p 15 [.list (ls.map byV) c] H Q := by
  have e0 : refsL [.list (ls.map byV) c] = [] := by rw [refsL, refs, refs_lists]; rfl
  have hr : reach H 1000 (refsL [.list (ls.map byV) c]) [] = some [] := by rw [e0]; rfl
  refine WCall_inl (by kernel_rfl) hr ?_
  have e1 : renL (fun i => ([] : List Nat).idxOf i) [.list (ls.map byV) c] = [.list (ls.map byV) c] := by simp [renL, ren, ren_lists]
  rw [e1]
  refine concat_list ht hl fun v J hac => ⟨by simp, ?_⟩
  rcases ac_cases hac with ⟨rfl, h0⟩ | ⟨j, len, rfl, _⟩
  · have e4 : backH [] (.ret (.list [] true)) J H = H := by
      unfold backH
      rw [if_neg (by simp [crV, refs, refsL])]
      simp [setAll]
    rw [e4]
    have := hq (.list [] true) [] ⟨by rw [h0]; rfl, by decide, .inl ⟨h0, rfl⟩⟩
    simpa [renR, ren, renL] using this
  · have hg : ∀ j, backK [] H.length (0 + j) = H.length + j := fun j => by simp [backK]
    have e4 : backH [] (.ret (.own (0 + j) 0 len 1)) J H = H ++ J.map (renOb (backK [] H.length)) := by
      unfold backH
      rw [if_pos (by simp [crV, refs])]
      simp [setAll]
    rw [e4]
    have := hq _ _ (ac_back hg hac)
    simpa [renR, ren] using this
end Fz.D
set_option maxRecDepth 100000
namespace Fz.D
open Go
def nmB (s : ByteArray) : List Int := s.data.toList.map fun b => (b.toNat : Int)
theorem nmB_V (s : ByteArray) : (s.data.toList.map fun b => V.int .u8 b.toNat) = (nmB s).map (V.int .u8) := by simp [nmB]
def txt (b : List Int) : List Int := encN b.length ++ b
def flg (a b : Bool) : Int := (if a then 1 else 0) + (if b then 2 else 0)
theorem put3_s {s : Wor} (h : i64 s.code) (hl : (nmB s.name).length ≤ 10000000) : Comes p 58 [worV s] (byV (txt (nmB s.name) ++ encs [s.code, flg s.now s.hid])) := by
  have hn : ∀ n ∈ [s.code, flg s.now s.hid], i64 n := by
    intro n hn
    simp only [List.mem_cons, List.not_mem_nil, or_false] at hn
    rcases hn with rfl | rfl
    · exact h
    · unfold flg i64; cases s.now <;> cases s.hid <;> simp
  have hns := nums_s hn (by simp)
  have ht := text_s hl
  have q : ∀ (H : List Ob) (K : V → Prop), xQuiet p 55 [.list [.int .i64 s.code, .int .i64 (flg s.now s.hid)] true] H K = K (byV (encs [s.code, flg s.now s.hid])) :=
    fun H K => quiet_nrm (a := [inV [s.code, flg s.now s.hid]]) rfl (by simp) (by simp [inV, nrm, nrmL_eq]) hns
  have w : IntKind.i64.wrap ((if s.now = true then 1 else 0) + (if s.hid = true then 2 else 0)) = flg s.now s.hid := by unfold flg; cases s.now <;> cases s.hid <;> rfl
  refine Comes_of w58 rfl rfl k58 ?_ ?_ ?_ ?_
  · simp
  · simp
  · simp
  · simp -dsimp [w58, wFix_by, isInl, quiet_by (bit_s s.now 1), quiet_by (bit_s s.hid 2), nmB_V]
    rw [show (V.list ((nmB s.name).map (V.int .u8)) false) = byV (nmB s.name) from rfl, quiet_by ht]
    simp -dsimp [wFix_by, isInl, quiet_by (bit_s s.now 1), quiet_by (bit_s s.hid 2), w]
    simp -dsimp [fillV, splice, wOpt, chunk, q, wFix_by, isInl]
    have b1 := encN_len (n := (nmB s.name).length) (by unfold i64; omega)
    have b2 := encs_len hn
    refine concat_call_list (ls := [txt (nmB s.name), encs [s.code, flg s.now s.hid]]) (by simp [tot, txt] at b2 ⊢; omega) (by simp) fun v J hac => ?_
    simp -dsimp [wFix_by, isInl]
    exact frz_ac (b := 1) (H := [.live (cellsOf (worV s))] ++ J) (v := v) (out := txt (nmB s.name) ++ encs [s.code, flg s.now s.hid]) (by simpa [cat] using hac)
end Fz.D
set_option maxRecDepth 100000
namespace Fz.D
open Go
theorem ac_ext {n b : Nat} {J : List Ob} {v : V} {l : List V} (h : Ac n b J v l) (G : List Ob) : Ac n b (J ++ G) v l := by
  obtain ⟨h1, h2, h3⟩ := h
  refine ⟨h1, h2, ?_⟩
  rcases h3 with h3 | ⟨j, cells, h3, h4, h5, h6⟩
  · exact .inl h3
  · exact .inr ⟨j, cells, h3, by rw [List.getElem?_append_left (List.getElem?_eq_some_iff.1 h4).1]; exact h4, h5, h6⟩
def encL {α : Type} (f : α → List Int) (l : List α) : List Int := cat (l.map f)
theorem encL_succ {α : Type} (f : α → List Int) (l : List α) (i : Nat) (h : i < l.length) : encL f (l.take (i + 1)) = encL f (l.take i) ++ f l[i] := by
  unfold encL cat
  rw [List.take_succ_eq_append_getElem h, List.map_append, List.flatten_append]; simp
theorem encL_len {α : Type} {f : α → List Int} {k : Nat} : ∀ {l : List α}, (∀ a ∈ l, (f a).length ≤ k) → (encL f l).length ≤ k * l.length
  | [], _ => by simp [encL]
  | a :: l, h => by
    have h1 := h a (by simp)
    have h2 := encL_len (f := f) (k := k) (l := l) fun m hm => h m (by simp [hm])
    have : encL f (a :: l) = f a ++ encL f l := by simp [encL, cat]
    rw [this, List.length_append, List.length_cons, Nat.mul_succ]; omega
def encSlo (s : Slo) : List Int := encs [s.v, if s.call then 1 else 0]
theorem encSlo_len {s : Slo} (h : i64 s.v) : (encSlo s).length ≤ 130 := by
  refine encs_len fun n hn => ?_
  simp only [List.mem_cons, List.not_mem_nil, or_false] at hn
  rcases hn with rfl | rfl
  · exact h
  · exact bit01 _
theorem listedSlo_s {keep : Int} {l : List Slo} (hk : i64 keep) (h : ∀ s ∈ l, i64 s.v) (hl : l.length ≤ 100000) :
    Comes p 53 [.int .i64 keep, slosV l, .fn (.func 54) [] []] (byV (encN keep ++ encN l.length ++ encL encSlo l)) := by
  have hn : i64 (l.length : Int) := by unfold i64; omega
  have k1 := encN_len hk
  have k2 := encN_len hn
  refine Comes_of w53 rfl rfl k53 ?_ ?_ ?_ ?_
  · simp
  · simp
  · simp
  · simp -dsimp [w53, wFix_by, isInl, call_by (num_s hk), call_by (num_s hn)]
    refine concat_call (ls := [encN keep, encN l.length]) rfl (by simp [tot]; omega) (by simp) fun v J hac => ?_
    simp -dsimp [wFix_by, isInl]
    refine xL_by (by kernel_rfl) (fun k e H => ∃ (i : Nat) (v : V), i ≤ l.length ∧ k = l.length - i ∧ e 2 = .fn (.func 54) [] [] ∧ e 17 = slosV l ∧ e 18 = .int .i64 l.length ∧ e 19 = .int .i64 i ∧ e 7 = v ∧
      Ac 1 1 (H.drop 1) v ((encN keep ++ encN l.length ++ encL encSlo (l.take i)).map (V.int .u8)) ∧ 1 ≤ H.length) l.length ?_ ?_
    · refine ⟨0, v, ?_⟩
      simp -dsimp [encL]
      simpa [cat] using hac
    · rintro k e H ⟨i, v, hi, hk, h2, h17, h18, h19, h7, hac, hH⟩
      simp -dsimp [h2, h17, h18, h19, h7, wFix_by, isInl]
      split
      · rename_i hlt
        have hn := put2_s (h l[i] (List.getElem_mem hlt))
        have g : l[i]?.getD default = l[i] := by simp [hlt]
        have e1 := encL_succ encSlo l i hlt
        have t1 : (encL encSlo (l.take i)).length ≤ 130 * l.length := Nat.le_trans (encL_len (k := 130) fun a ha => encSlo_len (h a (List.mem_of_mem_take ha))) (by rw [List.length_take]; omega)
        have t2 := encSlo_len (h l[i] (List.getElem_mem hlt))
        have w2 : IntKind.i64.wrap ((i : Int) + 1) = ((i + 1 : Nat) : Int) := by rw [Fz.w64 (by omega) (by omega)]; omega
        refine ⟨hlt, ?_⟩
        rw [g, show (V.agg [V.int .i64 l[i].v, V.bool l[i].call]) = sloV l[i] from rfl, call_by hn]
        simp -dsimp [h2, h17, h18, h19, h7]
        refine app_ac 1 (m := (encSlo l[i]).map (V.int .u8)) (v := v) (l := (encN keep ++ encN l.length ++ encL encSlo (l.take i)).map (V.int .u8)) (by
          rw [List.drop_append_of_le_length hH]; exact ac_ext hac _) (by simp) (by simp [encSlo]) (by simp [encSlo]) (by simp) (by simp [storable]) (by simp [capOk]; omega) fun v' J' hac' => ?_
        simp -dsimp [h2, h17, h18, h19, w2]
        refine ⟨l.length - (i + 1), by omega, i + 1, v', by omega, rfl, ?_⟩
        simp -dsimp [h2, h17, h18]
        rw [e1]
        simpa using hac'
      · have hii : i = l.length := by omega
        subst hii
        rw [List.take_length] at hac
        exact frz_ac (b := 1) (by simpa [List.append_assoc] using hac)
def encSpo (s : Spo) : List Int := encs [s.addr, s.at_]
theorem encSpo_len {s : Spo} (h : i64 s.addr ∧ i64 s.at_) : (encSpo s).length ≤ 130 := by
  refine encs_len fun n hn => ?_
  simp only [List.mem_cons, List.not_mem_nil, or_false] at hn
  rcases hn with rfl | rfl
  · exact h.1
  · exact h.2
theorem listedSpo_s {keep : Int} {l : List Spo} (hk : i64 keep) (h : ∀ s ∈ l, i64 s.addr ∧ i64 s.at_) (hl : l.length ≤ 100000) :
    Comes p 59 [.int .i64 keep, sposV l, .fn (.func 60) [] []] (byV (encN keep ++ encN l.length ++ encL encSpo l)) := by
  have hn : i64 (l.length : Int) := by unfold i64; omega
  have k1 := encN_len hk
  have k2 := encN_len hn
  refine Comes_of w59 rfl rfl k59 ?_ ?_ ?_ ?_
  · simp
  · simp
  · simp
  · simp -dsimp [w59, wFix_by, isInl, call_by (num_s hk), call_by (num_s hn)]
    refine concat_call (ls := [encN keep, encN l.length]) rfl (by simp [tot]; omega) (by simp) fun v J hac => ?_
    simp -dsimp [wFix_by, isInl]
    refine xL_by (by kernel_rfl) (fun k e H => ∃ (i : Nat) (v : V), i ≤ l.length ∧ k = l.length - i ∧ e 2 = .fn (.func 60) [] [] ∧ e 17 = sposV l ∧ e 18 = .int .i64 l.length ∧ e 19 = .int .i64 i ∧ e 7 = v ∧
      Ac 1 1 (H.drop 1) v ((encN keep ++ encN l.length ++ encL encSpo (l.take i)).map (V.int .u8)) ∧ 1 ≤ H.length) l.length ?_ ?_
    · refine ⟨0, v, ?_⟩
      simp -dsimp [encL]
      simpa [cat] using hac
    · rintro k e H ⟨i, v, hi, hk, h2, h17, h18, h19, h7, hac, hH⟩
      simp -dsimp [h2, h17, h18, h19, h7, wFix_by, isInl]
      split
      · rename_i hlt
        have hn := put4_s (h l[i] (List.getElem_mem hlt)).1 (h l[i] (List.getElem_mem hlt)).2
        have g : l[i]?.getD default = l[i] := by simp [hlt]
        have e1 := encL_succ encSpo l i hlt
        have t1 : (encL encSpo (l.take i)).length ≤ 130 * l.length := Nat.le_trans (encL_len (k := 130) fun a ha => encSpo_len (h a (List.mem_of_mem_take ha))) (by rw [List.length_take]; omega)
        have t2 := encSpo_len (h l[i] (List.getElem_mem hlt))
        have w2 : IntKind.i64.wrap ((i : Int) + 1) = ((i + 1 : Nat) : Int) := by rw [Fz.w64 (by omega) (by omega)]; omega
        refine ⟨hlt, ?_⟩
        rw [g, show (V.agg [V.int .i64 l[i].addr, V.int .i64 l[i].at_]) = spoV l[i] from rfl, call_by hn]
        simp -dsimp [h2, h17, h18, h19, h7]
        refine app_ac 1 (m := (encSpo l[i]).map (V.int .u8)) (v := v) (l := (encN keep ++ encN l.length ++ encL encSpo (l.take i)).map (V.int .u8)) (by
          rw [List.drop_append_of_le_length hH]; exact ac_ext hac _) (by simp) (by simp [encSpo]) (by simp [encSpo]) (by simp) (by simp [storable]) (by simp [capOk]; omega) fun v' J' hac' => ?_
        simp -dsimp [h2, h17, h18, h19, w2]
        refine ⟨l.length - (i + 1), by omega, i + 1, v', by omega, rfl, ?_⟩
        simp -dsimp [h2, h17, h18]
        rw [e1]
        simpa using hac'
      · have hii : i = l.length := by omega
        subst hii
        rw [List.take_length] at hac
        exact frz_ac (b := 1) (by simpa [List.append_assoc] using hac)
def encWor (s : Wor) : List Int := txt (nmB s.name) ++ encs [s.code, flg s.now s.hid]
theorem encWor_len {s : Wor} (h : i64 s.code ∧ (nmB s.name).length ≤ 1000) : (encWor s).length ≤ 1200 := by
  have h1 := encN_len (n := (nmB s.name).length) (by unfold i64; omega)
  have h2 : (encs [s.code, flg s.now s.hid]).length ≤ 65 * 2 := encs_len fun n hn => by
    simp only [List.mem_cons, List.not_mem_nil, or_false] at hn
    rcases hn with rfl | rfl
    · exact h.1
    · unfold flg i64; cases s.now <;> cases s.hid <;> simp
  unfold encWor txt
  rw [List.length_append, List.length_append]
  omega
theorem listedWor_s {keep : Int} {l : List Wor} (hk : i64 keep) (h : ∀ s ∈ l, i64 s.code ∧ (nmB s.name).length ≤ 1000) (hl : l.length ≤ 100000) :
    Comes p 57 [.int .i64 keep, worsV l, .fn (.func 58) [] []] (byV (encN keep ++ encN l.length ++ encL encWor l)) := by
  have hn : i64 (l.length : Int) := by unfold i64; omega
  have k1 := encN_len hk
  have k2 := encN_len hn
  refine Comes_of w57 rfl rfl k57 ?_ ?_ ?_ ?_
  · simp
  · simp
  · simp
  · simp -dsimp [w57, wFix_by, isInl, call_by (num_s hk), call_by (num_s hn)]
    refine concat_call (ls := [encN keep, encN l.length]) rfl (by simp [tot]; omega) (by simp) fun v J hac => ?_
    simp -dsimp [wFix_by, isInl]
    refine xL_by (by kernel_rfl) (fun k e H => ∃ (i : Nat) (v : V), i ≤ l.length ∧ k = l.length - i ∧ e 2 = .fn (.func 58) [] [] ∧ e 17 = worsV l ∧ e 18 = .int .i64 l.length ∧ e 19 = .int .i64 i ∧ e 7 = v ∧
      Ac 1 1 (H.drop 1) v ((encN keep ++ encN l.length ++ encL encWor (l.take i)).map (V.int .u8)) ∧ 1 ≤ H.length) l.length ?_ ?_
    · refine ⟨0, v, ?_⟩
      simp -dsimp [encL]
      simpa [cat] using hac
    · rintro k e H ⟨i, v, hi, hk, h2, h17, h18, h19, h7, hac, hH⟩
      simp -dsimp [h2, h17, h18, h19, h7, wFix_by, isInl]
      split
      · rename_i hlt
        have hn := put3_s (h l[i] (List.getElem_mem hlt)).1 (Nat.le_trans (h l[i] (List.getElem_mem hlt)).2 (by omega))
        have g : l[i]?.getD default = l[i] := by simp [hlt]
        have e1 := encL_succ encWor l i hlt
        have t1 : (encL encWor (l.take i)).length ≤ 1200 * l.length := Nat.le_trans (encL_len (k := 1200) fun a ha => encWor_len (h a (List.mem_of_mem_take ha))) (by rw [List.length_take]; omega)
        have t2 := encWor_len (h l[i] (List.getElem_mem hlt))
        have w2 : IntKind.i64.wrap ((i : Int) + 1) = ((i + 1 : Nat) : Int) := by rw [Fz.w64 (by omega) (by omega)]; omega
        refine ⟨hlt, ?_⟩
        rw [g, show (V.agg [V.str l[i].name, V.int .i64 l[i].code, V.bool l[i].now, V.bool l[i].hid]) = worV l[i] from rfl, call_by hn]
        simp -dsimp [h2, h17, h18, h19, h7]
        refine app_ac 1 (m := (encWor l[i]).map (V.int .u8)) (v := v) (l := (encN keep ++ encN l.length ++ encL encWor (l.take i)).map (V.int .u8)) (by
          rw [List.drop_append_of_le_length hH]; exact ac_ext hac _) (by simp) (by simp [encWor]) (by simp [encWor]) (by simp) (by simp [storable]) (by simp [capOk]; omega) fun v' J' hac' => ?_
        simp -dsimp [h2, h17, h18, h19, w2]
        refine ⟨l.length - (i + 1), by omega, i + 1, v', by omega, rfl, ?_⟩
        simp -dsimp [h2, h17, h18]
        rw [e1]
        simpa using hac'
      · have hii : i = l.length := by omega
        subst hii
        rw [List.take_length] at hac
        exact frz_ac (b := 1) (by simpa [List.append_assoc] using hac)
end Fz.D
set_option maxRecDepth 100000
namespace Fz.D
open Go
def encRun (r : Rn) : List Int := encN r.at_ ++ txt r.b
def encD (d : De) : List Int := encN d.mem.length ++ encL encRun d.mem ++ (encN d.dk ++ encN d.dt.length ++ encs d.dt) ++ (encN d.rk ++ encN d.rt.length ++ encL encSlo d.rt) ++ (encN d.ck ++ encN d.ct.length ++ encs d.ct) ++
  (encN d.wk ++ encN d.wt.length ++ encL encWor d.wt) ++ (encN d.sk ++ encN d.st.length ++ encL encSpo d.st) ++ encs [d.out] ++ encs [d.r0, d.r1, d.r2, d.r3, d.r4, d.r5] ++ encs [flg d.comp d.halt]
structure DeOk (d : De) : Prop where
  mem : ∀ r ∈ d.mem, i64 r.at_ ∧ r.b.length ≤ 10000
  meml : d.mem.length ≤ 1000
  dk : i64 d.dk
  dt : ∀ n ∈ d.dt, i64 n
  dtl : d.dt.length ≤ 1000
  rk : i64 d.rk
  rt : ∀ s ∈ d.rt, i64 s.v
  rtl : d.rt.length ≤ 1000
  ck : i64 d.ck
  ct : ∀ n ∈ d.ct, i64 n
  ctl : d.ct.length ≤ 1000
  wk : i64 d.wk
  wt : ∀ s ∈ d.wt, i64 s.code ∧ (nmB s.name).length ≤ 1000
  wtl : d.wt.length ≤ 1000
  sk : i64 d.sk
  st : ∀ s ∈ d.st, i64 s.addr ∧ i64 s.at_
  stl : d.st.length ≤ 1000
  out : i64 d.out
  regs : ∀ n ∈ [d.r0, d.r1, d.r2, d.r3, d.r4, d.r5], i64 n
theorem encRun_len {r : Rn} (h : i64 r.at_ ∧ r.b.length ≤ 10000) : (encRun r).length ≤ 10200 := by
  have h1 := encN_len h.1
  have h2 := encN_len (n := r.b.length) (by unfold i64; omega)
  unfold encRun txt
  rw [List.length_append, List.length_append]; omega
theorem encN_ne (n : Int) : encN n ≠ [] := by unfold encN numB; simp
theorem fix_ac (b : Nat) {H : List Ob} {v : V} {out : List Int} {K : V → List Ob → Prop} (ha : Ac 1 b (H.drop b) v (out.map (V.int .u8))) (hne : out ≠ [])
    (hK : ∀ H', H'.take b = H.take b → H'.length = H.length → K (byV out) H') : xFixV v H K := by
  show wFixV v H K
  obtain ⟨h1, h2, h3⟩ := ha
  rcases h3 with ⟨h3, rfl⟩ | ⟨j, cells, rfl, h4, h5, h6⟩
  · exact absurd (by simpa using h3) hne
  · rw [List.getElem?_drop] at h4
    refine ⟨byV out, H.set (b + j) (.fixed cells), ?_, hK _ (by rw [List.take_set_of_le (by omega)]) (by simp)⟩
    have e1 : (cells.drop 0).take ((out.map (V.int .u8)).length * 1) = out.map (V.int .u8) := by rw [List.drop_zero, h6, flat_int]
    rw [show depthF = 11 + 1 from rfl, freezeV, h4]
    dsimp only
    rw [if_pos ⟨by omega, h2⟩, e1, gks_freeze (by simp)]
    dsimp only
    have e2 : (out.map (V.int .u8)).all leafy = true := by simp
    rw [if_pos (.inr e2), chunk_one]
    simp [byV]
theorem flg_i (a b : Bool) : i64 (flg a b) := by unfold flg i64; cases a <;> cases b <;> simp
theorem flg_w (a b : Bool) : IntKind.i64.wrap ((if a = true then 1 else 0) + (if b = true then 2 else 0)) = flg a b := by unfold flg; cases a <;> cases b <;> rfl
end Fz.D
set_option maxRecDepth 100000
namespace Fz.D
open Go
theorem take_cons {H : List Ob} {x : Ob} {A : List Ob} {n : Nat} (h : H.take (n + 1) = (x :: A).take (n + 1)) : ∃ T, H = x :: T := by
  cases H with
  | nil => simp at h
  | cons y T => simp at h; exact ⟨T, by rw [h.1]⟩
theorem quiet_nums {l : List Int} {c : Bool} (h : ∀ n ∈ l, i64 n) (hl : l.length ≤ 1000000) (H : List Ob) (K : V → Prop) : xQuiet p 55 [.list (l.map (V.int .i64)) c] H K = K (byV (encs l)) :=
  quiet_nrm (a := [inV l]) rfl (by simp) (by simp [inV, nrm, nrmL_eq]) (nums_s h hl)
theorem put_s {d : De} (h : DeOk d) : Comes p 19 [deV d] (byV (encD d)) := by
  have hn : i64 (d.mem.length : Int) := by have := h.meml; unfold i64; omega
  have hm := h.meml
  have b0 := encN_len hn
  refine Comes_of w19 rfl rfl k19 ?_ ?_ ?_ ?_
  · simp
  · simp
  · simp
  · simp -dsimp [w19, wFix_by, isInl, call_by (num_s hn)]
    refine xL_by (by kernel_rfl) (fun k e H => ∃ (i : Nat) (T : List Ob), i ≤ d.mem.length ∧ k = d.mem.length - i ∧ e 1 = .ptr 0 0 ∧ e 12 = runsV d.mem ∧ e 13 = .int .i64 d.mem.length ∧ e 14 = .int .i64 i ∧ e 3 = byV (encN d.mem.length ++ encL encRun (d.mem.take i)) ∧ H = .live (cellsOf (deV d)) :: T) d.mem.length ?_ ?_
    · refine ⟨0, [], ?_⟩
      simp -dsimp [encL, encN]
    · rintro k e H ⟨i, T, hi, hk, h1, h12, h13, h14, h3, rfl⟩
      have t1 : (encL encRun (d.mem.take i)).length ≤ 10200 * 1000 := Nat.le_trans (encL_len (k := 10200) fun a ha => encRun_len (h.mem a (List.mem_of_mem_take ha))) (Nat.mul_le_mul_left _ (by rw [List.length_take]; omega))
      by_cases hlt : i < d.mem.length
      · have g : d.mem[i]?.getD default = d.mem[i] := by simp [hlt]
        have hr := h.mem d.mem[i] (List.getElem_mem hlt)
        have e1 := encL_succ encRun d.mem i hlt
        have t2 := encRun_len hr
        have w2 : IntKind.i64.wrap ((i : Int) + 1) = ((i + 1 : Nat) : Int) := by rw [Fz.w64 (by omega) (by omega)]; omega
        simp -dsimp [h1, h12, h13, h14, h3, wFix_by, isInl, hlt, quiet_by (num_s hr.1), quiet_by (text_s (b := d.mem[i].b) (by omega)), fillV, splice, wOpt, chunk]
        refine concat_call_list (ls := [encN d.mem.length ++ encL encRun (d.mem.take i), encN d.mem[i].at_, txt d.mem[i].b]) (by simp [tot, encRun, txt] at t2 ⊢; omega) (by simp) fun v J hac => ?_
        simp -dsimp [h1, h12, h13, h14, h3, wFix_by, isInl]
        refine fix_ac (T.length + 2) (out := encN d.mem.length ++ encL encRun (d.mem.take i) ++ encRun d.mem[i]) (by simpa [cat, encRun] using hac) (by simp [encN_ne]) fun H' hH _ => ?_
        obtain ⟨T', rfl⟩ := take_cons (n := T.length + 1) hH
        simp -dsimp [h1, h12, h13, h14, h3, w2]
        refine ⟨d.mem.length - (i + 1), by omega, i + 1, T', by omega, rfl, ?_⟩
        simp -dsimp [h1, h12, h13, e1, encRun, txt, encN]
      · have hii : i = d.mem.length := by omega
        subst hii
        rw [List.take_length] at h3 t1
        simp -dsimp [h1, h12, h13, h14, h3, wFix_by, isInl]
        refine WDraw_ext (by kernel_rfl) ?_
        have hr := h.regs
        have q1 := quiet_nums (l := [d.out]) (c := true) (fun n hn => by simp at hn; rw [hn]; exact h.out) (by simp)
        have q2 := quiet_nums (l := [flg d.comp d.halt]) (c := true) (fun n hn => by simp at hn; rw [hn]; exact flg_i _ _) (by simp)
        simp only [List.map_cons, List.map_nil] at q1 q2
        have c1 := listed_s h.dk h.dt (by have := h.dtl; omega)
        have c2 := listedSlo_s h.rk h.rt (by have := h.rtl; omega)
        have c3 := listed_s h.ck h.ct (by have := h.ctl; omega)
        have c4 := listedWor_s h.wk h.wt (by have := h.wtl; omega)
        have c5 := listedSpo_s h.sk h.st (by have := h.stl; omega)
        have c6 := nums_s hr (by simp)
        simp -dsimp [h1, h12, h13, h14, h3, wFix_by, isInl, call_by c1, call_by c2, call_by c3, call_by c4, call_by c5, fillV, splice, wOpt, chunk, q1]
        refine call_frz rfl ?_
        simp -dsimp [wFix_by, isInl]
        have c6 := c6
        simp only [inV, List.map_cons, List.map_nil] at c6
        rw [callN_by c6]
        simp only [wRet_ret]
        refine ⟨Sees.set rfl, ?_⟩
        simp -dsimp [h1, h12, h13, h14, h3, wFix_by, isInl, quiet_by (bit_s d.comp 1), quiet_by (bit_s d.halt 2), flg_w, fillV, splice, wOpt, chunk, q2]
        have l1 := encN_len h.dk
        have l2 := encN_len h.rk
        have l3 := encN_len h.ck
        have l4 := encN_len h.wk
        have l5 := encN_len h.sk
        have n1 := encN_len (n := d.dt.length) (by have := h.dtl; unfold i64; omega)
        have n2 := encN_len (n := d.rt.length) (by have := h.rtl; unfold i64; omega)
        have n3 := encN_len (n := d.ct.length) (by have := h.ctl; unfold i64; omega)
        have n4 := encN_len (n := d.wt.length) (by have := h.wtl; unfold i64; omega)
        have n5 := encN_len (n := d.st.length) (by have := h.stl; unfold i64; omega)
        have m1 : (encs d.dt).length ≤ 65 * 1000 := Nat.le_trans (encs_len h.dt) (Nat.mul_le_mul_left _ h.dtl)
        have m2 : (encL encSlo d.rt).length ≤ 130 * 1000 := Nat.le_trans (encL_len (k := 130) fun a ha => encSlo_len (h.rt a ha)) (Nat.mul_le_mul_left _ h.rtl)
        have m3 : (encs d.ct).length ≤ 65 * 1000 := Nat.le_trans (encs_len h.ct) (Nat.mul_le_mul_left _ h.ctl)
        have m4 : (encL encWor d.wt).length ≤ 1200 * 1000 := Nat.le_trans (encL_len (k := 1200) fun a ha => encWor_len (h.wt a ha)) (Nat.mul_le_mul_left _ h.wtl)
        have m5 : (encL encSpo d.st).length ≤ 130 * 1000 := Nat.le_trans (encL_len (k := 130) fun a ha => encSpo_len (h.st a ha)) (Nat.mul_le_mul_left _ h.stl)
        have o1 : (encs [d.out]).length ≤ 65 * 1 := encs_len fun n hn => by simp at hn; rw [hn]; exact h.out
        have o2 : (encs [d.r0, d.r1, d.r2, d.r3, d.r4, d.r5]).length ≤ 65 * 6 := encs_len hr
        have o3 : (encs [flg d.comp d.halt]).length ≤ 65 * 1 := encs_len fun n hn => by simp at hn; rw [hn]; exact flg_i _ _
        refine concat_call_list (ls := [encN d.mem.length ++ encL encRun d.mem, encN d.dk ++ (encN d.dt.length ++ encs d.dt), encN d.rk ++ (encN d.rt.length ++ encL encSlo d.rt), encN d.ck ++ (encN d.ct.length ++ encs d.ct),
          encN d.wk ++ (encN d.wt.length ++ encL encWor d.wt), encN d.sk ++ (encN d.st.length ++ encL encSpo d.st), encs [d.out], encs [d.r0, d.r1, d.r2, d.r3, d.r4, d.r5], encs [flg d.comp d.halt]]) (by simp [tot]; omega) (by simp) fun v J hac => ?_
        simp only [wRet_ret]
        refine ⟨(Sees.set (i := 0) rfl).trans (Sees.app _ _), ?_⟩
        simp -dsimp [wFix_by, isInl]
        refine frz_ac (b := T.length + 1) ?_
        rw [List.drop_succ_cons, List.drop_left]
        simpa [cat, encD, List.append_assoc] using hac
end Fz.D
set_option maxRecDepth 100000
namespace Fz.D
open Go
theorem refNumE {n : Int} (h : i64 n) : Comes p 24 [.int .i64 n] (byV (encN n)) := refNum_s h
theorem refTextE {b : List Int} (hb : b.length ≤ 10000000) : Comes p 25 [byV b] (byV (txt b)) := refText_s hb
theorem nums_own {H : List Ob} {a : Int} {l : List Int} {k : Nat} (hk : k = (a :: l).length) (h : ∀ n ∈ a :: l, i64 n) (hl : l.length ≤ 100000) {Q : CR → List Ob → Prop} (hq : Q (.ret (byV (encs (a :: l)))) (H ++ [.fixed ((a :: l).map (V.int .i64))])) :
    xCall p 67 [.own H.length 0 k 1] (H ++ [.live ((a :: l).map (V.int .i64))]) Q := by
  subst hk
  refine call_frz rfl ?_
  simp -dsimp
  have c := refNums_s h (by simp; omega)
  unfold inV at c
  rw [List.map_cons] at c
  rw [callN_by c]
  simpa using hq
theorem app_b2 {T : List Ob} {x y : Ob} {v : V} {out m : List Int} {k : Nat} {K : V → List Ob → Prop} (ha : Ac 1 1 T v (out.map (V.int .u8))) (hk : k = m.length) (hc : out.length + m.length ≤ 100000000)
    (hK : ∀ v' T' G, T'.length = T.length → Ac 1 1 (T' ++ y :: G) v' ((out ++ m).map (V.int .u8)) → K v' (x :: (T' ++ y :: G))) : xAppend (x :: (T ++ [y])) 1 1 v (m.map (V.int .u8)) k K := by
  subst hk
  have hcap : capOk (out.length + m.length) 1 = true := by simp [capOk]; omega
  by_cases h0 : m = []
  · subst h0
    have hk := hK v T [] rfl (by simpa using ac_ext ha [y])
    obtain ⟨h1, h2, h3⟩ := ha
    rcases h3 with ⟨h3, rfl⟩ | ⟨j, cells, rfl, h4, h5, h6⟩
    · rw [wAppend_list, if_pos (by rfl)]; exact hk
    · rw [wAppend_own, if_pos (by rfl)]; exact ⟨rfl, hk⟩
  · have hl : m.length ≠ 0 := fun h => h0 (List.length_eq_zero_iff.1 h)
    obtain ⟨h1, h2, h3⟩ := ha
    rcases h3 with ⟨h3, rfl⟩ | ⟨j, cells, rfl, h4, h5, h6⟩
    · have h3 : out = [] := by simpa using h3
      subst h3
      rw [wAppend_list, if_neg hl]
      refine ⟨⟨rfl, rfl, by simp, by simpa using hcap⟩, ?_⟩
      have hk := hK (.own (1 + (T.length + 1)) 0 m.length 1) T [.live (m.map (V.int .u8))] rfl ⟨by simp, by decide, .inr ⟨T.length + 1, m.map (V.int .u8), by simp, by simp, by simp, by simp⟩⟩
      show K _ _
      simpa [Nat.add_comm, Nat.add_left_comm, Nat.add_assoc] using hk
    · rw [wAppend_own, if_neg hl]
      refine ⟨rfl, ?_⟩
      have hj := (List.getElem?_eq_some_iff.1 h4).1
      refine ⟨cells, by rw [Nat.add_comm, List.getElem?_cons_succ, List.getElem?_append_left hj]; exact h4, ⟨rfl, h5, by simp [storable], by simpa using hcap⟩, ?_⟩
      show K _ _
      have hk := hK (.own (1 + (T.length + 1)) 0 (out.length + m.length) 1) (T.set j .dead) [.live ((out ++ m).map (V.int .u8))] (by simp) ⟨by simp, by decide, .inr ⟨T.length + 1, (out ++ m).map (V.int .u8), by simp, by simp, by simp, by rw [List.length_map, Nat.mul_one, flat_int]; exact List.take_of_length_le (by simp)⟩⟩
      rw [h6, flat_int, ← List.map_append, Nat.add_comm 1 j, List.set_cons_succ, List.set_append_left _ _ hj]
      simpa [Nat.add_comm, Nat.add_left_comm, Nat.add_assoc] using hk
theorem app_b {T : List Ob} {x : Ob} {v : V} {out m : List Int} {k : Nat} {K : V → List Ob → Prop} (ha : Ac 1 1 T v (out.map (V.int .u8))) (hk : k = m.length) (hc : out.length + m.length ≤ 100000000)
    (hK : ∀ v' J', Ac 1 1 J' v' ((out ++ m).map (V.int .u8)) → K v' (x :: J')) : xAppend (x :: T) 1 1 v (m.map (V.int .u8)) k K := by
  refine app_ac 1 (m := m.map (V.int .u8)) (l := out.map (V.int .u8)) ha (by simp) (by simp) (by simp [hk]) (by simp) (by simp [storable]) (by simp [capOk]; omega) fun v' J' h => ?_
  rw [← List.map_append] at h
  exact hK v' J' h
theorem quiet_rnums {l : List Int} {c : Bool} (h : ∀ n ∈ l, i64 n) (hl : l.length ≤ 1000000) (H : List Ob) (K : V → Prop) : xQuiet p 67 [.list (l.map (V.int .i64)) c] H K = K (byV (encs l)) :=
  quiet_nrm (a := [inV l]) rfl (by simp) (by simp [inV, nrm, nrmL_eq]) (refNums_s h hl)
theorem two_i {a b : Int} (ha : i64 a) (hb : i64 b) : ∀ n ∈ [a, b], i64 n := by
  intro n hn
  simp only [List.mem_cons, List.not_mem_nil, or_false] at hn
  rcases hn with rfl | rfl
  · exact ha
  · exact hb
theorem one_i {a : Int} (ha : i64 a) : ∀ n ∈ [a], i64 n := by
  intro n hn
  simp only [List.mem_cons, List.not_mem_nil, or_false] at hn
  rw [hn]; exact ha
theorem refPut_s {d : De} (h : DeOk d) : Comes p 27 [deV d] (byV (encD d)) := by
  have hn : i64 (d.mem.length : Int) := by have := h.meml; unfold i64; omega
  have hm := h.meml
  have hdt := h.dtl
  have hrt := h.rtl
  have hct := h.ctl
  have hwt := h.wtl
  have hst := h.stl
  have b0 := encN_len hn
  have i1 : i64 (d.dt.length : Int) := by unfold i64; omega
  have i2 : i64 (d.rt.length : Int) := by unfold i64; omega
  have i3 : i64 (d.ct.length : Int) := by unfold i64; omega
  have i4 : i64 (d.wt.length : Int) := by unfold i64; omega
  have i5 : i64 (d.st.length : Int) := by unfold i64; omega
  have j1 := two_i h.dk i1
  have j2 := two_i h.rk i2
  have j3 := two_i h.ck i3
  have j4 := two_i h.wk i4
  have j5 := two_i h.sk i5
  have p1 : (encs [d.dk, d.dt.length]).length ≤ 65 * 2 := encs_len j1
  have p2 : (encs [d.rk, d.rt.length]).length ≤ 65 * 2 := encs_len j2
  have p3 : (encs [d.ck, d.ct.length]).length ≤ 65 * 2 := encs_len j3
  have p4 : (encs [d.wk, d.wt.length]).length ≤ 65 * 2 := encs_len j4
  have p5 : (encs [d.sk, d.st.length]).length ≤ 65 * 2 := encs_len j5
  have m1 : (encs d.dt).length ≤ 65 * 1000 := Nat.le_trans (encs_len h.dt) (Nat.mul_le_mul_left _ h.dtl)
  have m3 : (encs d.ct).length ≤ 65 * 1000 := Nat.le_trans (encs_len h.ct) (Nat.mul_le_mul_left _ h.ctl)
  refine Comes_of w27 rfl rfl k27 ?_ ?_ ?_ ?_
  · simp
  · simp
  · simp
  · simp -dsimp [-wAppend_list, w27, wFix_by, isInl, call_by (refNumE hn)]
    refine app_b (out := []) (ac_nil (by decide)) rfl (by simp; omega) fun v T ha => ?_
    rw [List.nil_append] at ha
    simp -dsimp [-wAppend_list]
    refine xL_by (by kernel_rfl) (fun k e H => ∃ (i : Nat) (v : V) (T : List Ob), i ≤ d.mem.length ∧ k = d.mem.length - i ∧ e 1 = .ptr 0 0 ∧ e 4 = .int .i64 i ∧ e 3 = v ∧ H = .live (cellsOf (deV d)) :: T ∧ Ac 1 1 T v ((encN d.mem.length ++ encL encRun (d.mem.take i)).map (V.int .u8))) d.mem.length ?_ ?_
    · refine ⟨0, v, T, ?_⟩
      simp -dsimp [encL]
      first | exact ha | exact ⟨h1, ha⟩
    clear ha T v
    rintro k e H ⟨i, v, T, hi, hk, h1, hi4, h3, rfl, ha⟩
    have t1 : (encL encRun (d.mem.take i)).length ≤ 10200 * 1000 := Nat.le_trans (encL_len (k := 10200) fun a ha => encRun_len (h.mem a (List.mem_of_mem_take ha))) (Nat.mul_le_mul_left _ (by rw [List.length_take]; omega))
    by_cases hlt : i < d.mem.length
    · have hr := h.mem d.mem[i] (List.getElem_mem hlt)
      have e1 := encL_succ encRun d.mem i hlt
      have t2 := encRun_len hr
      have w2 : IntKind.i64.wrap ((i : Int) + 1) = ((i + 1 : Nat) : Int) := by rw [Fz.w64 (by omega) (by omega)]; omega
      simp -dsimp [-wAppend_list, h1, hi4, h3, wFix_by, isInl, hlt, call_by (refNumE hr.1)]
      have q1 : (encRun d.mem[i]).length = (encN d.mem[i].at_).length + (txt d.mem[i].b).length := by simp [encRun]
      refine app_b ha rfl (by simp only [List.length_append]; omega) fun v T ha => ?_
      simp -dsimp [-wAppend_list, h1, hi4, h3, wFix_by, isInl, hlt, call_by (refTextE (b := d.mem[i].b) (by omega))]
      refine app_b ha rfl (by simp only [List.length_append]; omega) fun v T ha => ?_
      simp -dsimp [-wAppend_list, h1, hi4, w2]
      refine ⟨d.mem.length - (i + 1), by omega, i + 1, v, T, by omega, rfl, ?_⟩
      simp -dsimp [h1]
      rw [e1]
      simpa [encRun, List.append_assoc] using ha
    have hii : i = d.mem.length := by omega
    subst hii
    rw [List.take_length] at ha t1
    simp -dsimp [-wAppend_list, h1, hi4, h3, wFix_by, isInl, hlt]
    have hb1 : (encN d.mem.length ++ encL encRun d.mem).length ≤ 11000000 := by simp only [List.length_append]; omega
    obtain ⟨o1, ho1⟩ : ∃ o, o = encN d.mem.length ++ encL encRun d.mem := ⟨_, rfl⟩
    rw [← ho1] at ha hb1
    refine nums_own (H := .live (cellsOf (deV d)) :: T) (a := d.dk) (l := [d.dt.length]) rfl j1 (by simp) ?_
    simp -dsimp [-wAppend_list, h3]
    refine app_b (ac_ext ha _) rfl (by omega) fun v T ha => ?_
    simp -dsimp [-wAppend_list, h1]
    have hb2 : (o1 ++ encs [d.dk, (d.dt.length : Int)]).length ≤ 11001000 := by simp only [List.length_append]; omega
    obtain ⟨o2, ho2⟩ : ∃ o, o = o1 ++ encs [d.dk, (d.dt.length : Int)] := ⟨_, rfl⟩
    rw [← ho2] at ha hb2
    rw [call_by (refNums_s h.dt (by omega))]
    simp -dsimp [-wAppend_list, h1]
    refine app_b ha rfl (by omega) fun v T ha => ?_
    simp -dsimp [-wAppend_list, h1]
    have hb3 : (o2 ++ encs d.dt).length ≤ 12000000 := by simp only [List.length_append]; omega
    obtain ⟨o3, ho3⟩ : ∃ o, o = o2 ++ encs d.dt := ⟨_, rfl⟩
    rw [← ho3] at ha hb3
    refine nums_own (H := .live (cellsOf (deV d)) :: T) (a := d.rk) (l := [d.rt.length]) rfl j2 (by simp) ?_
    simp -dsimp [-wAppend_list, h3]
    refine app_b (ac_ext ha _) rfl (by omega) fun v T ha => ?_
    simp -dsimp [-wAppend_list, h1]
    have hb4 : (o3 ++ encs [d.rk, (d.rt.length : Int)]).length ≤ 12001000 := by simp only [List.length_append]; omega
    obtain ⟨o4, ho4⟩ : ∃ o, o = o3 ++ encs [d.rk, (d.rt.length : Int)] := ⟨_, rfl⟩
    rw [← ho4] at ha hb4
    refine xL_by (by kernel_rfl) (fun k e H => ∃ (i : Nat) (v : V) (T : List Ob), i ≤ d.rt.length ∧ k = d.rt.length - i ∧ e 1 = .ptr 0 0 ∧ e 5 = .int .i64 i ∧ e 3 = v ∧ H = .live (cellsOf (deV d)) :: T ∧ Ac 1 1 T v ((o4 ++ encL encSlo (d.rt.take i)).map (V.int .u8))) d.rt.length ?_ ?_
    · refine ⟨0, v, T, ?_⟩
      simp -dsimp [encL]
      first | exact ha | exact ⟨h1, ha⟩
    clear ha T v
    rintro k e H ⟨i, v, T, hi, hk, h1, hi4, h3, rfl, ha⟩
    have t1 : (encL encSlo (d.rt.take i)).length ≤ 130 * 1000 := Nat.le_trans (encL_len (k := 130) fun a ha => encSlo_len (h.rt a (List.mem_of_mem_take ha))) (Nat.mul_le_mul_left _ (by rw [List.length_take]; omega))
    by_cases hlt : i < d.rt.length
    · have hr := h.rt d.rt[i] (List.getElem_mem hlt)
      have e1 := encL_succ encSlo d.rt i hlt
      have t2 := encSlo_len hr
      have w2 : IntKind.i64.wrap ((i : Int) + 1) = ((i + 1 : Nat) : Int) := by rw [Fz.w64 (by omega) (by omega)]; omega
      have q := quiet_rnums (l := [d.rt[i].v, if d.rt[i].call then 1 else 0]) (c := true) (two_i hr (bit01 _)) (by simp)
      simp only [List.map_cons, List.map_nil] at q
      simp -dsimp [-wAppend_list, h1, hi4, h3, wFix_by, isInl, hlt, quiet_by (flags_s d.rt[i].call false), fillV, splice, wOpt, chunk, q]
      refine app_b (m := encSlo d.rt[i]) ha rfl (by simp only [List.length_append]; omega) fun v T ha => ?_
      simp -dsimp [-wAppend_list, h1, hi4, w2]
      refine ⟨d.rt.length - (i + 1), by omega, i + 1, v, T, by omega, rfl, ?_⟩
      simp -dsimp [h1]
      rw [e1]
      simpa [encSlo, List.append_assoc] using ha
    have hii : i = d.rt.length := by omega
    subst hii
    rw [List.take_length] at ha t1
    simp -dsimp [-wAppend_list, h1, hi4, h3, wFix_by, isInl, hlt]
    have hb5 : (o4 ++ encL encSlo d.rt).length ≤ 13000000 := by simp only [List.length_append]; omega
    obtain ⟨o5, ho5⟩ : ∃ o, o = o4 ++ encL encSlo d.rt := ⟨_, rfl⟩
    rw [← ho5] at ha hb5
    refine nums_own (H := .live (cellsOf (deV d)) :: T) (a := d.ck) (l := [d.ct.length]) rfl j3 (by simp) ?_
    simp -dsimp [-wAppend_list, h3]
    refine app_b (ac_ext ha _) rfl (by omega) fun v T ha => ?_
    simp -dsimp [-wAppend_list, h1]
    have hb6 : (o5 ++ encs [d.ck, (d.ct.length : Int)]).length ≤ 13001000 := by simp only [List.length_append]; omega
    obtain ⟨o6, ho6⟩ : ∃ o, o = o5 ++ encs [d.ck, (d.ct.length : Int)] := ⟨_, rfl⟩
    rw [← ho6] at ha hb6
    rw [call_by (refNums_s h.ct (by omega))]
    simp -dsimp [-wAppend_list, h1]
    refine app_b ha rfl (by omega) fun v T ha => ?_
    simp -dsimp [-wAppend_list, h1]
    have hb7 : (o6 ++ encs d.ct).length ≤ 14000000 := by simp only [List.length_append]; omega
    obtain ⟨o7, ho7⟩ : ∃ o, o = o6 ++ encs d.ct := ⟨_, rfl⟩
    rw [← ho7] at ha hb7
    refine nums_own (H := .live (cellsOf (deV d)) :: T) (a := d.wk) (l := [d.wt.length]) rfl j4 (by simp) ?_
    simp -dsimp [-wAppend_list, h3]
    refine app_b (ac_ext ha _) rfl (by omega) fun v T ha => ?_
    simp -dsimp [-wAppend_list, h1]
    have hb8 : (o7 ++ encs [d.wk, (d.wt.length : Int)]).length ≤ 14001000 := by simp only [List.length_append]; omega
    obtain ⟨o8, ho8⟩ : ∃ o, o = o7 ++ encs [d.wk, (d.wt.length : Int)] := ⟨_, rfl⟩
    rw [← ho8] at ha hb8
    refine xL_by (by kernel_rfl) (fun k e H => ∃ (i : Nat) (v : V) (T : List Ob), i ≤ d.wt.length ∧ k = d.wt.length - i ∧ e 1 = .ptr 0 0 ∧ e 6 = .int .i64 i ∧ e 3 = v ∧ H = .live (cellsOf (deV d)) :: T ∧ Ac 1 1 T v ((o8 ++ encL encWor (d.wt.take i)).map (V.int .u8))) d.wt.length ?_ ?_
    · refine ⟨0, v, T, ?_⟩
      simp -dsimp [encL]
      first | exact ha | exact ⟨h1, ha⟩
    clear ha T v
    rintro k e H ⟨i, v, T, hi, hk, h1, hi4, h3, rfl, ha⟩
    have t1 : (encL encWor (d.wt.take i)).length ≤ 1200 * 1000 := Nat.le_trans (encL_len (k := 1200) fun a ha => encWor_len (h.wt a (List.mem_of_mem_take ha))) (Nat.mul_le_mul_left _ (by rw [List.length_take]; omega))
    by_cases hlt : i < d.wt.length
    · have hr := h.wt d.wt[i] (List.getElem_mem hlt)
      have e1 := encL_succ encWor d.wt i hlt
      have t2 := encWor_len hr
      have w2 : IntKind.i64.wrap ((i : Int) + 1) = ((i + 1 : Nat) : Int) := by rw [Fz.w64 (by omega) (by omega)]; omega
      have q := quiet_rnums (l := [d.wt[i].code, flg d.wt[i].now d.wt[i].hid]) (c := true) (two_i hr.1 (flg_i _ _)) (by simp)
      simp only [List.map_cons, List.map_nil] at q
      have f := flags_s d.wt[i].now d.wt[i].hid
      rw [show ((if d.wt[i].now = true then (1 : Int) else 0) + (if d.wt[i].hid = true then 2 else 0)) = flg d.wt[i].now d.wt[i].hid from rfl] at f
      have q1 : (encWor d.wt[i]).length = (txt (nmB d.wt[i].name)).length + (encs [d.wt[i].code, flg d.wt[i].now d.wt[i].hid]).length := by simp [encWor]
      simp -dsimp [-wAppend_list, h1, hi4, h3, wFix_by, isInl, hlt, nmB_V]
      rw [show (V.list ((nmB d.wt[i].name).map (V.int .u8)) false) = byV (nmB d.wt[i].name) from rfl, call_by (refTextE (b := nmB d.wt[i].name) (by omega))]
      simp -dsimp [-wAppend_list, h1, hi4, h3, wFix_by, isInl, hlt]
      refine app_b2 ha rfl (by simp only [List.length_append]; omega) fun v T' G hT ha => ?_
      rw [← hT]
      simp -dsimp [-wAppend_list, h1, hi4, h3, wFix_by, isInl, hlt, quiet_by f, fillV, splice, wOpt, chunk, q]
      refine app_b (m := encs [d.wt[i].code, flg d.wt[i].now d.wt[i].hid]) ha rfl (by simp only [List.length_append]; omega) fun v T ha => ?_
      simp -dsimp [-wAppend_list, h1, hi4, w2]
      refine ⟨d.wt.length - (i + 1), by omega, i + 1, v, T, by omega, rfl, ?_⟩
      simp -dsimp [h1]
      rw [e1]
      simpa [encWor, List.append_assoc] using ha
    have hii : i = d.wt.length := by omega
    subst hii
    rw [List.take_length] at ha t1
    simp -dsimp [-wAppend_list, h1, hi4, h3, wFix_by, isInl, hlt]
    have hb9 : (o8 ++ encL encWor d.wt).length ≤ 16000000 := by simp only [List.length_append]; omega
    obtain ⟨o9, ho9⟩ : ∃ o, o = o8 ++ encL encWor d.wt := ⟨_, rfl⟩
    rw [← ho9] at ha hb9
    refine nums_own (H := .live (cellsOf (deV d)) :: T) (a := d.sk) (l := [d.st.length]) rfl j5 (by simp) ?_
    simp -dsimp [-wAppend_list, h3]
    refine app_b (ac_ext ha _) rfl (by omega) fun v T ha => ?_
    simp -dsimp [-wAppend_list, h1]
    have hb10 : (o9 ++ encs [d.sk, (d.st.length : Int)]).length ≤ 16001000 := by simp only [List.length_append]; omega
    obtain ⟨o10, ho10⟩ : ∃ o, o = o9 ++ encs [d.sk, (d.st.length : Int)] := ⟨_, rfl⟩
    rw [← ho10] at ha hb10
    refine xL_by (by kernel_rfl) (fun k e H => ∃ (i : Nat) (v : V) (T : List Ob), i ≤ d.st.length ∧ k = d.st.length - i ∧ e 1 = .ptr 0 0 ∧ e 8 = .int .i64 i ∧ e 3 = v ∧ H = .live (cellsOf (deV d)) :: T ∧ Ac 1 1 T v ((o10 ++ encL encSpo (d.st.take i)).map (V.int .u8))) d.st.length ?_ ?_
    · refine ⟨0, v, T, ?_⟩
      simp -dsimp [encL]
      first | exact ha | exact ⟨h1, ha⟩
    clear ha T v
    rintro k e H ⟨i, v, T, hi, hk, h1, hi4, h3, rfl, ha⟩
    have t1 : (encL encSpo (d.st.take i)).length ≤ 130 * 1000 := Nat.le_trans (encL_len (k := 130) fun a ha => encSpo_len (h.st a (List.mem_of_mem_take ha))) (Nat.mul_le_mul_left _ (by rw [List.length_take]; omega))
    by_cases hlt : i < d.st.length
    · have hr := h.st d.st[i] (List.getElem_mem hlt)
      have e1 := encL_succ encSpo d.st i hlt
      have t2 := encSpo_len hr
      have w2 : IntKind.i64.wrap ((i : Int) + 1) = ((i + 1 : Nat) : Int) := by rw [Fz.w64 (by omega) (by omega)]; omega
      have q := quiet_rnums (l := [d.st[i].addr, d.st[i].at_]) (c := true) (two_i hr.1 hr.2) (by simp)
      simp only [List.map_cons, List.map_nil] at q
      simp -dsimp [-wAppend_list, h1, hi4, h3, wFix_by, isInl, hlt, fillV, splice, wOpt, chunk, q]
      refine app_b (m := encSpo d.st[i]) ha rfl (by simp only [List.length_append]; omega) fun v T ha => ?_
      simp -dsimp [-wAppend_list, h1, hi4, w2]
      refine ⟨d.st.length - (i + 1), by omega, i + 1, v, T, by omega, rfl, ?_⟩
      simp -dsimp [h1]
      rw [e1]
      simpa [encSpo, List.append_assoc] using ha
    have hii : i = d.st.length := by omega
    subst hii
    rw [List.take_length] at ha t1
    simp -dsimp [-wAppend_list, h1, hi4, h3, wFix_by, isInl, hlt]
    have hb11 : (o10 ++ encL encSpo d.st).length ≤ 17000000 := by simp only [List.length_append]; omega
    obtain ⟨o11, ho11⟩ : ∃ o, o = o10 ++ encL encSpo d.st := ⟨_, rfl⟩
    rw [← ho11] at ha hb11
    refine nums_own (H := .live (cellsOf (deV d)) :: T) (a := d.out) (l := []) rfl (one_i h.out) (by simp) ?_
    have p6 : (encs [d.out]).length ≤ 65 * 1 := encs_len (one_i h.out)
    have p7 : (encs [d.r0, d.r1, d.r2, d.r3, d.r4, d.r5]).length ≤ 65 * 6 := encs_len h.regs
    have p8 : (encs [flg d.comp d.halt]).length ≤ 65 * 1 := encs_len (one_i (flg_i _ _))
    simp -dsimp [-wAppend_list, h3]
    refine app_b (ac_ext ha _) rfl (by omega) fun v T ha => ?_
    simp -dsimp [-wAppend_list, h1]
    refine call_frz rfl ?_
    simp -dsimp [-wAppend_list]
    have c6 := refNums_s h.regs (by simp)
    simp only [inV, List.map_cons, List.map_nil] at c6
    rw [callN_by c6]
    simp -dsimp [-wAppend_list]
    refine app_b ha rfl (by simp only [List.length_append]; omega) fun v T ha => ?_
    have f := flags_s d.comp d.halt
    rw [show ((if d.comp = true then (1 : Int) else 0) + (if d.halt = true then 2 else 0)) = flg d.comp d.halt from rfl] at f
    simp -dsimp [-wAppend_list, h1, call_by f]
    refine nums_own (H := .fixed (cellsOf (deV d)) :: T) (a := flg d.comp d.halt) (l := []) rfl (one_i (flg_i _ _)) (by simp) ?_
    simp -dsimp [-wAppend_list]
    refine app_b (ac_ext ha _) rfl (by simp only [List.length_append]; omega) fun v T ha => ?_
    simp -dsimp [wFix_by, isInl]
    refine frz_ac (b := 1) ?_
    rw [List.drop_succ_cons, List.drop_zero]
    have e : o11 ++ encs [d.out] ++ encs [d.r0, d.r1, d.r2, d.r3, d.r4, d.r5] ++ encs [flg d.comp d.halt] = encD d := by
      subst ho11; subst ho10; subst ho9; subst ho8; subst ho7; subst ho6; subst ho5; subst ho4; subst ho3; subst ho2; subst ho1
      simp only [encD, encs, cat, List.map_cons, List.map_nil, List.flatten_cons, List.flatten_nil, List.append_nil, List.append_assoc]
    rw [e] at ha
    exact ha
end Fz.D
set_option maxRecDepth 100000
namespace Fz.D
open Go
def shr {α : Type} (q : α → α → Bool) : List α → List α → Nat
  | a :: x, b :: y => if q a b then shr q x y + 1 else 0
  | _, _ => 0
theorem shr_step {α : Type} {q : α → α → Bool} {a b : List α} {i : Nat} (h1 : i < a.length) (h2 : i < b.length) (h : q a[i] b[i] = true) : shr q (a.drop i) (b.drop i) = shr q (a.drop (i + 1)) (b.drop (i + 1)) + 1 := by
  rw [List.drop_eq_getElem_cons h1, List.drop_eq_getElem_cons h2, shr, if_pos h]
theorem shr_stop {α : Type} {q : α → α → Bool} {a b : List α} {i : Nat} (h1 : i < a.length) (h2 : i < b.length) (h : q a[i] b[i] = false) : shr q (a.drop i) (b.drop i) = 0 := by
  rw [List.drop_eq_getElem_cons h1, List.drop_eq_getElem_cons h2, shr, if_neg (by rw [h]; simp)]
theorem shr_end1 {α : Type} {q : α → α → Bool} {a b : List α} {i : Nat} (h1 : ¬ i < a.length) : shr q (a.drop i) (b.drop i) = 0 := by
  rw [List.drop_eq_nil_of_le (by omega)]; simp [shr]
theorem shr_end2 {α : Type} {q : α → α → Bool} {a b : List α} {i : Nat} (h1 : ¬ i < b.length) : shr q (a.drop i) (b.drop i) = 0 := by
  rw [List.drop_eq_nil_of_le (show b.length ≤ i by omega)]
  cases a.drop i <;> simp [shr]
theorem shr_le {α : Type} {q : α → α → Bool} : ∀ (a b : List α), shr q a b ≤ a.length ∧ shr q a b ≤ b.length
  | a :: x, b :: y => by
    have := shr_le (q := q) x y
    unfold shr
    split <;> simp <;> omega
  | [], b => by simp [shr]
  | _ :: _, [] => by simp [shr]
theorem drop_map {α β : Type} (f : α → β) (l : List α) (n : Nat) : List.drop n (List.map f l) = (l.drop n).map f := List.map_drop.symm
theorem map_tail2 {α β : Type} (f : α → β) (l : List α) (n : Nat) : List.take (l.length - n) (List.map f (List.drop n l)) = (l.drop n).map f := List.take_of_length_le (by simp)
def inQ (a b : Int) : Bool := decide (a = b)
def sloQ (a b : Slo) : Bool := decide (a.v = b.v) && (a.call == b.call)
def worQ (a b : Wor) : Bool := decide (a.name = b.name) && (decide (a.code = b.code) && ((a.now == b.now) && (a.hid == b.hid)))
def spoQ (a b : Spo) : Bool := decide (a.addr = b.addr) && decide (a.at_ = b.at_)
theorem int_beq (a b : Int) : (a == b) = decide (a = b) := rfl
theorem slo_leaves (a b : Slo) : eqLeaves [.int .i64 a.v, .bool a.call] [.int .i64 b.v, .bool b.call] [(0, .int), (1, .bool)] = some (sloQ a b) := by
  unfold sloQ
  simp only [eqLeaves, leafEq, List.getElem?_cons_zero, List.getElem?_cons_succ, if_true, int_beq]
  cases decide (a.v = b.v) <;> cases (a.call == b.call) <;> rfl
theorem wor_leaves (a b : Wor) : eqLeaves [.str a.name, .int .i64 a.code, .bool a.now, .bool a.hid] [.str b.name, .int .i64 b.code, .bool b.now, .bool b.hid] [(0, .str), (1, .int), (2, .bool), (3, .bool)] = some (worQ a b) := by
  unfold worQ
  simp only [eqLeaves, leafEq, List.getElem?_cons_zero, List.getElem?_cons_succ, if_true, int_beq, bytes_beq]
  cases decide (a.name = b.name) <;> cases decide (a.code = b.code) <;> cases (a.now == b.now) <;> cases (a.hid == b.hid) <;> rfl
theorem spo_leaves (a b : Spo) : eqLeaves [.int .i64 a.addr, .int .i64 a.at_] [.int .i64 b.addr, .int .i64 b.at_] [(0, .int), (1, .int)] = some (spoQ a b) := by
  unfold spoQ
  simp only [eqLeaves, leafEq, List.getElem?_cons_zero, List.getElem?_cons_succ, if_true, int_beq]
  cases decide (a.addr = b.addr) <;> cases decide (a.at_ = b.at_) <;> rfl
theorem inQ_eq {a b : Int} : decide (a = b) = inQ a b := rfl
theorem shareInt_s {a b : List Int} (ha : a.length ≤ 1000000) (hb : b.length ≤ 1000000) : Comes p 62 [inV a, inV b] (.int .i64 (shr inQ a b : Nat)) := by
  refine Comes_of w62 rfl rfl k62 ?_ ?_ ?_ ?_
  · simp
  · simp
  · simp
  · simp -dsimp [w62, wFix_by, isInl]
    refine xL_by (by kernel_rfl) (fun k e H => ∃ i : Nat, i ≤ a.length ∧ k = a.length - i ∧ e 0 = inV a ∧ e 1 = inV b ∧ e 5 = .int .i64 i ∧ shr inQ a b = i + shr inQ (a.drop i) (b.drop i) ∧ H = []) a.length ?_ ?_
    · exact ⟨0, by simp⟩
    · rintro k e H ⟨i, hi, hk, h0, h1, h5, hr, rfl⟩
      have h2 := h5
      by_cases c1 : i < a.length
      · by_cases c2 : i < b.length
        · have g1 : a[i]?.getD default = a[i] := by simp [c1]
          have g2 : b[i]?.getD default = b[i] := by simp [c2]
          cases c3 : inQ a[i] b[i] with
          | true =>
            have w2 : IntKind.i64.wrap ((i : Int) + 1) = ((i + 1 : Nat) : Int) := by rw [Fz.w64 (by omega) (by omega)]; omega
            have hs := shr_step c1 c2 c3
            simp -dsimp [h0, h1, h5, wFix_by, isInl, inV, c1, c2, g1, g2, h2, wOpt, w2, inQ_eq, c3]
            refine ⟨a.length - (i + 1), by omega, i + 1, by omega, rfl, ?_⟩
            simp -dsimp [h0, h1, h5, h2, inV]
            omega
          | false =>
            have hz := shr_stop c1 c2 c3
            have hs : shr inQ a b = i := by omega
            simp -dsimp [h0, h1, h5, wFix_by, isInl, h2, hs, inV, wOpt, c1, c2, g1, g2, inQ_eq, c3]
        · have hz := shr_end2 (q := inQ) (a := a) c2
          have hs : shr inQ a b = i := by omega
          simp -dsimp [h0, h1, h5, wFix_by, isInl, h2, hs, inV, wOpt, c1, c2]
      · have hz := shr_end1 (q := inQ) (b := b) c1
        have hs : shr inQ a b = i := by omega
        simp -dsimp [h0, h1, h5, wFix_by, isInl, h2, hs, inV, wOpt, c1]
theorem cut_s {a b : List Int} (ha : a.length ≤ 1000000) (hb : b.length ≤ 1000000) : Comes p 70 [inV a, inV b] (.agg [.int .i64 (shr inQ a b : Nat), inV (a.drop (shr inQ a b))]) := by
  refine Comes_of w70 rfl rfl k70 ?_ ?_ ?_ ?_
  · simp
  · simp
  · simp
  · simp -dsimp [w70, wFix_by, isInl]
    refine xL_by (by kernel_rfl) (fun k e H => ∃ i : Nat, i ≤ a.length ∧ k = a.length - i ∧ e 0 = inV a ∧ e 1 = inV b ∧ e 5 = .int .i64 i ∧ shr inQ a b = i + shr inQ (a.drop i) (b.drop i) ∧ e 4 = .ptr 0 0 ∧ H = [.live [.int .i64 0, .list [] true]]) a.length ?_ ?_
    · exact ⟨0, by simp⟩
    · rintro k e H ⟨i, hi, hk, h0, h1, h5, hr, h2, rfl⟩
      
      by_cases c1 : i < a.length
      · by_cases c2 : i < b.length
        · have g1 : a[i]?.getD default = a[i] := by simp [c1]
          have g2 : b[i]?.getD default = b[i] := by simp [c2]
          cases c3 : inQ a[i] b[i] with
          | true =>
            have w2 : IntKind.i64.wrap ((i : Int) + 1) = ((i + 1 : Nat) : Int) := by rw [Fz.w64 (by omega) (by omega)]; omega
            have hs := shr_step c1 c2 c3
            simp -dsimp [h0, h1, h5, wFix_by, isInl, inV, c1, c2, g1, g2, h2, wOpt, w2, inQ_eq, c3]
            refine ⟨a.length - (i + 1), by omega, i + 1, by omega, rfl, ?_⟩
            simp -dsimp [h0, h1, h5, h2, inV]
            omega
          | false =>
            have hz := shr_stop c1 c2 c3
            have hs : shr inQ a b = i := by omega
            have hle := (shr_le (q := inQ) a b).1
            rw [hs] at hle
            simp -dsimp [-List.map_drop, drop_map, h0, h1, h5, wFix_by, isInl, h2, hs, inV, map_tail2, wOpt, c1, c2, g1, g2, inQ_eq, c3]
            first | done | omega
        · have hz := shr_end2 (q := inQ) (a := a) c2
          have hs : shr inQ a b = i := by omega
          have hle := (shr_le (q := inQ) a b).1
          rw [hs] at hle
          simp -dsimp [-List.map_drop, drop_map, h0, h1, h5, wFix_by, isInl, h2, hs, inV, map_tail2, wOpt, c1, c2]
          first | done | omega
      · have hz := shr_end1 (q := inQ) (b := b) c1
        have hs : shr inQ a b = i := by omega
        have hle := (shr_le (q := inQ) a b).1
        rw [hs] at hle
        simp -dsimp [-List.map_drop, drop_map, h0, h1, h5, wFix_by, isInl, h2, hs, inV, map_tail2, wOpt, c1]
        first | done | omega
theorem shareSlo_s {a b : List Slo} (ha : a.length ≤ 1000000) (hb : b.length ≤ 1000000) : Comes p 63 [slosV a, slosV b] (.int .i64 (shr sloQ a b : Nat)) := by
  refine Comes_of w63 rfl rfl k63 ?_ ?_ ?_ ?_
  · simp
  · simp
  · simp
  · simp -dsimp [w63, wFix_by, isInl]
    refine xL_by (by kernel_rfl) (fun k e H => ∃ i : Nat, i ≤ a.length ∧ k = a.length - i ∧ e 0 = slosV a ∧ e 1 = slosV b ∧ e 5 = .int .i64 i ∧ shr sloQ a b = i + shr sloQ (a.drop i) (b.drop i) ∧ H = []) a.length ?_ ?_
    · exact ⟨0, by simp⟩
    · rintro k e H ⟨i, hi, hk, h0, h1, h5, hr, rfl⟩
      have h2 := h5
      by_cases c1 : i < a.length
      · by_cases c2 : i < b.length
        · have g1 : a[i]?.getD default = a[i] := by simp [c1]
          have g2 : b[i]?.getD default = b[i] := by simp [c2]
          cases c3 : sloQ a[i] b[i] with
          | true =>
            have w2 : IntKind.i64.wrap ((i : Int) + 1) = ((i + 1 : Nat) : Int) := by rw [Fz.w64 (by omega) (by omega)]; omega
            have hs := shr_step c1 c2 c3
            simp -dsimp [h0, h1, h5, wFix_by, isInl, slosV, c1, c2, g1, g2, h2, slo_leaves, wOpt, w2, c3]
            refine ⟨a.length - (i + 1), by omega, i + 1, by omega, rfl, ?_⟩
            simp -dsimp [h0, h1, h5, h2, slosV]
            omega
          | false =>
            have hz := shr_stop c1 c2 c3
            have hs : shr sloQ a b = i := by omega
            simp -dsimp [h0, h1, h5, wFix_by, isInl, h2, hs, slosV, wOpt, c1, c2, g1, g2, slo_leaves, c3]
        · have hz := shr_end2 (q := sloQ) (a := a) c2
          have hs : shr sloQ a b = i := by omega
          simp -dsimp [h0, h1, h5, wFix_by, isInl, h2, hs, slosV, wOpt, c1, c2]
      · have hz := shr_end1 (q := sloQ) (b := b) c1
        have hs : shr sloQ a b = i := by omega
        simp -dsimp [h0, h1, h5, wFix_by, isInl, h2, hs, slosV, wOpt, c1]
theorem frames_s {a b : List Slo} (ha : a.length ≤ 1000000) (hb : b.length ≤ 1000000) : Comes p 71 [slosV a, slosV b] (.agg [.int .i64 (shr sloQ a b : Nat), slosV (a.drop (shr sloQ a b))]) := by
  refine Comes_of w71 rfl rfl k71 ?_ ?_ ?_ ?_
  · simp
  · simp
  · simp
  · simp -dsimp [w71, wFix_by, isInl]
    refine xL_by (by kernel_rfl) (fun k e H => ∃ i : Nat, i ≤ a.length ∧ k = a.length - i ∧ e 0 = slosV a ∧ e 1 = slosV b ∧ e 5 = .int .i64 i ∧ shr sloQ a b = i + shr sloQ (a.drop i) (b.drop i) ∧ e 4 = .ptr 0 0 ∧ H = [.live [.int .i64 0, .list [] true]]) a.length ?_ ?_
    · exact ⟨0, by simp⟩
    · rintro k e H ⟨i, hi, hk, h0, h1, h5, hr, h2, rfl⟩
      
      by_cases c1 : i < a.length
      · by_cases c2 : i < b.length
        · have g1 : a[i]?.getD default = a[i] := by simp [c1]
          have g2 : b[i]?.getD default = b[i] := by simp [c2]
          cases c3 : sloQ a[i] b[i] with
          | true =>
            have w2 : IntKind.i64.wrap ((i : Int) + 1) = ((i + 1 : Nat) : Int) := by rw [Fz.w64 (by omega) (by omega)]; omega
            have hs := shr_step c1 c2 c3
            simp -dsimp [h0, h1, h5, wFix_by, isInl, slosV, c1, c2, g1, g2, h2, slo_leaves, wOpt, w2, c3]
            refine ⟨a.length - (i + 1), by omega, i + 1, by omega, rfl, ?_⟩
            simp -dsimp [h0, h1, h5, h2, slosV]
            omega
          | false =>
            have hz := shr_stop c1 c2 c3
            have hs : shr sloQ a b = i := by omega
            have hle := (shr_le (q := sloQ) a b).1
            rw [hs] at hle
            simp -dsimp [-List.map_drop, drop_map, h0, h1, h5, wFix_by, isInl, h2, hs, slosV, map_tail2, wOpt, c1, c2, g1, g2, slo_leaves, c3]
            first | done | omega
        · have hz := shr_end2 (q := sloQ) (a := a) c2
          have hs : shr sloQ a b = i := by omega
          have hle := (shr_le (q := sloQ) a b).1
          rw [hs] at hle
          simp -dsimp [-List.map_drop, drop_map, h0, h1, h5, wFix_by, isInl, h2, hs, slosV, map_tail2, wOpt, c1, c2]
          first | done | omega
      · have hz := shr_end1 (q := sloQ) (b := b) c1
        have hs : shr sloQ a b = i := by omega
        have hle := (shr_le (q := sloQ) a b).1
        rw [hs] at hle
        simp -dsimp [-List.map_drop, drop_map, h0, h1, h5, wFix_by, isInl, h2, hs, slosV, map_tail2, wOpt, c1]
        first | done | omega
theorem shareWor_s {a b : List Wor} (ha : a.length ≤ 1000000) (hb : b.length ≤ 1000000) : Comes p 64 [worsV a, worsV b] (.int .i64 (shr worQ a b : Nat)) := by
  refine Comes_of w64 rfl rfl k64 ?_ ?_ ?_ ?_
  · simp
  · simp
  · simp
  · simp -dsimp [w64, wFix_by, isInl]
    refine xL_by (by kernel_rfl) (fun k e H => ∃ i : Nat, i ≤ a.length ∧ k = a.length - i ∧ e 0 = worsV a ∧ e 1 = worsV b ∧ e 5 = .int .i64 i ∧ shr worQ a b = i + shr worQ (a.drop i) (b.drop i) ∧ H = []) a.length ?_ ?_
    · exact ⟨0, by simp⟩
    · rintro k e H ⟨i, hi, hk, h0, h1, h5, hr, rfl⟩
      have h2 := h5
      by_cases c1 : i < a.length
      · by_cases c2 : i < b.length
        · have g1 : a[i]?.getD default = a[i] := by simp [c1]
          have g2 : b[i]?.getD default = b[i] := by simp [c2]
          cases c3 : worQ a[i] b[i] with
          | true =>
            have w2 : IntKind.i64.wrap ((i : Int) + 1) = ((i + 1 : Nat) : Int) := by rw [Fz.w64 (by omega) (by omega)]; omega
            have hs := shr_step c1 c2 c3
            simp -dsimp [h0, h1, h5, wFix_by, isInl, worsV, c1, c2, g1, g2, h2, wor_leaves, wOpt, w2, c3]
            refine ⟨a.length - (i + 1), by omega, i + 1, by omega, rfl, ?_⟩
            simp -dsimp [h0, h1, h5, h2, worsV]
            omega
          | false =>
            have hz := shr_stop c1 c2 c3
            have hs : shr worQ a b = i := by omega
            simp -dsimp [h0, h1, h5, wFix_by, isInl, h2, hs, worsV, wOpt, c1, c2, g1, g2, wor_leaves, c3]
        · have hz := shr_end2 (q := worQ) (a := a) c2
          have hs : shr worQ a b = i := by omega
          simp -dsimp [h0, h1, h5, wFix_by, isInl, h2, hs, worsV, wOpt, c1, c2]
      · have hz := shr_end1 (q := worQ) (b := b) c1
        have hs : shr worQ a b = i := by omega
        simp -dsimp [h0, h1, h5, wFix_by, isInl, h2, hs, worsV, wOpt, c1]
theorem names_s {a b : List Wor} (ha : a.length ≤ 1000000) (hb : b.length ≤ 1000000) : Comes p 72 [worsV a, worsV b] (.agg [.int .i64 (shr worQ a b : Nat), worsV (a.drop (shr worQ a b))]) := by
  refine Comes_of w72 rfl rfl k72 ?_ ?_ ?_ ?_
  · simp
  · simp
  · simp
  · simp -dsimp [w72, wFix_by, isInl]
    refine xL_by (by kernel_rfl) (fun k e H => ∃ i : Nat, i ≤ a.length ∧ k = a.length - i ∧ e 0 = worsV a ∧ e 1 = worsV b ∧ e 5 = .int .i64 i ∧ shr worQ a b = i + shr worQ (a.drop i) (b.drop i) ∧ e 4 = .ptr 0 0 ∧ H = [.live [.int .i64 0, .list [] true]]) a.length ?_ ?_
    · exact ⟨0, by simp⟩
    · rintro k e H ⟨i, hi, hk, h0, h1, h5, hr, h2, rfl⟩
      
      by_cases c1 : i < a.length
      · by_cases c2 : i < b.length
        · have g1 : a[i]?.getD default = a[i] := by simp [c1]
          have g2 : b[i]?.getD default = b[i] := by simp [c2]
          cases c3 : worQ a[i] b[i] with
          | true =>
            have w2 : IntKind.i64.wrap ((i : Int) + 1) = ((i + 1 : Nat) : Int) := by rw [Fz.w64 (by omega) (by omega)]; omega
            have hs := shr_step c1 c2 c3
            simp -dsimp [h0, h1, h5, wFix_by, isInl, worsV, c1, c2, g1, g2, h2, wor_leaves, wOpt, w2, c3]
            refine ⟨a.length - (i + 1), by omega, i + 1, by omega, rfl, ?_⟩
            simp -dsimp [h0, h1, h5, h2, worsV]
            omega
          | false =>
            have hz := shr_stop c1 c2 c3
            have hs : shr worQ a b = i := by omega
            have hle := (shr_le (q := worQ) a b).1
            rw [hs] at hle
            simp -dsimp [-List.map_drop, drop_map, h0, h1, h5, wFix_by, isInl, h2, hs, worsV, map_tail2, wOpt, c1, c2, g1, g2, wor_leaves, c3]
            first | done | omega
        · have hz := shr_end2 (q := worQ) (a := a) c2
          have hs : shr worQ a b = i := by omega
          have hle := (shr_le (q := worQ) a b).1
          rw [hs] at hle
          simp -dsimp [-List.map_drop, drop_map, h0, h1, h5, wFix_by, isInl, h2, hs, worsV, map_tail2, wOpt, c1, c2]
          first | done | omega
      · have hz := shr_end1 (q := worQ) (b := b) c1
        have hs : shr worQ a b = i := by omega
        have hle := (shr_le (q := worQ) a b).1
        rw [hs] at hle
        simp -dsimp [-List.map_drop, drop_map, h0, h1, h5, wFix_by, isInl, h2, hs, worsV, map_tail2, wOpt, c1]
        first | done | omega
theorem shareSpo_s {a b : List Spo} (ha : a.length ≤ 1000000) (hb : b.length ≤ 1000000) : Comes p 65 [sposV a, sposV b] (.int .i64 (shr spoQ a b : Nat)) := by
  refine Comes_of w65 rfl rfl k65 ?_ ?_ ?_ ?_
  · simp
  · simp
  · simp
  · simp -dsimp [w65, wFix_by, isInl]
    refine xL_by (by kernel_rfl) (fun k e H => ∃ i : Nat, i ≤ a.length ∧ k = a.length - i ∧ e 0 = sposV a ∧ e 1 = sposV b ∧ e 5 = .int .i64 i ∧ shr spoQ a b = i + shr spoQ (a.drop i) (b.drop i) ∧ H = []) a.length ?_ ?_
    · exact ⟨0, by simp⟩
    · rintro k e H ⟨i, hi, hk, h0, h1, h5, hr, rfl⟩
      have h2 := h5
      by_cases c1 : i < a.length
      · by_cases c2 : i < b.length
        · have g1 : a[i]?.getD default = a[i] := by simp [c1]
          have g2 : b[i]?.getD default = b[i] := by simp [c2]
          cases c3 : spoQ a[i] b[i] with
          | true =>
            have w2 : IntKind.i64.wrap ((i : Int) + 1) = ((i + 1 : Nat) : Int) := by rw [Fz.w64 (by omega) (by omega)]; omega
            have hs := shr_step c1 c2 c3
            simp -dsimp [h0, h1, h5, wFix_by, isInl, sposV, c1, c2, g1, g2, h2, spo_leaves, wOpt, w2, c3]
            refine ⟨a.length - (i + 1), by omega, i + 1, by omega, rfl, ?_⟩
            simp -dsimp [h0, h1, h5, h2, sposV]
            omega
          | false =>
            have hz := shr_stop c1 c2 c3
            have hs : shr spoQ a b = i := by omega
            simp -dsimp [h0, h1, h5, wFix_by, isInl, h2, hs, sposV, wOpt, c1, c2, g1, g2, spo_leaves, c3]
        · have hz := shr_end2 (q := spoQ) (a := a) c2
          have hs : shr spoQ a b = i := by omega
          simp -dsimp [h0, h1, h5, wFix_by, isInl, h2, hs, sposV, wOpt, c1, c2]
      · have hz := shr_end1 (q := spoQ) (b := b) c1
        have hs : shr spoQ a b = i := by omega
        simp -dsimp [h0, h1, h5, wFix_by, isInl, h2, hs, sposV, wOpt, c1]
theorem places_s {a b : List Spo} (ha : a.length ≤ 1000000) (hb : b.length ≤ 1000000) : Comes p 73 [sposV a, sposV b] (.agg [.int .i64 (shr spoQ a b : Nat), sposV (a.drop (shr spoQ a b))]) := by
  refine Comes_of w73 rfl rfl k73 ?_ ?_ ?_ ?_
  · simp
  · simp
  · simp
  · simp -dsimp [w73, wFix_by, isInl]
    refine xL_by (by kernel_rfl) (fun k e H => ∃ i : Nat, i ≤ a.length ∧ k = a.length - i ∧ e 0 = sposV a ∧ e 1 = sposV b ∧ e 5 = .int .i64 i ∧ shr spoQ a b = i + shr spoQ (a.drop i) (b.drop i) ∧ e 4 = .ptr 0 0 ∧ H = [.live [.int .i64 0, .list [] true]]) a.length ?_ ?_
    · exact ⟨0, by simp⟩
    · rintro k e H ⟨i, hi, hk, h0, h1, h5, hr, h2, rfl⟩
      
      by_cases c1 : i < a.length
      · by_cases c2 : i < b.length
        · have g1 : a[i]?.getD default = a[i] := by simp [c1]
          have g2 : b[i]?.getD default = b[i] := by simp [c2]
          cases c3 : spoQ a[i] b[i] with
          | true =>
            have w2 : IntKind.i64.wrap ((i : Int) + 1) = ((i + 1 : Nat) : Int) := by rw [Fz.w64 (by omega) (by omega)]; omega
            have hs := shr_step c1 c2 c3
            simp -dsimp [h0, h1, h5, wFix_by, isInl, sposV, c1, c2, g1, g2, h2, spo_leaves, wOpt, w2, c3]
            refine ⟨a.length - (i + 1), by omega, i + 1, by omega, rfl, ?_⟩
            simp -dsimp [h0, h1, h5, h2, sposV]
            omega
          | false =>
            have hz := shr_stop c1 c2 c3
            have hs : shr spoQ a b = i := by omega
            have hle := (shr_le (q := spoQ) a b).1
            rw [hs] at hle
            simp -dsimp [-List.map_drop, drop_map, h0, h1, h5, wFix_by, isInl, h2, hs, sposV, map_tail2, wOpt, c1, c2, g1, g2, spo_leaves, c3]
            first | done | omega
        · have hz := shr_end2 (q := spoQ) (a := a) c2
          have hs : shr spoQ a b = i := by omega
          have hle := (shr_le (q := spoQ) a b).1
          rw [hs] at hle
          simp -dsimp [-List.map_drop, drop_map, h0, h1, h5, wFix_by, isInl, h2, hs, sposV, map_tail2, wOpt, c1, c2]
          first | done | omega
      · have hz := shr_end1 (q := spoQ) (b := b) c1
        have hs : shr spoQ a b = i := by omega
        have hle := (shr_le (q := spoQ) a b).1
        rw [hs] at hle
        simp -dsimp [-List.map_drop, drop_map, h0, h1, h5, wFix_by, isInl, h2, hs, sposV, map_tail2, wOpt, c1]
        first | done | omega
end Fz.D
set_option maxRecDepth 100000
namespace Fz.D
open Go
def gt (a : List Int) (i : Nat) : Int := a.getD i 0
theorem gt_at {a : List Int} {i : Nat} (h : i < a.length) : a[i] = gt a i := by simp [gt, h]
def rn (a : List Int) (s i : Nat) : Rn := ⟨s, (a.drop s).take (i - s)⟩
def fin (a : List Int) (g : List Rn × Nat) (i : Nat) : List Rn := if g.2 < i then g.1 ++ [rn a g.2 i] else g.1
def G (a b : List Int) : Nat → List Rn × Nat
  | 0 => ([], 0)
  | i + 1 => if gt a i = gt b i then (fin a (G a b i) i, i + 1) else G a b i
def runsF (a b : List Int) : List Rn := fin a (G a b a.length) a.length
theorem G_le (a b : List Int) : ∀ i, (G a b i).2 ≤ i
  | 0 => Nat.le_refl _
  | i + 1 => by
    have := G_le a b i
    unfold G
    split
    · exact Nat.le_refl _
    · exact Nat.le_succ_of_le this
theorem G_prev (a b : List Int) (i : Nat) : (G a b (i + 1)).2 < i + 1 ↔ gt a i ≠ gt b i := by
  have := G_le a b i
  rw [G]
  split
  · rename_i h; simp [h]
  · rename_i h; simp only [h, ne_eq, not_false_eq_true, iff_true]; omega
theorem fin_same {a b : List Int} {i : Nat} (h : gt a i = gt b i) : fin a (G a b (i + 1)) (i + 1) = fin a (G a b i) i := by
  rw [G, if_pos h]
  generalize fin a (G a b i) i = x
  simp [fin]
theorem fin_more {a b : List Int} {i : Nat} (h : gt a i ≠ gt b i) : fin a (G a b (i + 1)) (i + 1) = (G a b i).1 ++ [rn a (G a b i).2 (i + 1)] := by
  have := G_le a b i
  rw [G, if_neg h]
  unfold fin
  rw [if_pos (by omega)]
theorem flat_runs (l : List Rn) : (flat (l.map runV)).length = l.length * 2 := by rw [uni_flat (n := 2) (by simp)]; simp
theorem fin_len (a b : List Int) : ∀ i, (fin a (G a b i) i).length ≤ i
  | 0 => by simp [fin, G]
  | i + 1 => by
    have h1 := fin_len a b i
    by_cases h : gt a i = gt b i
    · rw [fin_same h]; omega
    · rw [fin_more h]
      unfold fin at h1
      split at h1 <;> simp at h1 ⊢ <;> omega
theorem acc_len {n b : Nat} {J : List Ob} {v : V} {l : List V} (h : Acc n b J v l) {K : V → Prop} : wSl v (fun l _ => wVal (V.int .i64 l.length) fun v => K v) (fun _ _ n _ => K (.int .i64 n)) = K (.int .i64 l.length) := by
  obtain ⟨_, _, h3⟩ := h
  rcases h3 with ⟨rfl, rfl⟩ | ⟨j, rfl, _⟩ <;> rfl
theorem refRuns_s {a b : List Int} (hb : a.length ≤ b.length) (ha : a.length ≤ 100000) : Comes p 69 [byV a, byV b] (runsV (runsF a b)) := by
  refine Comes_of w69 rfl rfl k69 ?_ ?_ ?_ ?_
  · simp
  · simp
  · simp
  · simp -dsimp [w69, wFix_by, isInl]
    refine xL_by (by kernel_rfl) (fun k e H => ∃ (i : Nat) (v : V), i ≤ a.length ∧ k = a.length - i ∧ e 0 = byV a ∧ e 1 = byV b ∧ e 6 = .int .i64 i ∧ e 5 = v ∧ Acc 2 0 H v ((fin a (G a b i) i).map runV)) a.length ?_ ?_
    · refine ⟨0, .list [] true, by simp, rfl, rfl, rfl, rfl, rfl, ?_⟩
      exact acc_nil (by decide)
    · rintro k e H ⟨i, v, hi, hk, h0, h1, h6, h5, hac⟩
      by_cases c1 : i < a.length
      · have c2 : i < b.length := by omega
        have g1 := gt_at c1
        have g2 := gt_at c2
        have w2 : IntKind.i64.wrap ((i : Int) + 1) = ((i + 1 : Nat) : Int) := by rw [Fz.w64 (by omega) (by omega)]; omega
        by_cases c3 : gt a i = gt b i
        · simp -dsimp [h0, h1, h6, h5, c1, c2, g1, g2, c3, w2]
          refine ⟨a.length - (i + 1), by omega, i + 1, v, by omega, rfl, ?_⟩
          simp -dsimp [h0, h1, h5]
          rw [fin_same c3]
          exact hac
        · have c4 : decide (gt a i = gt b i) = false := by simp [c3]
          have hmore := fin_more c3
          have hle := G_le a b i
          have hfl := fin_len a b i
          by_cases c5 : (G a b i).2 < i
          · have hi0 : 0 < i := by omega
            have w4 : IntKind.i64.wrap ((i : Int) - 1) = ((i - 1 : Nat) : Int) := by rw [Fz.w64 (by omega) (by omega)]; omega
            have d1 : i - 1 < a.length := by omega
            have d2 : i - 1 < b.length := by omega
            have g3 := gt_at d1
            have g4 := gt_at d2
            have c6 : decide (gt a (i - 1) = gt b (i - 1)) = false := by
              have := (G_prev a b (i - 1)).1 (by rw [show i - 1 + 1 = i from by omega]; exact c5)
              simp [this]
            have hf : fin a (G a b i) i = (G a b i).1 ++ [rn a (G a b i).2 i] := by unfold fin; rw [if_pos c5]
            rw [hf] at hac hfl
            generalize (G a b i).1 = D at *
            generalize (G a b i).2 = s at *
            obtain ⟨u1, u2, u3⟩ := hac
            rcases u3 with ⟨u3, _⟩ | ⟨j, rfl, hj⟩
            · simp at u3
            have hD : D.length < 100000 := by simp at hfl; omega
            have w3 : IntKind.i64.wrap (D.length : Int) = (D.length : Int) := Fz.w64 (by omega) (by omega)
            have hj' : H[j]? = some (.live (flat (D.map runV) ++ [.int .i64 s, byV (rn a s i).b])) := by rw [hj]; simp [rn]
            have hc := flat_runs D
            obtain ⟨c, hcc⟩ : ∃ c, c = flat (D.map runV) := ⟨_, rfl⟩
            rw [← hcc] at hj' hc
            have q1 : List.drop (D.length * 2) (c ++ [V.int .i64 s, byV (rn a s i).b]) = [V.int .i64 s, byV (rn a s i).b] := by rw [← hc, List.drop_left]
            have q2 : List.take (D.length * 2) (c ++ [V.int .i64 s, byV (rn a s i).b]) = c := by rw [← hc, List.take_left]
            simp -dsimp [h0, h1, h6, h5, c1, c2, g1, g2, g3, g4, d1, d2, c4, c6, w2, w3, w4, hi0, hj', wLive_at hj', wMut_at hj', q1, q2]
            refine ⟨by omega, by omega, by omega, by omega, by omega, by omega, by omega, by omega, ?_⟩
            refine ⟨a.length - (i + 1), by omega, i + 1, .own j 0 (D.length + 1) 2, by omega, rfl, ?_⟩
            simp -dsimp [h0, h1, h5]
            rw [hmore]
            have q3 : List.drop (D.length * 2 + 2) (c ++ [V.int .i64 s, byV (rn a s i).b]) = [] := List.drop_eq_nil_of_le (by simp [hc])
            refine ⟨by simp, by decide, .inr ⟨j, by simp, ?_⟩⟩
            rw [q3, List.getElem?_set_self (List.getElem?_eq_some_iff.1 hj').1, hcc]
            simp [rn, runV, byV]
          · have hs : (G a b i).2 = i := by omega
            have hf : fin a (G a b i) i = (G a b i).1 := by unfold fin; rw [if_neg c5]
            rw [hf] at hac hfl
            rw [hs] at hmore
            have hst : gt a i = gt a i := rfl
            have key : ∀ v' J', Acc 2 0 J' v' ((G a b i).1.map runV ++ [runV (rn a i (i + 1))]) → Acc 2 0 J' v' ((fin a (G a b (i + 1)) (i + 1)).map runV) := fun v' J' h => by rw [hmore, List.map_append]; exact h
            have hD : (G a b i).1.length < 100000 := by omega
            generalize (G a b i).1 = D at *
            simp -dsimp [h0, h1, h6, h5, c1, c2, g1, g2, c4, w2]
            rw [acc_len hac]
            by_cases hi0 : 0 < i
            · have w4 : IntKind.i64.wrap ((i : Int) - 1) = ((i - 1 : Nat) : Int) := by rw [Fz.w64 (by omega) (by omega)]; omega
              have d1 : i - 1 < a.length := by omega
              have d2 : i - 1 < b.length := by omega
              have g3 := gt_at d1
              have g4 := gt_at d2
              have c6 : gt a (i - 1) = gt b (i - 1) := by
                have := (G_prev a b (i - 1)).2
                rw [show i - 1 + 1 = i from by omega] at this
                exact Classical.byContradiction fun h => c5 (this h)
              simp -dsimp [h0, h1, h6, h5, c1, c2, g1, g2, g3, g4, d1, d2, c4, c6, w2, w4, hi0]
              refine ⟨by omega, by omega, ?_⟩
              refine app_acc 0 (m := [runV (rn a i (i + 1))]) (acc_ext hac _) (by simp) (by simp [rn, runV, byV]) rfl (by simp) (by simp [runV]) (by simp [capOk]; omega) fun v' J' hac' => ?_
              simp -dsimp [h0, h1, h6, h5, w2]
              refine ⟨a.length - (i + 1), by omega, i + 1, v', by omega, rfl, ?_⟩
              simp -dsimp [h0, h1, h5]
              exact key _ _ hac'
            · simp -dsimp [h0, h1, h6, h5, c1, c2, g1, g2, c4, w2, hi0]
              refine ⟨by omega, by omega, ?_⟩
              refine app_acc 0 (m := [runV (rn a i (i + 1))]) (acc_ext hac _) (by simp) (by simp [rn, runV, byV]) rfl (by simp) (by simp [runV]) (by simp [capOk]; omega) fun v' J' hac' => ?_
              simp -dsimp [h0, h1, h6, h5, w2]
              refine ⟨a.length - (i + 1), by omega, i + 1, v', by omega, rfl, ?_⟩
              simp -dsimp [h0, h1, h5]
              exact key _ _ hac'
      · have hii : i = a.length := by omega
        subst hii
        simp -dsimp [h0, h1, h6, h5, c1, wFix_by, isInl]
        exact frz_acc 0 (k := 11) hac (by simp) (by simp; exact fun x _ => ⟨_, rfl⟩) (fun H' _ _ => by simp [runsF, runsV])
end Fz.D
set_option maxRecDepth 100000
namespace Fz.D
open Go
def byT (b : List Int) : V := .list (b.map (V.int .u8)) true
def runT (r : Rn) : V := .agg [.int .i64 r.at_, byT r.b]
@[simp] theorem byT.gd (b : List Int) : ground (byT b) = true := by simp [byT]
@[simp] theorem byT.any (b : List Int) : isAny (byT b) = false := rfl
@[simp] theorem byT.st (b : List Int) : storable (byT b) = true := rfl
@[simp] theorem byT.cells (b : List Int) : cellsOf (byT b) = [byT b] := rfl
@[simp] theorem byT.nr (b : List Int) : nrm (byT b) = byV b := by simp [byT, byV]
@[simp] theorem runT.gd (r : Rn) : ground (runT r) = true := by simp [runT]
@[simp] theorem runT.gk (r : Rn) (k : Nat) : gk (k + 2) (runT r) = true := by simp [runT, byT]
@[simp] theorem runT.any (r : Rn) : isAny (runT r) = false := rfl
@[simp] theorem runT.cells (r : Rn) : cellsOf (runT r) = [.int .i64 r.at_, byT r.b] := rfl
@[simp] theorem runT.nr (r : Rn) : nrm (runT r) = runV r := by simp [runT, runV]
@[simp] theorem runT.nrc : nrm ∘ runT = runV := funext fun x => runT.nr x
@[simp] theorem runT.uni (l : List Rn) : uni 2 (l.map runT) = true := uni_map fun _ => rfl
@[simp] theorem runT.flat (l : List Rn) : flat (l.map runT) = l.flatMap fun r => [.int .i64 r.at_, byT r.b] := by rw [flat_map]; rfl
theorem flat_runsT (l : List Rn) : (flat (l.map runT)).length = l.length * 2 := by rw [uni_flat (n := 2) (by simp)]; simp
abbrev Lp (i : Nat) : Ob := .loop 200 [5] [.ptr i 0] .ready
theorem yld_s {A B : Ob} {v : V} {r : Rn} {rest : List V} {rs : List Rn} {T : List Ob} {Q : CR → List Ob → Prop} (hr : groundL rest = true) (ha : Acc 2 4 T v (rs.map runT)) (hlen : rs.length ≤ 100000)
    (hq : ∀ v' T', Acc 2 4 T' v' ((rs ++ [r]).map runT) → Q (.ret (.bool true)) (Lp 3 :: A :: B :: .live (v' :: rest) :: T')) :
    WCall p YF [.yld 0, runT r] (Lp 3 :: A :: B :: .live (v :: rest) :: T) Q := by
  have hrr : refsL rest = [] := groundL_refs rest hr
  have hre : ∀ g, renL g rest = rest := fun g => groundL_ren g rest hr
  have h0 : refsL [.yld 0, runT r] = [0] := by
    rw [refsL, refsL, ground_refs _ (runT.gd r)]; simp [refs, refsL]
  have bp : bd200.ps = [38] := rfl
  have i3 : ∀ l, List.idxOf 3 (0 :: 3 :: l) = 1 := fun _ => rfl
  have rr : ∀ g, ren g (runT r) = runT r := fun g => ground_ren g _ (runT.gd r)
  have rb : ∀ g, ren g (byT r.b) = byT r.b := fun g => ground_ren g _ (byT.gd r.b)
  obtain ⟨u1, u2, u3⟩ := ha
  rcases u3 with ⟨u3, rfl⟩ | ⟨j, rfl, hj⟩
  · have hre1 : reach (Lp 3 :: A :: B :: .live (.list [] true :: rest) :: T) 1000 (refsL [.yld 0, runT r]) [] = some [0, 3] := by
      rw [h0]
      show reach _ (997 + 1 + 1 + 1) [0] [] = _
      simp [reach, refsOb, refsL, refs, hrr]
    refine WCall_inl rfl hre1 ?_
    simp -dsimp [renL, ren, renOb, hre, i3, rr]
    refine WFun_round ca200 cb200 (k := 200) rfl rfl rfl rfl rfl ka200 kb200 ?_
    simp -dsimp [ca200, cb200, setPs, envT, assignQ, bp, i3, roundQ]
    refine ⟨by simp [capOk], ?_⟩
    have rs0 : rs = [] := by simpa using u3
    subst rs0
    have k0 : backK [0, 3] (T.length + 1 + 1 + 1 + 1) 0 = 0 := rfl
    have k1 : backK [0, 3] (T.length + 1 + 1 + 1 + 1) 1 = 3 := rfl
    have k4 : backK [0, 3] (T.length + 1 + 1 + 1 + 1) 4 = T.length + 1 + 1 + 1 + 1 + 2 := rfl
    have := hq (.own (T.length + 1 + 1 + 1 + 1 + 2) 0 1 2) (T ++ [.live [.int .i64 r.at_, byT r.b], .live [.int .i64 r.at_, byT r.b], .live [.int .i64 r.at_, byT r.b]])
      ⟨by simp, by decide, .inr ⟨T.length + 2, by simp; omega, by simp⟩⟩
    simp [backH, setAll, renOb, ren, renL, renR, hre, crV, refs, refsL, refsOb, k0, k1, k4, rb]
    exact this
  · have hjl : j < T.length := (List.getElem?_eq_some_iff.1 hj).1
    have hj4 : (Lp 3 :: A :: B :: .live (.own (4 + j) 0 (rs.map runT).length 2 :: rest) :: T)[4 + j]? = some (.live (flat (rs.map runT))) := by
      rw [show 4 + j = j + 1 + 1 + 1 + 1 from by omega]; simpa using hj
    have fr : refsL (flat (rs.map runT)) = [] := groundL_refs _ (by simp)
    have fe : ∀ g, renL g (flat (rs.map runT)) = flat (rs.map runT) := fun g => groundL_ren g _ (by simp)
    have hre1 : reach (Lp 3 :: A :: B :: .live (.own (4 + j) 0 (rs.map runT).length 2 :: rest) :: T) 1000 (refsL [.yld 0, runT r]) [] = some [0, 3, 4 + j] := by
      rw [h0]
      refine (reach_go (k := 999) rfl rfl).trans ?_
      refine (reach_go (k := 998) (by rfl) rfl).trans ?_
      simp only [refsOb, refsL, refs, hrr, List.nil_append, List.cons_append, List.append_nil]
      refine (reach_go (k := 997) (by simp; omega) hj4).trans ?_
      simp only [refsOb, fr, List.append_nil, List.nil_append]
      exact reach_end (k := 996)
    have i4 : List.idxOf (4 + j) [0, 3, 4 + j] = 2 := by
      have e0 : (0 == 4 + j) = false := by rw [beq_eq_false_iff_ne]; omega
      have e3 : (3 == 4 + j) = false := by rw [beq_eq_false_iff_ne]; omega
      simp [List.idxOf_cons, e0, e3]
    have gl := flat_runsT rs
    obtain ⟨c, hc⟩ : ∃ c, c = flat (rs.map runT) := ⟨_, rfl⟩
    rw [← hc] at fr fe hj4 hj gl
    have hj4' := hj4
    have hj5 : (Lp 3 :: A :: B :: .live (.own (4 + j) 0 rs.length 2 :: rest) :: T)[4 + j]?.getD .dead = .live c := by
      rw [show rs.length = (rs.map runT).length from by simp, hj4]; rfl
    refine WCall_inl rfl hre1 ?_
    simp -dsimp [renL, ren, hre, i3, rr, i4, hj5]
    simp -dsimp [renL, ren, renOb, hre, i3, rr, i4, fe]
    refine WFun_round ca200 cb200 (k := 200) rfl rfl rfl rfl rfl ka200 kb200 ?_
    simp -dsimp [ca200, cb200, setPs, envT, assignQ, bp, i3, roundQ]
    have k0 : backK [0, 3, 4 + j] (T.length + 1 + 1 + 1 + 1) 0 = 0 := rfl
    have k1 : backK [0, 3, 4 + j] (T.length + 1 + 1 + 1 + 1) 1 = 3 := rfl
    have k5 : backK [0, 3, 4 + j] (T.length + 1 + 1 + 1 + 1) 5 = T.length + 1 + 1 + 1 + 1 + 2 := rfl
    have tc : List.take (rs.length * 2) c = c := List.take_of_length_le (by omega)
    refine ⟨⟨by omega, by simp [capOk]; omega⟩, ?_⟩
    have := hq (.own (T.length + 1 + 1 + 1 + 1 + 2) 0 (rs.length + 1) 2) (T.set j .dead ++ [.live [.int .i64 r.at_, byT r.b], .live [.int .i64 r.at_, byT r.b], .live (c ++ [.int .i64 r.at_, byT r.b])])
      ⟨by simp, by decide, .inr ⟨T.length + 2, by simp; omega, by simp [hc]⟩⟩
    have f2 : ∀ g, renL g (c ++ [V.int .i64 r.at_, byT r.b]) = c ++ [V.int .i64 r.at_, byT r.b] := fun g => groundL_ren g _ (by rw [hc]; simp)
    have s4 : ∀ (x : Ob), (Lp 3 :: A :: B :: .live (.own (T.length + 1 + 1 + 1 + 1 + 2) 0 (rs.length + 1) 2 :: rest) :: T).set (4 + j) x = Lp 3 :: A :: B :: .live (.own (T.length + 1 + 1 + 1 + 1 + 2) 0 (rs.length + 1) 2 :: rest) :: T.set j x := fun x => by
      rw [show 4 + j = j + 1 + 1 + 1 + 1 from by omega]; rfl
    simp [backH, setAll, renOb, ren, renL, renR, hre, crV, refs, refsL, refsOb, k0, k1, k5, rb, tc, f2]
    rw [s4]
    exact this
end Fz.D
set_option maxRecDepth 100000
namespace Fz.D
open Go
abbrev HR (a b : List Int) (v : V) (rest : List V) (T : List Ob) : List Ob := Lp 3 :: .live [byV a] :: .live [byV b] :: .live (v :: rest) :: T
theorem runs1_s {a b : List Int} {rest : List V} (hb : a.length = b.length) (ha : a.length ≤ 100000) (hr : groundL rest = true) {Q : CR → List Ob → Prop}
    (hq : ∀ v T, Acc 2 4 T v ((runsF a b).map runT) → Q (.ret (.tuple [])) (HR a b v rest T)) :
    WFun p 104 [.yld 0, .ptr 1 0, .ptr 2 0] (HR a b (.list [] true) rest []) Q := by
  refine WFun_of w104 rfl rfl k104 ?_
  simp -dsimp [w104]
  refine xL_by (by kernel_rfl) (fun k e H => ∃ (i : Nat) (v : V) (T : List Ob), i ≤ a.length + 1 ∧ k = a.length + 1 - i ∧ e 0 = .yld 0 ∧ e 1 = .ptr 1 0 ∧ e 2 = .ptr 2 0 ∧ e 4 = .int .i64 i ∧ H = HR a b v rest T ∧
    ((i ≤ a.length ∧ (G a b i).2 = i ∧ Acc 2 4 T v ((G a b i).1.map runT)) ∨ (i = a.length + 1 ∧ Acc 2 4 T v ((runsF a b).map runT)))) (a.length + 1) ?_ ?_
  · refine ⟨0, .list [] true, [], by simp, rfl, rfl, rfl, rfl, rfl, rfl, .inl ⟨by simp, rfl, acc_nil (by decide)⟩⟩
  · rintro k e H ⟨i, v, T, hi, hk, h0, h1, h2, h4, rfl, hc⟩
    by_cases c1 : i < a.length
    · rcases hc with ⟨_, hs, hac⟩ | ⟨hc, _⟩
      · simp -dsimp [h0, h1, h2, h4, c1]
        refine xL_by (by kernel_rfl) (fun k e H => ∃ j : Nat, i ≤ j ∧ j ≤ a.length ∧ k = a.length - j ∧ e 0 = .yld 0 ∧ e 1 = .ptr 1 0 ∧ e 2 = .ptr 2 0 ∧ e 4 = .int .i64 j ∧ e 5 = .int .i64 i ∧ H = HR a b v rest T ∧ G a b j = G a b i) (a.length - i) ?_ ?_
        · refine ⟨i, by omega, by omega, rfl, ?_⟩
          simp -dsimp [h0, h1, h2, h4]
        · rintro k e H ⟨j, hij, hj, hk, h0, h1, h2, h4, h5, rfl, hG⟩
          have w2 : IntKind.i64.wrap ((j : Int) + 1) = ((j + 1 : Nat) : Int) := by rw [Fz.w64 (by omega) (by omega)]; omega
          by_cases c2 : j < a.length
          · have c3 : j < b.length := by omega
            have g1 := gt_at c2
            have g2 := gt_at c3
            cases c4 : decide (gt a j = gt b j) with
            | false =>
              have w2 : IntKind.i64.wrap ((j : Int) + 1) = ((j + 1 : Nat) : Int) := by rw [Fz.w64 (by omega) (by omega)]; omega
              simp -dsimp [h0, h1, h2, h4, h5, c2, c3, g1, g2, c4, w2]
              refine ⟨a.length - (j + 1), by omega, j + 1, by omega, by omega, rfl, ?_⟩
              simp -dsimp [h0, h1, h2, h4, h5]
              rw [G, if_neg (by simpa using c4)]
              exact hG
            | true =>
              by_cases c5 : i < j
              · simp -dsimp [h0, h1, h2, h4, h5, c2, c3, g1, g2, c4, c5]
                refine ⟨⟨by omega, by omega⟩, ?_⟩
                rw [show (V.agg [V.int .i64 i, V.list (List.take (j - i) (List.drop i (List.map (V.int .u8) a))) true]) = runT (rn a i j) from by simp [runT, rn, byT]]
                refine yld_s hr hac (by have := fin_len a b i; unfold fin at this; split at this <;> omega) fun v' T' hac' => ?_
                simp -dsimp [h0, h1, h2, h4, h5, w2]
                refine ⟨a.length + 1 - (j + 1), by omega, j + 1, v', T', by omega, rfl, ?_⟩
                simp -dsimp [h0, h1, h2]
                refine .inl ⟨by omega, by rw [G, if_pos (by simpa using c4)], ?_⟩
                have e : (G a b (j + 1)).1 = (G a b i).1 ++ [rn a i j] := by
                  rw [G, if_pos (by simpa using c4), hG]; simp only [fin, hs, c5, if_true]
                rw [e]; exact hac'
              · have hjj : i = j := by omega
                subst hjj
                simp -dsimp [h0, h1, h2, h4, h5, c2, c3, g1, g2, c4, c5, w2]
                refine ⟨a.length + 1 - (i + 1), by omega, i + 1, v, T, by omega, rfl, ?_⟩
                simp -dsimp [h0, h1, h2]
                refine .inl ⟨by omega, by rw [G, if_pos (by simpa using c4)], ?_⟩
                have e : (G a b (i + 1)).1 = (G a b i).1 := by
                  rw [G, if_pos (by simpa using c4)]; simp only [fin, hs, c5, if_false]
                rw [e]; exact hac
          · have hjj : j = a.length := by omega
            subst hjj
            simp -dsimp [h0, h1, h2, h4, h5, c2, c1]
            refine ⟨by omega, ?_⟩
            rw [show (V.agg [V.int .i64 i, V.list (List.take (a.length - i) (List.drop i (List.map (V.int .u8) a))) true]) = runT (rn a i a.length) from by simp [runT, rn, byT]]
            refine yld_s hr hac (by have := fin_len a b i; unfold fin at this; split at this <;> omega) fun v' T' hac' => ?_
            simp -dsimp [h0, h1, h2, h4, h5, w2]
            refine ⟨a.length + 1 - (a.length + 1), by omega, a.length + 1, v', T', by omega, rfl, ?_⟩
            simp -dsimp [h0, h1, h2]
            have e : runsF a b = (G a b i).1 ++ [rn a i a.length] := by
              unfold runsF
              rw [hG]; simp only [fin, hs, c1, if_true]
            rw [e]; exact .inr hac'
      · omega
    · simp -dsimp [h0, h1, h2, h4, c1]
      refine hq v T ?_
      rcases hc with ⟨hle, hs, hac⟩ | ⟨_, hac⟩
      · have hii : i = a.length := by omega
        subst hii
        have e : runsF a b = (G a b a.length).1 := by
          unfold runsF fin
          rw [if_neg (by omega)]
        rw [e]; exact hac
      · exact hac
end Fz.D
set_option maxRecDepth 100000
namespace Fz.D
open Go
def diffD (f t : St) : De := { mem := runsF f.mem t.mem, dk := (shr inQ f.data t.data : Nat), dt := f.data.drop (shr inQ f.data t.data), rk := (shr sloQ f.ret t.ret : Nat), rt := f.ret.drop (shr sloQ f.ret t.ret), ck := (shr inQ f.ctl t.ctl : Nat), ct := f.ctl.drop (shr inQ f.ctl t.ctl), wk := (shr worQ f.words t.words : Nat), wt := f.words.drop (shr worQ f.words t.words), sk := (shr spoQ f.spots t.spots : Nat), st := f.spots.drop (shr spoQ f.spots t.spots), out := (t.out.length : Int) - f.out.length, r0 := f.ip, r1 := f.here, r2 := f.at_, r3 := f.tok, r4 := f.in_, r5 := f.err, comp := f.comp, halt := f.halt }
structure StLen (s : St) : Prop where
  mem : s.mem.length ≤ 100000
  data : s.data.length ≤ 100000
  ret : s.ret.length ≤ 100000
  ctl : s.ctl.length ≤ 100000
  words : s.words.length ≤ 100000
  spots : s.spots.length ≤ 100000
  out : s.out.length ≤ 100000000
theorem refDiff_s {f t : St} (hf : StLen f) (ht : StLen t) (hm : f.mem.length = t.mem.length) : Comes p 28 [stV f, stV t] (deV (diffD f t)) := by
  have c0 := refRuns_s (a := f.mem) (b := t.mem) (by omega) hf.mem
  have c1 := cut_s (a := f.data) (b := t.data) (by have := hf.data; omega) (by have := ht.data; omega)
  have c2 := frames_s (a := f.ret) (b := t.ret) (by have := hf.ret; omega) (by have := ht.ret; omega)
  have c3 := cut_s (a := f.ctl) (b := t.ctl) (by have := hf.ctl; omega) (by have := ht.ctl; omega)
  have c4 := names_s (a := f.words) (b := t.words) (by have := hf.words; omega) (by have := ht.words; omega)
  have c5 := places_s (a := f.spots) (b := t.spots) (by have := hf.spots; omega) (by have := ht.spots; omega)
  have w : IntKind.i64.wrap ((t.out.length : Int) - f.out.length) = (t.out.length : Int) - f.out.length := Fz.w64 (by have := hf.out; omega) (by have := ht.out; omega)
  refine Comes_of w28 rfl rfl k28 ?_ ?_ ?_ ?_
  · simp
  · simp
  · simp
  · simp -dsimp [w28, wFix_by, isInl, call_by c1, call_by c2, call_by c3, call_by c4, call_by c5, quiet_by c0, w]
    rfl
theorem runs_s (a b : List Int) {H : List Ob} {Q : CR → List Ob → Prop} (hq : Q (.ret (.fn (.func 104) [] [.ptr H.length 0, .ptr (H.length + 1) 0])) (H ++ [.live [byV a], .live [byV b]])) : xCall p 61 [byV a, byV b] H Q := by
  have h0 : refsL [byV a, byV b] = [] := groundL_refs _ (by simp)
  refine WCall_inl (by kernel_rfl) (ids := []) (by rw [h0]; rfl) ?_
  have r0 : renL (fun i => List.idxOf i ([] : List Nat)) [byV a, byV b] = [byV a, byV b] := groundL_ren _ _ (by simp)
  rw [r0]
  refine WFun_of w61 rfl rfl k61 ?_
  simp -dsimp [w61, renL, ren]
  have ra : ∀ g, ren g (byV a) = byV a := fun g => ground_ren g _ (byV.gd a)
  have rb : ∀ g, ren g (byV b) = byV b := fun g => ground_ren g _ (byV.gd b)
  simpa [renR, ren, renL, backH, crV, refs, refsL, setAll, renOb, backK, ra, rb] using hq
theorem ids_s {o0 o1 o2 : Ob} {v : V} {rest : List V} {a b : List Int} (hr : groundL rest = true) (hv : refs v = []) :
    reach ([o0, o1, o2, .live (v :: rest), .live [byV a], .live [byV b]] ++ [Lp 3]) 1000 [6, 4, 5] [] = some [6, 4, 5, 3] := by
  have hrr : refsL rest = [] := groundL_refs rest hr
  have e1 : refsL [byV a] = [] := groundL_refs _ (by simp)
  have e2 : refsL [byV b] = [] := groundL_refs _ (by simp)
  have e1' : refs (byV a) = [] := ground_refs _ (byV.gd a)
  have e2' : refs (byV b) = [] := ground_refs _ (byV.gd b)
  refine (reach_go (k := 999) rfl rfl).trans ?_
  refine (reach_go (k := 998) rfl rfl).trans ?_
  simp only [refsOb, refsL, refs, e1, List.nil_append, List.cons_append, List.append_nil]
  refine (reach_go (k := 997) rfl rfl).trans ?_
  simp only [refsOb, refsL, refs, e2, List.nil_append, List.cons_append, List.append_nil]
  refine (reach_go (k := 996) rfl rfl).trans ?_
  simp only [refsOb, refsL, refs, hrr, hv, e1', e2', List.nil_append, List.cons_append, List.append_nil]
  exact reach_end (k := 995)
theorem range_s {o0 o1 o2 : Ob} {rest : List V} {a b : List Int} {e : Env} {Q : QX} (hb : a.length = b.length) (ha : a.length ≤ 100000) (hr : groundL rest = true) (h5 : e 5 = .ptr 3 0)
    (hq : ∀ v T, Acc 2 7 T v ((runsF a b).map runT) → Q .normal e (o0 :: o1 :: o2 :: .live (v :: rest) :: .live [byV a] :: .live [byV b] :: .dead :: T)) :
    WRange p 200 (.fn (.func 104) [] [.ptr 4 0, .ptr 5 0]) e [o0, o1, o2, .live (.list [] true :: rest), .live [byV a], .live [byV b]] Q := by
  have hre : ∀ g, renL g rest = rest := fun g => groundL_ren g rest hr
  have hrr : refsL rest = [] := groundL_refs rest hr
  have e1 : refs (byV a) = [] := ground_refs _ (byV.gd a)
  have e2 : refs (byV b) = [] := ground_refs _ (byV.gd b)
  have ra : ∀ g, ren g (byV a) = byV a := fun g => ground_ren g _ (byV.gd a)
  have rb : ∀ g, ren g (byV b) = byV b := fun g => ground_ren g _ (byV.gd b)
  refine WRange_of (ab := bd200) (ids := [6, 4, 5, 3]) rfl (by decide) rfl rfl ?_ ?_
  · have : refsL ([] ++ [V.yld 6] ++ [V.ptr 4 0, V.ptr 5 0]) = [6, 4, 5] := by simp [refsL, refs]
    show reach _ 1000 (refsL ([] ++ [V.yld 6] ++ [V.ptr 4 0, V.ptr 5 0])) [] = _
    rw [this]
    have hk : bd200.keep.map e = [.ptr 3 0] := by show [e 5] = _; rw [h5]
    rw [hk]
    exact ids_s hr (by simp [refs, refsL])
  · have hk : bd200.keep.map e = [.ptr 3 0] := by show [e 5] = _; rw [h5]
    rw [hk]
    have i6 : List.idxOf 6 [6, 4, 5, 3] = 0 := rfl
    have i4 : List.idxOf 4 [6, 4, 5, 3] = 1 := rfl
    have i5 : List.idxOf 5 [6, 4, 5, 3] = 2 := rfl
    have i3 : List.idxOf 3 [6, 4, 5, 3] = 3 := rfl
    have ka : bd200.keep = [5] := rfl
    simp [renL, ren, renOb, i6, i4, i5, i3, hre, ra, rb, ka]
    refine runs1_s hb ha hr fun v T hac => ⟨by simp, ?_⟩
    obtain ⟨u1, u2, u3⟩ := hac
    rcases u3 with ⟨u3, rfl⟩ | ⟨j, rfl, hj⟩
    · refine ⟨.normal, e, _, ?_, hq (.list [] true) [] ⟨u1, u2, .inl ⟨u3, rfl⟩⟩⟩
      have k0 : backK [6, 4, 5, 3] 7 3 = 3 := rfl
      simp [backH, setAll, renOb, ren, renL, renR, hre, crV, refs, refsL, refsOb, hrr, e1, e2, ra, rb, k0, endRange]
    · have k0 : backK [6, 4, 5, 3] 7 3 = 3 := rfl
      have k1 : backK [6, 4, 5, 3] 7 (4 + j) = 7 + j := by simp [backK]; omega
      refine ⟨.normal, e, _, ?_, hq (.own (7 + j) 0 ((runsF a b).map runT).length 2) (T.map (renOb (backK [6, 4, 5, 3] 7))) ⟨u1, u2, .inr ⟨j, rfl, ?_⟩⟩⟩
      · simp [backH, setAll, renOb, ren, renL, renR, hre, crV, refs, refsL, refsOb, hrr, e1, e2, ra, rb, k0, k1, endRange]
      · rw [List.getElem?_map, hj]
        simp only [Option.map_some, renOb]
        rw [groundL_ren _ _ (by simp)]
theorem diff_s {f t : St} (hf : StLen f) (ht : StLen t) (hm : f.mem.length = t.mem.length) : Comes p 20 [stV f, stV t] (deV (diffD f t)) := by
  have c1 := shareInt_s (a := f.data) (b := t.data) (by have := hf.data; omega) (by have := ht.data; omega)
  have c2 := shareSlo_s (a := f.ret) (b := t.ret) (by have := hf.ret; omega) (by have := ht.ret; omega)
  have c3 := shareInt_s (a := f.ctl) (b := t.ctl) (by have := hf.ctl; omega) (by have := ht.ctl; omega)
  have c4 := shareWor_s (a := f.words) (b := t.words) (by have := hf.words; omega) (by have := ht.words; omega)
  have c5 := shareSpo_s (a := f.spots) (b := t.spots) (by have := hf.spots; omega) (by have := ht.spots; omega)
  have w : IntKind.i64.wrap ((t.out.length : Int) - f.out.length) = (t.out.length : Int) - f.out.length := Fz.w64 (by have := hf.out; omega) (by have := ht.out; omega)
  refine Comes_of w20 rfl rfl k20 ?_ ?_ ?_ ?_
  · simp
  · simp
  · simp
  · simp -dsimp [w20, wFix_by, isInl, w]
    refine runs_s _ _ ?_
    simp -dsimp [isInl]
    refine range_s hm hf.mem (by simp) rfl fun v T hac => ?_
    have hst : storable v = true := by
      obtain ⟨_, _, h3⟩ := hac
      rcases h3 with ⟨_, rfl⟩ | ⟨j, rfl, _⟩ <;> rfl
    simp -dsimp [-List.map_drop, drop_map, map_tail2, wFix_by, isInl, call_by c1, call_by c2, call_by c3, call_by c4, call_by c5]
    refine ⟨(shr_le _ _).1, (shr_le _ _).1, (shr_le _ _).1, (shr_le _ _).1, (shr_le _ _).1, hst, ?_⟩
    refine frz_acc 7 (k := 10) hac (by simp [byT]) (by simp; exact fun x _ => ⟨_, rfl⟩) (fun H' _ _ => ?_)
    simp -dsimp [-List.map_drop, drop_map, diffD]
    try rfl
end Fz.D
set_option maxRecDepth 100000
namespace Fz.D
open Go
def by8 (b : List Int) : Prop := ∀ x ∈ b, 0 ≤ x ∧ x < 256
def bstr (b : List Int) : ByteArray := bytesV (b.map (V.int .u8))
theorem all8 {b : List Int} (h : by8 b) : allU8 (b.map (V.int .u8)) = true := by
  unfold allU8
  rw [List.all_map, List.all_eq_true]
  intro x hx
  have := h x hx
  simp [this.1, this.2]
def u8f (x : Int) : UInt8 := x.toNat.toUInt8
theorem bstr_eq (b : List Int) : bstr b = ⟨(b.map u8f).toArray⟩ := by
  unfold bstr bytesV
  rw [List.map_map]; rfl
theorem bstr_inj {a b : List Int} (ha : by8 a) (hb : by8 b) (h : bstr a = bstr b) : a = b := by
  rw [bstr_eq, bstr_eq] at h
  have h1 : a.map u8f = b.map u8f := by
    have := congrArg (fun x => x.data.toList) h
    simpa using this
  have key : ∀ (l : List Int), by8 l → (l.map u8f).map (fun u => (u.toNat : Int)) = l := by
    intro l hl
    rw [List.map_map]
    conv => rhs; rw [← List.map_id l]
    refine List.map_congr_left fun x hx => ?_
    have := hl x hx
    have e : (u8f x).toNat = x.toNat := by
      show x.toNat % 256 = _
      omega
    simp only [Function.comp_apply, id_eq, e]
    omega
  rw [← key a ha, ← key b hb, h1]
theorem nmB_len (s : ByteArray) : (nmB s).length = s.size := by
  unfold nmB
  rw [List.length_map, Array.length_toList]; rfl
def fewB (s : St) : Bool := (s.words.take 41).all (fun w => decide (w.name.size ≤ 60)) && (decide (s.mem.length ≤ 600) && (decide (s.data.length ≤ 40) && (decide (s.ret.length ≤ 40) && (decide (s.ctl.length ≤ 200) && (decide (s.words.length ≤ 40) && (decide (s.spots.length ≤ 100) && decide (s.out.length ≤ 200)))))))
theorem all_take {α : Type} {f : α → Bool} {l : List α} {i : Nat} (h : i < l.length) : (l.take (i + 1)).all f = ((l.take i).all f && f l[i]) := by
  rw [List.take_succ_eq_append_getElem h, List.all_append, List.all_cons, List.all_nil, Bool.and_true]
theorem all_false {α : Type} {f : α → Bool} {l : List α} {i n : Nat} (h : i < l.length) (hn : i < n) (hf : f l[i] = false) : (l.take n).all f = false := by
  rw [List.all_eq_false]
  exact ⟨l[i], List.mem_take_iff_getElem.2 ⟨i, by omega, rfl⟩, by simp [hf]⟩
theorem few_s (s : St) : Comes p 12 [stV s] (.bool (fewB s)) := by
  refine Comes_of w12 rfl rfl k12 ?_ ?_ ?_ ?_
  · simp
  · simp
  · simp
  · simp -dsimp [w12, wFix_by, isInl]
    refine xL_by (by kernel_rfl) (fun k e H => ∃ i : Nat, i ≤ 41 ∧ k = 41 - i ∧ e 1 = .ptr 0 0 ∧ e 3 = .int .i64 i ∧ H = [.live (cellsOf (stV s))] ∧ (s.words.take i).all (fun w => decide (w.name.size ≤ 60)) = true) 41 ?_ ?_
    · refine ⟨0, by omega, rfl, ?_⟩
      simp -dsimp
    rintro k e H ⟨i, hi, hk, h1, h3, rfl, hall⟩
    by_cases c1 : i < s.words.length
    · by_cases c2 : i < 41
      · have w2 : IntKind.i64.wrap ((i : Int) + 1) = ((i + 1 : Nat) : Int) := by rw [Fz.w64 (by omega) (by omega)]; omega
        have c2' : (i : Int) < 41 := by omega
        have q := all_take (f := (fun w => decide (w.name.size ≤ 60))) c1
        by_cases c3 : s.words[i].name.size ≤ 60
        · have c3' : ¬ ((s.words[i].name.size : Nat) : Int) > 60 := by omega
          have c3'' : ¬ (60 < ((s.words[i].name.size : Nat) : Int)) := by omega
          simp -dsimp [h1, h3, c1, c2, c2', c3', c3'', w2]
          refine ⟨41 - (i + 1), by omega, i + 1, by omega, rfl, ?_⟩
          rw [q, hall]
          simp -dsimp [h1, h3, c3]
        · have c3' : ((s.words[i].name.size : Nat) : Int) > 60 := by omega
          have c3'' : 60 < ((s.words[i].name.size : Nat) : Int) := by omega
          have z : fewB s = false := by
            have := all_false (f := (fun w => decide (w.name.size ≤ 60))) (n := 41) c1 c2 (by simp; omega)
            unfold fewB
            rw [this]; simp
          simp -dsimp [h1, h3, c1, c2, c2', c3', c3'', wFix_by, isInl, z]
      have hi' : i = 41 := by omega
      have c2' : ¬ (i : Int) < 41 := by omega
      have a0 : (s.words.take 41).all (fun w => decide (w.name.size ≤ 60)) = true := by rw [← hi']; exact hall
      have f0 : ¬ (i < s.words.length ∧ i < 41) := by omega
      by_cases d0 : ¬ s.mem.length ≤ 600
      · have d0' : ¬ (((s.mem.length : Nat) : Int) ≤ 600) := by omega
        simp -dsimp [h1, h3, wFix_by, isInl, c1, c2, c2', d0, d0', fewB]
      rw [Classical.not_not] at d0
      have d0' : (((s.mem.length : Nat) : Int) ≤ 600) := by omega
      by_cases d1 : ¬ s.data.length ≤ 40
      · have d1' : ¬ (((s.data.length : Nat) : Int) ≤ 40) := by omega
        simp -dsimp [h1, h3, wFix_by, isInl, c1, c2, c2', d0, d0', d1, d1', fewB]
      rw [Classical.not_not] at d1
      have d1' : (((s.data.length : Nat) : Int) ≤ 40) := by omega
      by_cases d2 : ¬ s.ret.length ≤ 40
      · have d2' : ¬ (((s.ret.length : Nat) : Int) ≤ 40) := by omega
        simp -dsimp [h1, h3, wFix_by, isInl, c1, c2, c2', d0, d0', d1, d1', d2, d2', fewB]
      rw [Classical.not_not] at d2
      have d2' : (((s.ret.length : Nat) : Int) ≤ 40) := by omega
      by_cases d3 : ¬ s.ctl.length ≤ 200
      · have d3' : ¬ (((s.ctl.length : Nat) : Int) ≤ 200) := by omega
        simp -dsimp [h1, h3, wFix_by, isInl, c1, c2, c2', d0, d0', d1, d1', d2, d2', d3, d3', fewB]
      rw [Classical.not_not] at d3
      have d3' : (((s.ctl.length : Nat) : Int) ≤ 200) := by omega
      by_cases d4 : ¬ s.words.length ≤ 40
      · have d4' : ¬ (((s.words.length : Nat) : Int) ≤ 40) := by omega
        simp -dsimp [h1, h3, wFix_by, isInl, c1, c2, c2', d0, d0', d1, d1', d2, d2', d3, d3', d4, d4', fewB]
      rw [Classical.not_not] at d4
      have d4' : (((s.words.length : Nat) : Int) ≤ 40) := by omega
      by_cases d5 : ¬ s.spots.length ≤ 100
      · have d5' : ¬ (((s.spots.length : Nat) : Int) ≤ 100) := by omega
        simp -dsimp [h1, h3, wFix_by, isInl, c1, c2, c2', d0, d0', d1, d1', d2, d2', d3, d3', d4, d4', d5, d5', fewB]
      rw [Classical.not_not] at d5
      have d5' : (((s.spots.length : Nat) : Int) ≤ 100) := by omega
      by_cases d6 : ¬ s.out.length ≤ 200
      · have d6' : ¬ (((s.out.length : Nat) : Int) ≤ 200) := by omega
        simp -dsimp [h1, h3, wFix_by, isInl, c1, c2, c2', d0, d0', d1, d1', d2, d2', d3, d3', d4, d4', d5, d5', d6, d6', fewB]
      rw [Classical.not_not] at d6
      have d6' : (((s.out.length : Nat) : Int) ≤ 200) := by omega
      simp -dsimp [h1, h3, wFix_by, isInl, c1, c2, c2', d0, d0', d1, d1', d2, d2', d3, d3', d4, d4', d5, d5', d6, d6', a0, fewB]
    have a0 : (s.words.take 41).all (fun w => decide (w.name.size ≤ 60)) = true := by
      rw [List.take_of_length_le (by omega)]
      rw [List.take_of_length_le (by omega)] at hall
      exact hall
    by_cases d0 : ¬ s.mem.length ≤ 600
    · have d0' : ¬ (((s.mem.length : Nat) : Int) ≤ 600) := by omega
      simp -dsimp [h1, h3, wFix_by, isInl, c1, d0, d0', fewB]
    rw [Classical.not_not] at d0
    have d0' : (((s.mem.length : Nat) : Int) ≤ 600) := by omega
    by_cases d1 : ¬ s.data.length ≤ 40
    · have d1' : ¬ (((s.data.length : Nat) : Int) ≤ 40) := by omega
      simp -dsimp [h1, h3, wFix_by, isInl, c1, d0, d0', d1, d1', fewB]
    rw [Classical.not_not] at d1
    have d1' : (((s.data.length : Nat) : Int) ≤ 40) := by omega
    by_cases d2 : ¬ s.ret.length ≤ 40
    · have d2' : ¬ (((s.ret.length : Nat) : Int) ≤ 40) := by omega
      simp -dsimp [h1, h3, wFix_by, isInl, c1, d0, d0', d1, d1', d2, d2', fewB]
    rw [Classical.not_not] at d2
    have d2' : (((s.ret.length : Nat) : Int) ≤ 40) := by omega
    by_cases d3 : ¬ s.ctl.length ≤ 200
    · have d3' : ¬ (((s.ctl.length : Nat) : Int) ≤ 200) := by omega
      simp -dsimp [h1, h3, wFix_by, isInl, c1, d0, d0', d1, d1', d2, d2', d3, d3', fewB]
    rw [Classical.not_not] at d3
    have d3' : (((s.ctl.length : Nat) : Int) ≤ 200) := by omega
    by_cases d4 : ¬ s.words.length ≤ 40
    · have d4' : ¬ (((s.words.length : Nat) : Int) ≤ 40) := by omega
      simp -dsimp [h1, h3, wFix_by, isInl, c1, d0, d0', d1, d1', d2, d2', d3, d3', d4, d4', fewB]
    rw [Classical.not_not] at d4
    have d4' : (((s.words.length : Nat) : Int) ≤ 40) := by omega
    by_cases d5 : ¬ s.spots.length ≤ 100
    · have d5' : ¬ (((s.spots.length : Nat) : Int) ≤ 100) := by omega
      simp -dsimp [h1, h3, wFix_by, isInl, c1, d0, d0', d1, d1', d2, d2', d3, d3', d4, d4', d5, d5', fewB]
    rw [Classical.not_not] at d5
    have d5' : (((s.spots.length : Nat) : Int) ≤ 100) := by omega
    by_cases d6 : ¬ s.out.length ≤ 200
    · have d6' : ¬ (((s.out.length : Nat) : Int) ≤ 200) := by omega
      simp -dsimp [h1, h3, wFix_by, isInl, c1, d0, d0', d1, d1', d2, d2', d3, d3', d4, d4', d5, d5', d6, d6', fewB]
    rw [Classical.not_not] at d6
    have d6' : (((s.out.length : Nat) : Int) ≤ 200) := by omega
    simp -dsimp [h1, h3, wFix_by, isInl, c1, d0, d0', d1, d1', d2, d2', d3, d3', d4, d4', d5, d5', d6, d6', a0, fewB]
def fewD (d : De) : Bool := (d.mem.take 21).all (fun w => decide (w.b.length ≤ 100)) && ((d.wt.take 21).all (fun w => decide (w.name.size ≤ 60)) && (decide (d.mem.length ≤ 20) && (decide (d.dt.length ≤ 20) && (decide (d.rt.length ≤ 20) && (decide (d.ct.length ≤ 20) && (decide (d.wt.length ≤ 20) && decide (d.st.length ≤ 20)))))))
end Fz.D
set_option maxRecDepth 100000
namespace Fz.D
open Go
theorem by8_app {a b : List Int} (ha : by8 a) (hb : by8 b) : by8 (a ++ b) := fun x hx => by
  rcases List.mem_append.1 hx with h | h
  · exact ha x h
  · exact hb x h
theorem by8_nil : by8 [] := fun x hx => by cases hx
theorem by8_cat {ls : List (List Int)} (h : ∀ l ∈ ls, by8 l) : by8 (cat ls) := fun x hx => by
  obtain ⟨l, hl, hx⟩ := List.mem_flatten.1 hx
  exact h l hl x hx
theorem by8_numC : ∀ (k x : Nat), x < 2 ^ k → by8 (numC x)
  | 0, x, h => by
    have : x = 0 := by simpa using h
    subst this; rw [numC_zero]; exact by8_nil
  | k + 1, x, h => by
    by_cases h0 : x = 0
    · subst h0; rw [numC_zero]; exact by8_nil
    · rw [numC_pos h0]
      refine by8_app (by8_numC k (x / 128) (by rw [Nat.pow_succ] at h; omega)) fun y hy => ?_
      simp only [List.mem_cons, List.not_mem_nil, or_false] at hy
      omega
theorem by8_numB (x : Nat) : by8 (numB x) := by
  unfold numB
  refine by8_app (by8_numC (x / 128) (x / 128) Nat.lt_two_pow_self) fun y hy => ?_
  simp only [List.mem_cons, List.not_mem_nil, or_false] at hy
  omega
theorem by8_encN (n : Int) : by8 (encN n) := by8_numB _
theorem by8_encs (l : List Int) : by8 (encs l) := by8_cat fun x hx => by
  obtain ⟨n, _, rfl⟩ := List.mem_map.1 hx
  exact by8_encN n
theorem by8_encL {α : Type} {f : α → List Int} {l : List α} (h : ∀ a ∈ l, by8 (f a)) : by8 (encL f l) := by8_cat fun x hx => by
  obtain ⟨a, ha, rfl⟩ := List.mem_map.1 hx
  exact h a ha
theorem by8_nmB (s : ByteArray) : by8 (nmB s) := fun x hx => by
  obtain ⟨b, _, rfl⟩ := List.mem_map.1 hx
  have := b.toNat_lt
  omega
theorem by8_txt {b : List Int} (h : by8 b) : by8 (txt b) := by8_app (by8_encN _) h
theorem by8_encD {d : De} (h : ∀ r ∈ d.mem, by8 r.b) : by8 (encD d) := by
  unfold encD
  have h1 : by8 (encL encRun d.mem) := by8_encL fun r hr => by8_app (by8_encN _) (by8_txt (h r hr))
  have h2 : by8 (encL encSlo d.rt) := by8_encL fun r _ => by8_encs _
  have h3 : by8 (encL encWor d.wt) := by8_encL fun r _ => by8_app (by8_txt (by8_nmB _)) (by8_encs _)
  have h4 : by8 (encL encSpo d.st) := by8_encL fun r _ => by8_encs _
  exact by8_app (by8_app (by8_app (by8_app (by8_app (by8_app (by8_app (by8_app (by8_app (by8_encN _) h1) (by8_app (by8_app (by8_encN _) (by8_encN _)) (by8_encs _))) (by8_app (by8_app (by8_encN _) (by8_encN _)) h2)) (by8_app (by8_app (by8_encN _) (by8_encN _)) (by8_encs _)))
    (by8_app (by8_app (by8_encN _) (by8_encN _)) h3)) (by8_app (by8_app (by8_encN _) (by8_encN _)) h4)) (by8_encs _)) (by8_encs _)) (by8_encs _)
theorem bstr_fold (b : List Int) : bytesV (b.map (V.int .u8)) = bstr b := rfl
def nearB (f t : St) : Bool := decide (f.mem.length = t.mem.length) && (decide (f.out.length ≤ t.out.length) && decide (bstr (t.out.take f.out.length) = bstr f.out))
end Fz.D
set_option maxRecDepth 100000
namespace Fz.D
open Go
structure StTy (s : St) : Prop where
  mem : by8 s.mem
  data : ∀ n ∈ s.data, i64 n
  ret : ∀ x ∈ s.ret, i64 x.v
  ctl : ∀ n ∈ s.ctl, i64 n
  words : ∀ x ∈ s.words, i64 x.code
  spots : ∀ x ∈ s.spots, i64 x.addr ∧ i64 x.at_
  out : by8 s.out
  regs : ∀ n ∈ [s.ip, s.here, s.at_, s.tok, s.in_, s.err], i64 n
structure DeTy (d : De) : Prop where
  mem : ∀ r ∈ d.mem, i64 r.at_ ∧ by8 r.b
  dk : i64 d.dk
  dt : ∀ n ∈ d.dt, i64 n
  rk : i64 d.rk
  rt : ∀ s ∈ d.rt, i64 s.v
  ck : i64 d.ck
  ct : ∀ n ∈ d.ct, i64 n
  wk : i64 d.wk
  wt : ∀ s ∈ d.wt, i64 s.code
  sk : i64 d.sk
  st : ∀ s ∈ d.st, i64 s.addr ∧ i64 s.at_
  out : i64 d.out
  regs : ∀ n ∈ [d.r0, d.r1, d.r2, d.r3, d.r4, d.r5], i64 n
def SloT : Ty := .agg [.int .i64, .bool]
def WorT : Ty := .agg [.str, .int .i64, .bool, .bool]
def SpoT : Ty := .agg [.int .i64, .int .i64]
def RnT : Ty := .agg [.int .i64, .sl (.int .u8)]
def StT : Ty := .agg [.sl (.int .u8), .sl (.int .i64), .sl SloT, .sl (.int .i64), .sl WorT, .sl SpoT, .sl (.int .u8), .int .i64, .int .i64, .int .i64, .int .i64, .int .i64, .int .i64, .bool, .bool]
def DeT : Ty := .agg [.sl RnT, .agg [.int .i64, .sl (.int .i64)], .agg [.int .i64, .sl SloT], .agg [.int .i64, .sl (.int .i64)], .agg [.int .i64, .sl WorT], .agg [.int .i64, .sl SpoT], .int .i64,
  .agg [.int .i64, .int .i64, .int .i64, .int .i64, .int .i64, .int .i64], .bool, .bool]
theorem list_of {α : Type} {T : Ty} {f : α → V} {P : α → Prop} (h : ∀ v, HasT T v → ∃ a, v = f a ∧ P a) {v : V} (hv : HasT (.sl T) v) : ∃ l : List α, v = .list (l.map f) false ∧ ∀ a ∈ l, P a := by
  obtain ⟨vs, rfl, hh⟩ := hv
  have : ∃ l : List α, vs = l.map f ∧ ∀ a ∈ l, P a := by
    induction vs with
    | nil => exact ⟨[], rfl, fun a h => by cases h⟩
    | cons v vs ih =>
      obtain ⟨l, rfl, hl⟩ := ih fun x hx => hh x (List.mem_cons_of_mem _ hx)
      obtain ⟨a, rfl, ha⟩ := h v (hh v (List.mem_cons_self ..))
      refine ⟨a :: l, rfl, fun x hx => ?_⟩
      rcases List.mem_cons.1 hx with rfl | hx
      · exact ha
      · exact hl x hx
  obtain ⟨l, rfl, hl⟩ := this
  exact ⟨l, rfl, hl⟩
theorem u8_of {v : V} (h : HasT (.int .u8) v) : ∃ n, v = V.int .u8 n ∧ (0 ≤ n ∧ n < 256) := by
  obtain ⟨n, rfl, h1, h2⟩ := h
  have h1 : 0 ≤ n := h1
  have h2 : n ≤ 255 := h2
  exact ⟨n, rfl, by omega⟩
theorem i64_of {v : V} (h : HasT (.int .i64) v) : ∃ n, v = V.int .i64 n ∧ i64 n := by
  obtain ⟨n, rfl, h1, h2⟩ := h
  exact ⟨n, rfl, h1, h2⟩
theorem slo_of {v : V} (h : HasT SloT v) : ∃ s, v = sloV s ∧ i64 s.v := by
  obtain ⟨l, rfl, v1, r1, rfl, h1, v2, r2, rfl, ⟨b, rfl⟩, rfl⟩ := h
  obtain ⟨n, rfl, h1'⟩ := i64_of h1
  exact ⟨⟨n, b⟩, rfl, h1'⟩
theorem wor_of {v : V} (h : HasT WorT v) : ∃ s, v = worV s ∧ i64 s.code := by
  obtain ⟨l, rfl, v0, r0, rfl, ⟨s, rfl⟩, v1, r1, rfl, h1, v2, r2, rfl, ⟨b, rfl⟩, v3, r3, rfl, ⟨c, rfl⟩, rfl⟩ := h
  obtain ⟨n, rfl, h1'⟩ := i64_of h1
  exact ⟨⟨s, n, b, c⟩, rfl, h1'⟩
theorem spo_of {v : V} (h : HasT SpoT v) : ∃ s, v = spoV s ∧ (i64 s.addr ∧ i64 s.at_) := by
  obtain ⟨l, rfl, v1, r1, rfl, h1, v2, r2, rfl, h2, rfl⟩ := h
  obtain ⟨n, rfl, h1'⟩ := i64_of h1
  obtain ⟨m, rfl, h2'⟩ := i64_of h2
  exact ⟨⟨n, m⟩, rfl, h1', h2'⟩
theorem by_of {v : V} (h : HasT (.sl (.int .u8)) v) : ∃ b, v = byV b ∧ by8 b := list_of (fun _ h => u8_of h) h
theorem in_of {v : V} (h : HasT (.sl (.int .i64)) v) : ∃ b, v = inV b ∧ ∀ n ∈ b, i64 n := list_of (fun _ h => i64_of h) h
theorem st_of {v : V} (h : HasT StT v) : ∃ s, v = stV s ∧ StTy s := by
  obtain ⟨l, rfl, v1, r1, rfl, h1, v2, r2, rfl, h2, v3, r3, rfl, h3, v4, r4, rfl, h4, v5, r5, rfl, h5, v6, r6, rfl, h6, v7, r7, rfl, h7, v8, r8, rfl, h8, v9, r9, rfl, h9, v10, r10, rfl, h10, v11, r11, rfl, h11, v12, r12, rfl, h12, v13, r13, rfl, h13, v14, r14, rfl, ⟨b1, rfl⟩, v15, r15, rfl, ⟨b2, rfl⟩, rfl⟩ := h
  obtain ⟨a1, rfl, h1'⟩ := by_of h1
  obtain ⟨a2, rfl, h2'⟩ := in_of h2
  obtain ⟨a3, rfl, h3'⟩ := list_of (fun _ h => slo_of h) h3
  obtain ⟨a4, rfl, h4'⟩ := in_of h4
  obtain ⟨a5, rfl, h5'⟩ := list_of (fun _ h => wor_of h) h5
  obtain ⟨a6, rfl, h6'⟩ := list_of (fun _ h => spo_of h) h6
  obtain ⟨a7, rfl, h7'⟩ := by_of h7
  obtain ⟨n8, rfl, h8'⟩ := i64_of h8
  obtain ⟨n9, rfl, h9'⟩ := i64_of h9
  obtain ⟨n10, rfl, h10'⟩ := i64_of h10
  obtain ⟨n11, rfl, h11'⟩ := i64_of h11
  obtain ⟨n12, rfl, h12'⟩ := i64_of h12
  obtain ⟨n13, rfl, h13'⟩ := i64_of h13
  refine ⟨⟨a1, a2, a3, a4, a5, a6, a7, n8, n9, n10, n11, n12, n13, b1, b2⟩, rfl, ⟨h1', h2', h3', h4', h5', h6', h7', ?_⟩⟩
  intro n hn
  simp only [List.mem_cons, List.not_mem_nil, or_false] at hn
  rcases hn with rfl | rfl | rfl | rfl | rfl | rfl <;> assumption
end Fz.D
set_option maxRecDepth 100000
namespace Fz.D
open Go Go.Proofs Go.Proofs.YtnngbniomonabaaGreatDoor Go.ChangeShapes Go.WideShapes Go.ChangeAt Go.RowKit
def nr (af : AFun) : Bool := !hasR af.code && match af.dfr with
  | some (pre, _, _, r) => pre.all (fun c => !hasR c) && !hasR r
  | none => true
theorem rOkF_of {q : AP} {af : AFun} (h : nr af = true) : rOkF q af := by
  unfold nr at h
  rw [Bool.and_eq_true, Bool.not_eq_true'] at h
  refine ⟨rOk_of _ h.1, fun x hx => ?_⟩
  obtain ⟨pre, a, b, r⟩ := x
  rw [hx] at h
  simp only [Bool.and_eq_true, List.all_eq_true, Bool.not_eq_true'] at h
  exact ⟨fun c hc => rOk_of _ (h.2.1 c hc), rOk_of _ h.2.2⟩
theorem tab_nr : tab.all (fun x => x.1 == 20 || (x.1 == 18 || (x.1 == 7 || (x.1 == 31 || nr x.2)))) = true := by kernel_rfl
theorem rng_ok (f : FuncId) (af : AFun) (h : p.fn f = some af) : rOkF p af := by
  by_cases hf : f = 20
  · subst hf
    have e : p.fn 20 = some w20.toA := rfl
    rw [e] at h
    cases h
    refine ⟨?_, fun x hx => by cases hx⟩
    simp only [WF.toA, w20, toA, rOk, true_and, and_true]
    exact ⟨bd200, rfl, rfl, rfl, rfl⟩
  have hdeltaDiff := hf
  clear hf
  by_cases hf : f = 18
  · subst hf
    have e : p.fn 18 = some w18.toA := rfl
    rw [e] at h
    cases h
    refine ⟨?_, fun x hx => by cases hx⟩
    simp only [WF.toA, w18, toA, rOk, true_and, and_true]
    exact ⟨bd180, rfl, rfl, rfl, rfl⟩
  have hrlePut := hf
  clear hf
  by_cases hf : f = 7
  · subst hf
    have e : p.fn 7 = some w7.toA := rfl
    rw [e] at h
    cases h
    refine ⟨?_, fun x hx => by cases hx⟩
    simp only [WF.toA, w7, toA, rOk, true_and, and_true]
    exact ⟨bd70, rfl, rfl, rfl, rfl⟩
  have hsnapPut := hf
  clear hf
  by_cases hf : f = 31
  · subst hf
    have e : p.fn 31 = some w31.toA := rfl
    rw [e] at h
    cases h
    refine ⟨?_, fun x hx => by cases hx⟩
    simp only [WF.toA, w31, toA, rOk, true_and, and_true]
    exact ⟨bd310, rfl, rfl, rfl, rfl⟩
  have hsnapmemory := hf
  clear hf
  have := List.all_eq_true.1 tab_nr _ (lk_mem _ _ _ h)
  simp only [Bool.or_eq_true, beq_iff_eq] at this
  rcases this with h1 | h1 | h1 | h1 | h1
  · exact absurd h1 hdeltaDiff
  · exact absurd h1 hrlePut
  · exact absurd h1 hsnapPut
  · exact absurd h1 hsnapmemory
  · exact rOkF_of h1
theorem apOk : APOk Tryz.prog p where
  mixed := by kernel_rfl
  fn f af h := tab_ok _ (lk_mem _ _ _ h)
  prim f g h args H v H' hv K β w cargs _ hI ha := by
    have h : (if f = 123 then some rowP else none) = some g := h
    split at h
    · rename_i e; subst e; cases h
      exact row_ok (t := 22) (e := 5) Tryz.func123 (by kernel_rfl) (by kernel_rfl) (by kernel_rfl) Tryz.underlying22 (fun a => ⟨Tryz.f123.params, by kernel_rfl⟩) args H v H' hv K β w cargs hI ha (by decide)
    · cases h
  rng := rng_ok
  bods := bods_ok
theorem bulkOk : Bulk (fun {_} => Rows.uptoBulk) (fun {_} => Rows.uptoBulkAll) where
  lit b := by simp [Rows.uptoBulk]
  pos d := by
    cases d with
    | lit l => cases l <;> simp [Rows.uptoBulk]
    | _ => simp [Rows.uptoBulk]
  agg l := by simp [Rows.uptoBulk]
  slice l m := by simp [Rows.uptoBulk]
  nil := by simp [Rows.uptoBulkAll]
  cons d l := by simp [Rows.uptoBulkAll]
theorem own : ownKnob Tryz.prog.godebug = none := by kernel_rfl
theorem laidOut : laidOutB Tryz.prog = true := by kernel_rfl
theorem frz_bool {k : Nat} {u u' : V} {b : Bool} {H H' : List Ob} (h : freezeV k u H = some (u', H')) (hn : nrm u' = .bool b) : u = .bool b := by
  cases k with
  | zero => cases h
  | succ k =>
    have hu : ∀ x, nrm x = .bool b → x = .bool b := by
      intro x hx
      cases x <;> first | (rw [nr_bool] at hx; exact hx) | (simp [nrm] at hx)
    have := hu u' hn
    subst this
    cases u with
    | bool c => simp [freezeV] at h; rw [h.1]
    | own a b c d => exfalso; simp only [freezeV] at h; repeat' split at h
                     all_goals first | (cases h; done) | simp at h
    | mref a => exfalso; simp only [freezeV] at h; repeat' split at h
                all_goals first | (cases h; done) | simp at h
    | agg l => simp only [freezeV] at h; obtain ⟨x, _, h⟩ := Option.map_eq_some_iff.1 h; simp at h
    | tuple l => simp only [freezeV] at h; obtain ⟨x, _, h⟩ := Option.map_eq_some_iff.1 h; simp at h
    | _ => simp [freezeV] at h
theorem done {f : FuncId} {args : List V} (h : Comes p f args (.bool true)) (hi : p.inlY f = false) : ∃ n H', acall p n f args [] = some (.ret (.bool true), H') := by
  obtain ⟨_, _, _, n, u, H', h3, h4⟩ := h
  rcases h4 with ⟨h4, rfl⟩ | ⟨_, u', H'', h5, h6⟩
  · rw [hi] at h4; cases h4
  · exact ⟨n, H', by rw [h3, frz_bool h5 h6]⟩
end Fz.D
set_option maxRecDepth 100000
namespace Go.Proofs.YtnngbniomonabaaGreatDoor
open Fz Fz.D Go.ChangeShapes Go.WideShapes Go.ChangeAt Go.RowKit
def seatLaid : List (String × DataW Unit) := [("unicode/utf8.acceptRanges", Rows.laid_unicode_utf8_acceptRanges), ("unicode/utf8.first", Rows.laid_unicode_utf8_first)]
theorem glob_seat {W : World} (_ : laidMetH Tryz.prog seatLaid W) : GlobW W := by intro g l h; cases h
theorem door_met (os : Os) (args : Array Value) : laidMetH Tryz.prog seatLaid ((World.laidAll Tryz.prog os seatLaid).forCall (fun _ _ => 0) ⟨#[], args, []⟩).memory := by
  rw [MakeChecks.laidMetH_plain _ _ _ (by kernel_rfl)]
  exact laidMet_laidAll _ (by kernel_rfl) (by kernel_rfl)
end Go.Proofs.YtnngbniomonabaaGreatDoor
set_option maxRecDepth 100000
namespace Fz.D
open Go
def rcount (c : Int) : List Int → Nat
  | [] => 0
  | x :: r => if x = c then rcount c r + 1 else 0
theorem rcount_le (c : Int) : ∀ l : List Int, rcount c l ≤ l.length
  | [] => Nat.le_refl _
  | x :: r => by
    have := rcount_le c r
    unfold rcount
    split <;> simp <;> omega
theorem rcount_at {b : List Int} {c : Int} {j : Nat} (h : j < b.length) : rcount c (b.drop j) = if b[j] = c then rcount c (b.drop (j + 1)) + 1 else 0 := by
  rw [List.drop_eq_getElem_cons h, rcount]
theorem rcount_end {b : List Int} {c : Int} {j : Nat} (h : ¬ j < b.length) : rcount c (b.drop j) = 0 := by
  rw [List.drop_eq_nil_of_le (by omega)]; rfl
def rleK : Nat → List Int → List Int
  | 0, _ => []
  | _ + 1, [] => []
  | k + 1, c :: r => encN (rcount c (c :: r) : Nat) ++ c :: rleK k ((c :: r).drop (rcount c (c :: r)))
def rleF (b : List Int) : List Int := rleK b.length b
theorem rleK_step {k : Nat} {b : List Int} {i : Nat} (h : i < b.length) : rleK (k + 1) (b.drop i) = encN (rcount b[i] (b.drop i) : Nat) ++ b[i] :: rleK k (b.drop (i + rcount b[i] (b.drop i))) := by
  have e := List.drop_eq_getElem_cons h
  rw [← List.drop_drop, e]
  rfl
theorem rleK_nil (k : Nat) : rleK k [] = [] := by cases k <;> rfl
theorem rcount_pos {b : List Int} {i : Nat} (h : i < b.length) : 1 ≤ rcount b[i] (b.drop i) ∧ i + rcount b[i] (b.drop i) ≤ b.length := by
  have := rcount_le b[i] (b.drop i)
  rw [List.length_drop] at this
  rw [rcount_at h, if_pos rfl] at this ⊢
  omega
theorem encN_le {n : Nat} (h : n ≤ 1000000) : (encN (n : Int)).length ≤ 65 := encN_len (by unfold i64; omega)
theorem refRle_s {b : List Int} (hb : b.length ≤ 100000) : Comes p 26 [byV b] (byV (rleF b)) := by
  refine Comes_of w26 rfl rfl k26 ?_ ?_ ?_ ?_
  · simp
  · simp
  · simp
  · simp -dsimp [w26, wFix_by, isInl]
    refine xL_by (by kernel_rfl) (fun k e H => ∃ (i m : Nat) (v : V) (out : List Int), i ≤ b.length ∧ k = b.length - i ∧ e 0 = byV b ∧ e 4 = .int .i64 i ∧ e 3 = v ∧ b.length - i ≤ m ∧ out ++ rleK m (b.drop i) = rleF b ∧ out.length ≤ 100 * i ∧ Ac 1 0 H v (out.map (V.int .u8))) b.length ?_ ?_
    · refine ⟨0, b.length, .list [] true, [], by omega, rfl, ?_⟩
      simp -dsimp [rleF]
      exact ac_nil (by decide)
    rintro k e H ⟨i, m, v, out, hi, hk, h0, h4, h3, hm, hout, hol, ha⟩
    by_cases c1 : i < b.length
    · obtain ⟨m, rfl⟩ : ∃ q, m = q + 1 := ⟨m - 1, by omega⟩
      rw [rleK_step c1] at hout
      obtain ⟨q1, q2⟩ := rcount_pos c1
      simp -dsimp [-wAppend_list, h0, h4, h3, c1, byV]
      refine xL_by (by kernel_rfl) (fun k e H' => ∃ (n : Nat), 1 ≤ n ∧ i + n ≤ b.length ∧ k = b.length - (i + n) ∧ e 0 = byV b ∧ e 4 = .int .i64 i ∧ e 3 = v ∧ e 5 = .int .i64 n ∧ H' = H ∧ n + rcount b[i] (b.drop (i + n)) = rcount b[i] (b.drop i)) (b.length - (i + 1)) ?_ ?_
      · refine ⟨1, by omega, by omega, rfl, ?_⟩
        simp -dsimp [h0, h4, h3, byV]
        rw [rcount_at c1, if_pos rfl]; omega
      rintro k' e H' ⟨n, n1, n2, hk', h0, h4, h3, h5, rfl, hn⟩
      obtain ⟨s, hs⟩ : ∃ s, s = i + n := ⟨_, rfl⟩
      have w1 : IntKind.i64.wrap ((i : Int) + n) = (s : Int) := by rw [Fz.w64 (by omega) (by omega)]; omega
      have w2 : IntKind.i64.wrap ((n : Int) + 1) = ((n + 1 : Nat) : Int) := by rw [Fz.w64 (by omega) (by omega)]; omega
      have g1 : b[i]?.getD default = b[i] := by simp [c1]
      rw [← hs] at hn
      by_cases c2 : s < b.length
      · have g2 : b[s]?.getD default = b[s] := by simp [c2]
        by_cases c3 : b[s] = b[i]
        · rw [rcount_at c2, if_pos c3] at hn
          simp -dsimp [-wAppend_list, h0, h4, h3, h5, c1, c2, c3, w1, w2, g1, g2, byV]
          refine ⟨b.length - (i + (n + 1)), by omega, n + 1, by omega, by omega, rfl, ?_⟩
          simp -dsimp [h0, h4, h3, byV]
          rw [show i + (n + 1) = s + 1 from by omega]; omega
        · rw [rcount_at c2, if_neg c3] at hn
          simp -dsimp [-wAppend_list, h0, h4, h3, h5, c1, c2, c3, w1, w2, g1, g2, byV]
          have hn' : rcount b[i] (b.drop i) = n := by omega
          have cN := refNumE (n := (n : Int)) (by unfold i64; omega)
          have lN := encN_le (n := n) (by omega)
          unfold byV at cN
          rw [hn'] at hout q1 q2
          simp -dsimp [-wAppend_list, call_by cN, h0, h4, h3, h5]
          refine app_ac 0 (l := out.map (V.int .u8)) (m := (encN n).map (V.int .u8)) (by simpa using ha) (by omega) (by simp) (by simp) (by simp) (by simp [storable]) (by simp [capOk]; omega) fun v1 J1 a1 => ?_
          rw [← List.map_append] at a1
          simp -dsimp [-wAppend_list, h0, h4, h3, h5, c1, g1, byV]
          refine app_ac 0 (l := (out ++ encN n).map (V.int .u8)) (m := [V.int .u8 b[i]]) (by simpa using ac_ext a1 _) (by omega) (by simp) (by simp) (by simp) (by simp [storable]) (by simp [capOk]; omega) fun v2 J2 a2 => ?_
          simp -dsimp [-wAppend_list, h0, h4, h3, h5, w1, byV]
          refine ⟨b.length - s, by omega, s, m, v2, out ++ encN n ++ [b[i]], by omega, rfl, ?_⟩
          simp -dsimp [h0, h4, h3, byV]
          refine ⟨by omega, ?_, by omega, by simpa using a2⟩
          rw [hs]; simpa using hout
      · rw [rcount_end c2] at hn
        simp -dsimp [-wAppend_list, h0, h4, h3, h5, c1, c2, w1, w2, g1, byV]
        have hn' : rcount b[i] (b.drop i) = n := by omega
        have cN := refNumE (n := (n : Int)) (by unfold i64; omega)
        have lN := encN_le (n := n) (by omega)
        unfold byV at cN
        rw [hn'] at hout q1 q2
        simp -dsimp [-wAppend_list, call_by cN, h0, h4, h3, h5]
        refine app_ac 0 (l := out.map (V.int .u8)) (m := (encN n).map (V.int .u8)) (by simpa using ha) (by omega) (by simp) (by simp) (by simp) (by simp [storable]) (by simp [capOk]; omega) fun v1 J1 a1 => ?_
        rw [← List.map_append] at a1
        simp -dsimp [-wAppend_list, h0, h4, h3, h5, c1, g1, byV]
        refine app_ac 0 (l := (out ++ encN n).map (V.int .u8)) (m := [V.int .u8 b[i]]) (by simpa using ac_ext a1 _) (by omega) (by simp) (by simp) (by simp) (by simp [storable]) (by simp [capOk]; omega) fun v2 J2 a2 => ?_
        simp -dsimp [-wAppend_list, h0, h4, h3, h5, w1, byV]
        refine ⟨b.length - s, by omega, s, m, v2, out ++ encN n ++ [b[i]], by omega, rfl, ?_⟩
        simp -dsimp [h0, h4, h3, byV]
        refine ⟨by omega, ?_, by omega, by simpa using a2⟩
        rw [hs]; simpa using hout
    · have hii : i = b.length := by omega
      subst hii
      rw [List.drop_length, rleK_nil, List.append_nil] at hout
      rw [hout] at ha
      simp -dsimp [-wAppend_list, wFix_by, isInl, h0, h4, h3, c1, byV]
      exact frz_ac (b := 0) (by simpa using ha)
end Fz.D
set_option maxRecDepth 100000
namespace Fz.D
open Go
theorem trimB_s {b : List Int} {c : Int} (hb : b.length ≤ 100000) : Comes p 118 [byV b, .int .u8 c] (byV (b.drop (rcount c b))) := by
  refine Comes_of w118 rfl rfl k118 ?_ ?_ ?_ ?_
  · simp
  · simp
  · simp
  · simp -dsimp [w118, wFix_by, isInl]
    refine xL_by (by kernel_rfl) (fun k e H => ∃ (i : Nat) (l : List Int), i ≤ b.length ∧ k = b.length - i ∧ l = b.drop i ∧ e 0 = .list (l.map (V.int .u8)) false ∧ e 1 = .int .u8 c ∧ H = [] ∧ i + rcount c l = rcount c b) b.length ?_ ?_
    · refine ⟨0, b, by omega, rfl, by simp, ?_⟩
      simp -dsimp [byV]
    rintro k e H ⟨i, l, hi, hk, hl, h0, h1, rfl, hr⟩
    cases l with
    | nil =>
      simp -dsimp [h0, h1]
      have e1 : b.drop (rcount c b) = [] := by rw [← hr, ← List.drop_drop, ← hl]; rfl
      rw [e1, wFix_by (by simp [isInl])]
      simp -dsimp [byV]
    | cons x l =>
      have hlen : i < b.length := by
        have := congrArg List.length hl
        simp at this; omega
      have hl1 : l = b.drop (i + 1) := by rw [← List.drop_drop, ← hl]; rfl
      by_cases hx : x = c
      · rw [rcount, if_pos hx] at hr
        simp -dsimp [h0, h1, hx]
        refine ⟨b.length - (i + 1), by omega, i + 1, l, by omega, rfl, hl1, ?_⟩
        simp -dsimp [h0, h1, hx]
        omega
      · rw [rcount, if_neg hx] at hr
        simp -dsimp [h0, h1, hx]
        have hi' : rcount c b = i := by omega
        rw [if_neg (by omega), wFix_by (by simp [isInl]), hi', ← hl]
        simp -dsimp [byV]
theorem trim_s {b : List Int} (hb : b.length ≤ 100000) : Comes p 103 [byV b, .str ⟨#[0]⟩] (byV (b.drop (rcount 0 b))) := by
  have c := trimB_s (c := 0) hb
  refine Comes_of w103 rfl rfl k103 ?_ ?_ ?_ ?_
  · simp
  · simp
  · simp
  · cases b with
    | nil =>
      simp -dsimp [w103, wFix_by, isInl, byV]
    | cons x l =>
      generalize (x :: l).drop (rcount 0 (x :: l)) = L at *
      unfold byV at c
      rw [List.map_cons] at c
      have h3 : (ByteArray.mk #[0]).size = 1 := rfl
      have h1 : ¬ ((l.length : Int) + 1 = 0) := by omega
      have h2 : (ByteArray.mk #[0] == ByteArray.mk #[]) = false := by decide
      simp -dsimp [w103, wFix_by, isInl, byV, h1, h3, call_by c]
end Fz.D
set_option maxRecDepth 100000
namespace Fz.D
open Go
end Fz.D
set_option maxRecDepth 100000
namespace Fz.D
open Go
end Fz.D
set_option maxRecDepth 100000
namespace Fz.D
open Go
theorem few_len {s : St} (h : fewB s = true) : s.mem.length ≤ 600 ∧ s.data.length ≤ 40 ∧ s.ret.length ≤ 40 ∧ s.ctl.length ≤ 200 ∧ s.words.length ≤ 40 ∧ s.spots.length ≤ 100 ∧ s.out.length ≤ 200 ∧ ∀ w ∈ s.words, w.name.size ≤ 60 := by
  unfold fewB at h
  simp only [Bool.and_eq_true, decide_eq_true_eq, List.all_eq_true] at h
  obtain ⟨h0, h1, h2, h3, h4, h5, h6, h7⟩ := h
  exact ⟨h1, h2, h3, h4, h5, h6, h7, fun w hw => h0 w (by rw [List.take_of_length_le (by omega)]; exact hw)⟩
theorem few_st {s : St} (h : fewB s = true) : StLen s := by
  obtain ⟨h1, h2, h3, h4, h5, h6, h7, _⟩ := few_len h
  constructor <;> omega
theorem rn_ok {a : List Int} (ha : by8 a) {s i : Nat} (hs : s ≤ a.length) : (0 ≤ (rn a s i).at_ ∧ (rn a s i).at_ ≤ a.length) ∧ (rn a s i).b.length ≤ a.length ∧ by8 (rn a s i).b := by
  refine ⟨⟨by simp [rn], by simp [rn]; omega⟩, ?_, fun x hx => ha x (List.mem_of_mem_drop (List.mem_of_mem_take hx))⟩
  simp [rn]; omega
theorem fin_ok {a b : List Int} (ha : by8 a) : ∀ i, i ≤ a.length → ∀ r ∈ fin a (G a b i) i, (0 ≤ r.at_ ∧ r.at_ ≤ a.length) ∧ r.b.length ≤ a.length ∧ by8 r.b
  | 0, _, r, hr => by simp [fin, G] at hr
  | i + 1, hi, r, hr => by
    have ih := fin_ok ha (b := b) i (by omega)
    have hle := G_le a b i
    by_cases h : gt a i = gt b i
    · rw [fin_same h] at hr; exact ih r hr
    · rw [fin_more h] at hr
      rcases List.mem_append.1 hr with hr | hr
      · exact ih r (by unfold fin; split <;> simp [hr])
      · rw [List.mem_singleton.1 hr]; exact rn_ok ha (by omega)
theorem runs_ok {a b : List Int} (ha : by8 a) : ∀ r ∈ runsF a b, (0 ≤ r.at_ ∧ r.at_ ≤ a.length) ∧ r.b.length ≤ a.length ∧ by8 r.b := fin_ok ha a.length (Nat.le_refl _)
theorem diff_ok {f t : St} (tf : StTy f) (hf : fewB f = true) (ht : fewB t = true) : DeOk (diffD f t) := by
  obtain ⟨f1, f2, f3, f4, f5, f6, f7, f8⟩ := few_len hf
  obtain ⟨t1, t2, t3, t4, t5, t6, t7, _⟩ := few_len ht
  have l1 := (shr_le (q := inQ) f.data t.data).1
  have l2 := (shr_le (q := sloQ) f.ret t.ret).1
  have l3 := (shr_le (q := inQ) f.ctl t.ctl).1
  have l4 := (shr_le (q := worQ) f.words t.words).1
  have l5 := (shr_le (q := spoQ) f.spots t.spots).1
  have ll : (runsF f.mem t.mem).length ≤ f.mem.length := fin_len _ _ _
  constructor
  · intro r hr
    have := runs_ok tf.mem r hr
    unfold i64
    omega
  · exact Nat.le_trans ll (by omega)
  · show i64 (shr inQ f.data t.data : Nat); unfold i64; omega
  · exact fun n hn => tf.data n (List.mem_of_mem_drop hn)
  · show (f.data.drop _).length ≤ _; simp; omega
  · show i64 (shr sloQ f.ret t.ret : Nat); unfold i64; omega
  · exact fun n hn => tf.ret n (List.mem_of_mem_drop hn)
  · show (f.ret.drop _).length ≤ _; simp; omega
  · show i64 (shr inQ f.ctl t.ctl : Nat); unfold i64; omega
  · exact fun n hn => tf.ctl n (List.mem_of_mem_drop hn)
  · show (f.ctl.drop _).length ≤ _; simp; omega
  · show i64 (shr worQ f.words t.words : Nat); unfold i64; omega
  · exact fun n hn => ⟨tf.words n (List.mem_of_mem_drop hn), by rw [nmB_len]; have := f8 n (List.mem_of_mem_drop hn); omega⟩
  · show (f.words.drop _).length ≤ _; simp; omega
  · show i64 (shr spoQ f.spots t.spots : Nat); unfold i64; omega
  · exact fun n hn => tf.spots n (List.mem_of_mem_drop hn)
  · show (f.spots.drop _).length ≤ _; simp; omega
  · show i64 ((t.out.length : Int) - f.out.length); unfold i64; omega
  · exact tf.regs
theorem diff_by {f t : St} (tf : StTy f) : ∀ r ∈ (diffD f t).mem, by8 r.b := fun r hr => (runs_ok tf.mem r hr).2.2
theorem stF (s : St) : V.agg (cellsOf (stV s)) = stV s := rfl
end Fz.D
set_option maxRecDepth 100000
namespace Fz.D
open Go
theorem zeros_len {z : List V} : ∀ k, (zeros z k).length = k * z.length
  | 0 => by simp [zeros]
  | k + 1 => by rw [zeros, List.length_append, zeros_len k, Nat.succ_mul]; omega
def totA {α : Type} (ls : List (List α)) : Nat := (ls.map List.length).sum
def catA {α : Type} (ls : List (List α)) : List α := ls.flatten
@[simp] theorem catA_nil {α : Type} : catA ([] : List (List α)) = [] := rfl
end Fz.D
set_option maxRecDepth 100000
namespace Fz.D
open Go
end Fz.D
set_option maxRecDepth 100000
namespace Fz.D
open Go
def wi (a : Int) (n : Nat) : Bool := decide (0 ≤ a ∧ a ≤ (n : Int))
def runOk (n : Nat) (r : Rn) : Bool := wi r.at_ n && decide (r.at_ + r.b.length ≤ n)
def restOk (t : St) (d : De) : Bool := wi d.dk t.data.length && (wi d.rk t.ret.length && (wi d.ck t.ctl.length && (wi d.wk t.words.length && (wi d.sk t.spots.length && wi d.out t.out.length))))
def fitsB (t : St) (d : De) : Bool := d.mem.all (runOk t.mem.length) && restOk t d
def patch (m : List Int) (r : Rn) : List Int := m.take r.at_.toNat ++ r.b ++ m.drop (r.at_.toNat + r.b.length)
def backS (t : St) (d : De) : St := { mem := d.mem.foldl patch t.mem, data := t.data.take d.dk.toNat ++ d.dt, ret := t.ret.take d.rk.toNat ++ d.rt, ctl := t.ctl.take d.ck.toNat ++ d.ct, words := t.words.take d.wk.toNat ++ d.wt, spots := t.spots.take d.sk.toNat ++ d.st, out := t.out.take (t.out.length - d.out.toNat), ip := d.r0, here := d.r1, at_ := d.r2, tok := d.r3, in_ := d.r4, err := d.r5, comp := d.comp, halt := d.halt }
def St0 : St := { mem := [], data := [], ret := [], ctl := [], words := [], spots := [], out := [], ip := 0, here := 0, at_ := 0, tok := 0, in_ := 0, err := 0, comp := false, halt := false }
def backV (t : St) (d : De) : V := if fitsB t d = true then .tuple [stV (backS t d), .int .i64 0] else .tuple [stV St0, .int .i64 1]
end Fz.D
set_option maxRecDepth 100000
namespace Fz.D
open Go
def patchK (m : List Int) (r : Rn) (k : Nat) : List Int := m.take r.at_.toNat ++ r.b.take k ++ m.drop (r.at_.toNat + k)
def Z15 : List V := [.list [] true, .list [] true, .list [] true, .list [] true, .list [] true, .list [] true, .list [] true, .int .i64 0, .int .i64 0, .int .i64 0, .int .i64 0, .int .i64 0, .int .i64 0, .bool false, .bool false]
structure BkOk (t : St) (d : De) : Prop where
  tm : t.mem.length ≤ 100000
  to : t.out.length ≤ 100000
  dm : d.mem.length ≤ 100000
  db : ∀ r ∈ d.mem, r.b.length ≤ 100000
  l1 : t.data.length ≤ 100000 ∧ d.dt.length ≤ 100000
  l2 : t.ret.length ≤ 100000 ∧ d.rt.length ≤ 100000
  l3 : t.ctl.length ≤ 100000 ∧ d.ct.length ≤ 100000
  l4 : t.words.length ≤ 100000 ∧ d.wt.length ≤ 100000
  l5 : t.spots.length ≤ 100000 ∧ d.st.length ≤ 100000
abbrev R2 (t : St) (d : De) : List Ob := [.live (cellsOf (stV t)), .live (cellsOf (deV d))]
end Fz.D
set_option maxRecDepth 100000
namespace Fz.D
open Go
def jn {α : Type} (l : List α) (keep : Int) (tail : List α) : List α := if wi keep l.length = true then l.take keep.toNat ++ tail else []
def BS (t : St) (d : De) (v : V) : List V := [v, inV (jn t.data d.dk d.dt), slosV (jn t.ret d.rk d.rt), inV (jn t.ctl d.ck d.ct), worsV (jn t.words d.wk d.wt), sposV (jn t.spots d.sk d.st), byV t.out, .int .i64 t.ip, .int .i64 t.here, .int .i64 t.at_, .int .i64 t.tok, .int .i64 t.in_, .int .i64 t.err, .bool t.comp, .bool t.halt]
def BH (t : St) (d : De) (v : V) (T : List Ob) : List Ob := .live (cellsOf (stV t)) :: .live (cellsOf (deV d)) :: .live Z15 :: .live [.bool true, .bool true, .bool true, .bool true, .bool true, .bool true] :: .live (BS t d v) :: T
end Fz.D
set_option maxRecDepth 100000
namespace Fz.D
open Go
end Fz.D
set_option maxRecDepth 100000
namespace Fz.D
open Go
theorem eta2 {α β : Type} (x : α × β) : x = (x.1, x.2) := rfl
structure Rs where
  b : List Int
  e : Int
deriving Inhabited
def leadK : Nat → List Int → Nat
  | 0, _ => 0
  | _ + 1, [] => 0
  | k + 1, x :: l => if 128 ≤ x then leadK k l + 1 else 0
def lead (b : List Int) : Nat := leadK 10 b
def endsF (b : List Int) : Nat × Int :=
  if (0 < b.length ∧ gt b 0 = 128) ∨ lead b = 10 then (0, 2) else if lead b = b.length then (0, 3) else if lead b = 9 ∧ 129 < gt b 0 then (0, 2) else (lead b + 1, 0)
def val1 (v c : Int) : Int := (v * 128 + c % 128) % 18446744073709551616
def valU (l : List Int) : Int := l.foldl val1 0
def unzz (x : Int) : Int := if x % 2 = 0 then x / 2 else -(x / 2) - 1
def rd (lo hi : Int) (s : Rs) : Rs × Int :=
  if s.e ≠ 0 then (s, 0) else if (endsF s.b).2 ≠ 0 then (⟨s.b, (endsF s.b).2⟩, 0) else
    if unzz (valU (s.b.take (endsF s.b).1)) < lo ∨ hi < unzz (valU (s.b.take (endsF s.b).1)) then (⟨s.b.drop (endsF s.b).1, 2⟩, 0) else (⟨s.b.drop (endsF s.b).1, 0⟩, unzz (valU (s.b.take (endsF s.b).1)))
def rdT (most : Int) (s : Rs) : Rs × List Int :=
  if (rd 0 most s).1.e ≠ 0 then ((rd 0 most s).1, []) else if ((rd 0 most s).1.b.length : Int) < (rd 0 most s).2 then (⟨(rd 0 most s).1.b, 3⟩, []) else
    (⟨(rd 0 most s).1.b.drop (rd 0 most s).2.toNat, 0⟩, (rd 0 most s).1.b.take (rd 0 most s).2.toNat)
def endR (s : Rs) : Int := if s.e = 0 ∧ 0 < s.b.length then 2 else s.e
end Fz.D
set_option maxRecDepth 100000
namespace Fz.D
open Go
end Fz.D
set_option maxRecDepth 100000
namespace Fz.D
open Go
abbrev Rd (s : Rs) : Ob := .live [byV s.b, .int .i64 s.e]
structure RsOk (s : Rs) : Prop where
  len : s.b.length ≤ 10000000
  by_ : by8 s.b
def rdN (s : Rs) : Rs × Int := rd (-9223372036854775808) 9223372036854775807 s
def rdRun (s : Rs) : Rs × Rn := ((rdT 65536 (rdN s).1).1, ⟨(rdN s).2, (rdT 65536 (rdN s).1).2⟩)
def rdSlo (s : Rs) : Rs × Slo := ((rd 0 1 (rdN s).1).1, ⟨(rdN s).2, decide ((rd 0 1 (rdN s).1).2 = 1)⟩)
def rdWor (s : Rs) : Rs × Wor := ((rd 0 3 (rdN (rdT 65536 s).1).1).1, ⟨bstr (rdT 65536 s).2, (rdN (rdT 65536 s).1).2, decide ((rd 0 3 (rdN (rdT 65536 s).1).1).2 % 2 = 1), decide (2 ≤ (rd 0 3 (rdN (rdT 65536 s).1).1).2)⟩)
def rdSpo (s : Rs) : Rs × Spo := ((rdN (rdN s).1).1, ⟨(rdN s).2, (rdN (rdN s).1).2⟩)
abbrev Bx5 (b : Nat) : Ob := .live [.fn (.func 78) [] [.ptr b 0]]
abbrev Bx4 (j : Nat) : Ob := .live [.ptr j 0]
end Fz.D
set_option maxRecDepth 100000
namespace Fz.D
open Go
def someK {α : Type} (f : Rs → Rs × α) : Nat → Rs → List α → Rs × List α
  | 0, s, acc => (s, acc)
  | k + 1, s, acc => if s.e ≠ 0 then (s, []) else someK f k (f s).1 (acc ++ [(f s).2])
def someF {α : Type} (f : Rs → Rs × α) (s : Rs) : Rs × List α := someK f (rd 0 65536 s).2.toNat (rd 0 65536 s).1 []
end Fz.D
set_option maxRecDepth 100000
namespace Fz.D
open Go
abbrev D5 (W : List Ob) : List Ob := .dead :: .dead :: .dead :: .dead :: .dead :: W
def De0 : De := { mem := [], dk := 0, dt := [], rk := 0, rt := [], ck := 0, ct := [], wk := 0, wt := [], sk := 0, st := [], out := 0, r0 := 0, r1 := 0, r2 := 0, r3 := 0, r4 := 0, r5 := 0, comp := false, halt := false }
structure Tk (b : List Int) where
  s1 : Rs
  mem : List Rn
  s2 : Rs
  dk : Int
  s3 : Rs
  dt : List Int
  s4 : Rs
  rk : Int
  s5 : Rs
  rt : List Slo
  s6 : Rs
  ck : Int
  s7 : Rs
  ct : List Int
  s8 : Rs
  wk : Int
  s9 : Rs
  wt : List Wor
  s10 : Rs
  sk : Int
  s11 : Rs
  st : List Spo
  s12 : Rs
  out : Int
  s13 : Rs
  r0 : Int
  s14 : Rs
  r1 : Int
  s15 : Rs
  r2 : Int
  s16 : Rs
  r3 : Int
  s17 : Rs
  r4 : Int
  s18 : Rs
  r5 : Int
  s19 : Rs
  fl : Int
  h1 : someF rdRun ⟨b, 0⟩ = (s1, mem)
  h2 : rdN s1 = (s2, dk)
  h3 : someF rdN s2 = (s3, dt)
  h4 : rdN s3 = (s4, rk)
  h5 : someF rdSlo s4 = (s5, rt)
  h6 : rdN s5 = (s6, ck)
  h7 : someF rdN s6 = (s7, ct)
  h8 : rdN s7 = (s8, wk)
  h9 : someF rdWor s8 = (s9, wt)
  h10 : rdN s9 = (s10, sk)
  h11 : someF rdSpo s10 = (s11, st)
  h12 : rdN s11 = (s12, out)
  h13 : rdN s12 = (s13, r0)
  h14 : rdN s13 = (s14, r1)
  h15 : rdN s14 = (s15, r2)
  h16 : rdN s15 = (s16, r3)
  h17 : rdN s16 = (s17, r4)
  h18 : rdN s17 = (s18, r5)
  h19 : rd 0 3 s18 = (s19, fl)
def tk (b : List Int) : Tk b :=
  let x1 := someF rdRun ⟨b, 0⟩
  let x2 := rdN x1.1
  let x3 := someF rdN x2.1
  let x4 := rdN x3.1
  let x5 := someF rdSlo x4.1
  let x6 := rdN x5.1
  let x7 := someF rdN x6.1
  let x8 := rdN x7.1
  let x9 := someF rdWor x8.1
  let x10 := rdN x9.1
  let x11 := someF rdSpo x10.1
  let x12 := rdN x11.1
  let x13 := rdN x12.1
  let x14 := rdN x13.1
  let x15 := rdN x14.1
  let x16 := rdN x15.1
  let x17 := rdN x16.1
  let x18 := rdN x17.1
  let x19 := rd 0 3 x18.1
  { s1 := x1.1, mem := x1.2, s2 := x2.1, dk := x2.2, s3 := x3.1, dt := x3.2, s4 := x4.1, rk := x4.2, s5 := x5.1, rt := x5.2, s6 := x6.1, ck := x6.2, s7 := x7.1, ct := x7.2, s8 := x8.1, wk := x8.2, s9 := x9.1, wt := x9.2, s10 := x10.1, sk := x10.2, s11 := x11.1, st := x11.2, s12 := x12.1, out := x12.2, s13 := x13.1, r0 := x13.2, s14 := x14.1, r1 := x14.2, s15 := x15.1, r2 := x15.2, s16 := x16.1, r3 := x16.2, s17 := x17.1, r4 := x17.2, s18 := x18.1, r5 := x18.2, s19 := x19.1, fl := x19.2, h1 := eta2 _, h2 := eta2 _, h3 := eta2 _, h4 := eta2 _, h5 := eta2 _, h6 := eta2 _, h7 := eta2 _, h8 := eta2 _, h9 := eta2 _, h10 := eta2 _, h11 := eta2 _, h12 := eta2 _, h13 := eta2 _, h14 := eta2 _, h15 := eta2 _, h16 := eta2 _, h17 := eta2 _, h18 := eta2 _, h19 := eta2 _ }
def Tk.d {b : List Int} (t : Tk b) : De := { mem := t.mem, dk := t.dk, dt := t.dt, rk := t.rk, rt := t.rt, ck := t.ck, ct := t.ct, wk := t.wk, wt := t.wt, sk := t.sk, st := t.st, out := t.out, r0 := t.r0, r1 := t.r1, r2 := t.r2, r3 := t.r3, r4 := t.r4, r5 := t.r5, comp := decide (t.fl % 2 = 1), halt := decide (2 ≤ t.fl) }
def takeV {b : List Int} (t : Tk b) : V := if endR t.s19 = 0 then .tuple [deV t.d, .int .i64 0] else .tuple [deV De0, .int .i64 (endR t.s19)]
end Fz.D
set_option maxRecDepth 100000
namespace Fz.D
open Go
end Fz.D
set_option maxRecDepth 100000
namespace Fz.D
open Go
def refC (B : List Int) (s : Rs) : List V := [byV B, .int .i64 (B.length - s.b.length : Nat), .int .i64 s.e]
def refV (B : List Int) (s : Rs) : V := .agg (refC B s)
@[simp] theorem refV.gd (B : List Int) (s : Rs) : ground (refV B s) = true := by simp [refV, refC]
@[simp] theorem refV.gk (B : List Int) (s : Rs) (k : Nat) : gk (k + 2) (refV B s) = true := by simp [refV, refC]
@[simp] theorem refV.nm (B : List Int) (s : Rs) : nm (refV B s) = true := by simp [refV, refC]
@[simp] theorem refV.nr (B : List Int) (s : Rs) : nrm (refV B s) = refV B s := by simp [refV, refC]
@[simp] theorem refV.any (B : List Int) (s : Rs) : isAny (refV B s) = false := rfl
@[simp] theorem refV.cells (B : List Int) (s : Rs) : cellsOf (refV B s) = refC B s := rfl
structure Suf (B : List Int) (s : Rs) : Prop where
  le : s.b.length ≤ B.length
  eq : s.b = B.drop (B.length - s.b.length)
  len : B.length ≤ 10000000
  by_ : by8 B
end Fz.D
set_option maxRecDepth 100000
namespace Fz.D
open Go
def refK {α : Type} (f : Rs → Rs × α) : Nat → Rs → List α → Rs × List α
  | 0, s, acc => (s, acc)
  | k + 1, s, acc => if s.e ≠ 0 then (s, acc) else refK f k (f s).1 (acc ++ [(f s).2])
def refRd {α : Type} (f : Rs → Rs × α) (s : Rs) : Rs × List α := refK f (rd 0 65536 s).2.toNat (rd 0 65536 s).1 []
end Fz.D
set_option maxRecDepth 100000
namespace Fz.D
open Go
structure Tr (b : List Int) where
  s1 : Rs
  mem : List Rn
  s2 : Rs
  dk : Int
  s3 : Rs
  dt : List Int
  s4 : Rs
  rk : Int
  s5 : Rs
  rt : List Slo
  s6 : Rs
  ck : Int
  s7 : Rs
  ct : List Int
  s8 : Rs
  wk : Int
  s9 : Rs
  wt : List Wor
  s10 : Rs
  sk : Int
  s11 : Rs
  st : List Spo
  s12 : Rs
  out : Int
  s13 : Rs
  r0 : Int
  s14 : Rs
  r1 : Int
  s15 : Rs
  r2 : Int
  s16 : Rs
  r3 : Int
  s17 : Rs
  r4 : Int
  s18 : Rs
  r5 : Int
  s19 : Rs
  fl : Int
  h1 : refRd rdRun ⟨b, 0⟩ = (s1, mem)
  h2 : rdN s1 = (s2, dk)
  h3 : refRd rdN s2 = (s3, dt)
  h4 : rdN s3 = (s4, rk)
  h5 : refRd rdSlo s4 = (s5, rt)
  h6 : rdN s5 = (s6, ck)
  h7 : refRd rdN s6 = (s7, ct)
  h8 : rdN s7 = (s8, wk)
  h9 : refRd rdWor s8 = (s9, wt)
  h10 : rdN s9 = (s10, sk)
  h11 : refRd rdSpo s10 = (s11, st)
  h12 : rdN s11 = (s12, out)
  h13 : rdN s12 = (s13, r0)
  h14 : rdN s13 = (s14, r1)
  h15 : rdN s14 = (s15, r2)
  h16 : rdN s15 = (s16, r3)
  h17 : rdN s16 = (s17, r4)
  h18 : rdN s17 = (s18, r5)
  h19 : rd 0 3 s18 = (s19, fl)
def tr (b : List Int) : Tr b :=
  let x1 := refRd rdRun ⟨b, 0⟩
  let x2 := rdN x1.1
  let x3 := refRd rdN x2.1
  let x4 := rdN x3.1
  let x5 := refRd rdSlo x4.1
  let x6 := rdN x5.1
  let x7 := refRd rdN x6.1
  let x8 := rdN x7.1
  let x9 := refRd rdWor x8.1
  let x10 := rdN x9.1
  let x11 := refRd rdSpo x10.1
  let x12 := rdN x11.1
  let x13 := rdN x12.1
  let x14 := rdN x13.1
  let x15 := rdN x14.1
  let x16 := rdN x15.1
  let x17 := rdN x16.1
  let x18 := rdN x17.1
  let x19 := rd 0 3 x18.1
  { s1 := x1.1, mem := x1.2, s2 := x2.1, dk := x2.2, s3 := x3.1, dt := x3.2, s4 := x4.1, rk := x4.2, s5 := x5.1, rt := x5.2, s6 := x6.1, ck := x6.2, s7 := x7.1, ct := x7.2, s8 := x8.1, wk := x8.2, s9 := x9.1, wt := x9.2, s10 := x10.1, sk := x10.2, s11 := x11.1, st := x11.2, s12 := x12.1, out := x12.2, s13 := x13.1, r0 := x13.2, s14 := x14.1, r1 := x14.2, s15 := x15.1, r2 := x15.2, s16 := x16.1, r3 := x16.2, s17 := x17.1, r4 := x17.2, s18 := x18.1, r5 := x18.2, s19 := x19.1, fl := x19.2, h1 := eta2 _, h2 := eta2 _, h3 := eta2 _, h4 := eta2 _, h5 := eta2 _, h6 := eta2 _, h7 := eta2 _, h8 := eta2 _, h9 := eta2 _, h10 := eta2 _, h11 := eta2 _, h12 := eta2 _, h13 := eta2 _, h14 := eta2 _, h15 := eta2 _, h16 := eta2 _, h17 := eta2 _, h18 := eta2 _, h19 := eta2 _ }
def Tr.d {b : List Int} (t : Tr b) : De := { mem := t.mem, dk := t.dk, dt := t.dt, rk := t.rk, rt := t.rt, ck := t.ck, ct := t.ct, wk := t.wk, wt := t.wt, sk := t.sk, st := t.st, out := t.out, r0 := t.r0, r1 := t.r1, r2 := t.r2, r3 := t.r3, r4 := t.r4, r5 := t.r5, comp := decide (t.fl % 2 = 1), halt := decide (2 ≤ t.fl) }
def refTakeV {b : List Int} (t : Tr b) : V := if endR t.s19 = 0 then .tuple [deV t.d, .int .i64 0] else .tuple [deV De0, .int .i64 (endR t.s19)]
end Fz.D
set_option maxRecDepth 100000
namespace Fz.D
open Go
end Fz.D
set_option maxRecDepth 100000
namespace Fz.D
open Go
def valN (l : List Int) : Nat := l.foldl (fun v c => v * 128 + (c.toNat - 128)) 0
end Fz.D
set_option maxRecDepth 100000
namespace Fz.D
open Go
structure Enc {α : Type} (f : Rs → Rs × α) (enc : α → List Int) (P : α → Prop) : Prop where
  A : ∀ x rest, P x → f ⟨enc x ++ rest, 0⟩ = (⟨rest, 0⟩, x)
  B : ∀ s, by8 s.b → (f s).1.e = 0 → s.e = 0 ∧ s.b = enc (f s).2 ++ (f s).1.b ∧ P (f s).2
theorem encL_cons {α : Type} (f : α → List Int) (a : α) (l : List α) : encL f (a :: l) = f a ++ encL f l := by simp [encL, cat]
end Fz.D
set_option maxRecDepth 100000
namespace Fz.D
open Go
theorem encD_parts (d : De) : encD d = (encN d.mem.length ++ encL encRun d.mem) ++ ((encN d.dk) ++ ((encN d.dt.length ++ encL encN d.dt) ++ ((encN d.rk) ++ ((encN d.rt.length ++ encL encSlo d.rt) ++ ((encN d.ck) ++ ((encN d.ct.length ++ encL encN d.ct) ++ ((encN d.wk) ++ ((encN d.wt.length ++ encL encWor d.wt) ++ ((encN d.sk) ++ ((encN d.st.length ++ encL encSpo d.st) ++ ((encN d.out) ++ ((encN d.r0) ++ ((encN d.r1) ++ ((encN d.r2) ++ ((encN d.r3) ++ ((encN d.r4) ++ ((encN d.r5) ++ (encN (flg d.comp d.halt))))))))))))))))))) := by
  unfold encD
  simp only [encs, encL, cat, List.map_cons, List.map_nil, List.flatten_cons, List.flatten_nil, List.append_nil, List.append_assoc]
structure TkOk (d : De) : Prop where
  mem : (∀ r ∈ d.mem, i64 r.at_ ∧ r.b.length ≤ 65536 ∧ by8 r.b) ∧ d.mem.length ≤ 65536
  dk : i64 d.dk
  dt : (∀ n ∈ d.dt, i64 n) ∧ d.dt.length ≤ 65536
  rk : i64 d.rk
  rt : (∀ s ∈ d.rt, i64 s.v) ∧ d.rt.length ≤ 65536
  ck : i64 d.ck
  ct : (∀ n ∈ d.ct, i64 n) ∧ d.ct.length ≤ 65536
  wk : i64 d.wk
  wt : (∀ s ∈ d.wt, i64 s.code ∧ (nmB s.name).length ≤ 65536) ∧ d.wt.length ≤ 65536
  sk : i64 d.sk
  st : (∀ s ∈ d.st, i64 s.addr ∧ i64 s.at_) ∧ d.st.length ≤ 65536
  out : i64 d.out
  r0 : i64 d.r0
  r1 : i64 d.r1
  r2 : i64 d.r2
  r3 : i64 d.r3
  r4 : i64 d.r4
  r5 : i64 d.r5
end Fz.D
set_option maxRecDepth 100000
namespace Fz.D
open Go
end Fz.D
set_option maxRecDepth 100000
namespace Fz.D
open Go
end Fz.D
set_option maxRecDepth 100000
namespace Fz.D
open Go
theorem encL_le {α : Type} {f : α → List Int} {c : Nat} : ∀ (l : List α), (∀ a ∈ l, (f a).length ≤ c) → (encL f l).length ≤ l.length * c
  | [], _ => by simp [encL, cat]
  | a :: l, h => by
    have := encL_le l fun a ha => h a (by simp [ha])
    have h1 := h a (by simp)
    rw [encL_cons, List.length_append, List.length_cons, Nat.add_mul]; omega
theorem len_i64 {n : Nat} (h : n ≤ 1000000) : i64 (n : Int) := by unfold i64; omega
end Fz.D
set_option maxRecDepth 100000
namespace Fz.D
open Go
theorem diff_enc {f t : St} (tf : StTy f) (hf : fewB f = true) (ht : fewB t = true) : (encD (diffD f t)).length ≤ 1000000 := by
  have ok := diff_ok tf hf ht
  obtain ⟨f1, f2, f3, f4, f5, f6, f7, f8⟩ := few_len hf
  have ll : (diffD f t).mem.length ≤ f.mem.length := fin_len _ _ _
  have lr : ∀ r ∈ (diffD f t).mem, r.b.length ≤ 600 := fun r hr => by have := (runs_ok tf.mem r hr).2.1; omega
  have w1 : (diffD f t).dt.length ≤ 40 := by show (f.data.drop _).length ≤ _; simp; omega
  have w2 : (diffD f t).rt.length ≤ 40 := by show (f.ret.drop _).length ≤ _; simp; omega
  have w3 : (diffD f t).ct.length ≤ 200 := by show (f.ctl.drop _).length ≤ _; simp; omega
  have w4 : (diffD f t).wt.length ≤ 40 := by show (f.words.drop _).length ≤ _; simp; omega
  have w5 : (diffD f t).st.length ≤ 100 := by show (f.spots.drop _).length ≤ _; simp; omega
  have lw : ∀ w ∈ (diffD f t).wt, w.name.size ≤ 60 := fun w hw => f8 w (List.mem_of_mem_drop hw)
  generalize diffD f t = d at *
  have e := congrArg List.length (encD_parts d)
  simp only [List.length_append] at e
  have t8 : ∀ b : List Int, b.length ≤ 1000 → (txt b).length ≤ 65 + b.length := fun b hb => by
    have := encN_len (len_i64 (n := b.length) (by omega)); unfold txt; simp; omega
  have m1 := encL_le (f := encRun) (c := 730) d.mem fun r hr => by
    have a1 := encN_len (ok.mem r hr).1
    have a2 := t8 r.b (by have := lr r hr; omega)
    have := lr r hr
    unfold encRun; simp; omega
  have m2 := encL_le (f := encN) (c := 65) d.dt fun r hr => encN_len (ok.dt r hr)
  have e2 : ∀ a b : Int, i64 a → i64 b → (encs [a, b]).length ≤ 130 := fun a b ha hb => by
    have := encN_len ha; have := encN_len hb
    simp [encs, cat]; omega
  have m3 := encL_le (f := encSlo) (c := 130) d.rt fun r hr => e2 _ _ (ok.rt r hr) (by unfold i64; split <;> omega)
  have m4 := encL_le (f := encN) (c := 65) d.ct fun r hr => encN_len (ok.ct r hr)
  have m5 := encL_le (f := encWor) (c := 300) d.wt fun r hr => by
    have a1 := e2 r.code (flg r.now r.hid) (ok.wt r hr).1 (by unfold flg i64; cases r.now <;> cases r.hid <;> simp)
    have a2 := t8 (nmB r.name) (by rw [nmB_len]; have := lw r hr; omega)
    have := nmB_len r.name
    have := lw r hr
    unfold encWor; simp; omega
  have m6 := encL_le (f := encSpo) (c := 130) d.st fun r hr => e2 _ _ (ok.st r hr).1 (ok.st r hr).2
  have n1 := encN_len (len_i64 (n := d.mem.length) (by omega))
  have n2 := encN_len (len_i64 (n := d.dt.length) (by omega))
  have n3 := encN_len (len_i64 (n := d.rt.length) (by omega))
  have n4 := encN_len (len_i64 (n := d.ct.length) (by omega))
  have n5 := encN_len (len_i64 (n := d.wt.length) (by omega))
  have n6 := encN_len (len_i64 (n := d.st.length) (by omega))
  have k1 := encN_len ok.dk
  have k2 := encN_len ok.rk
  have k3 := encN_len ok.ck
  have k4 := encN_len ok.wk
  have k5 := encN_len ok.sk
  have k6 := encN_len ok.out
  have rg := fun n hn => encN_len (ok.regs n hn)
  have r0 := rg d.r0 (by simp)
  have r1 := rg d.r1 (by simp)
  have r2 := rg d.r2 (by simp)
  have r3 := rg d.r3 (by simp)
  have r4 := rg d.r4 (by simp)
  have r5 := rg d.r5 (by simp)
  have fl : (encN (flg d.comp d.halt)).length ≤ 65 := encN_len (by unfold flg i64; cases d.comp <;> cases d.halt <;> simp)
  omega
end Fz.D
set_option maxRecDepth 100000
namespace Fz.D
open Go
theorem equal_s {a b : List Int} (ha : by8 a) (hb : by8 b) : Comes p 14 [byV a, byV b] (.bool (decide (a = b))) := by
  have e : decide (bstr a = bstr b) = decide (a = b) := decide_eq_decide.2 ⟨bstr_inj ha hb, fun h => by rw [h]⟩
  have e1 := all8 ha
  have e2 := all8 hb
  refine Comes_of w14 rfl rfl k14 ?_ ?_ ?_ ?_
  · simp
  · simp
  · simp
  · rw [← e]
    simp -dsimp [w14, wFix_by, isInl, byV, e1, e2, bstr_fold]
def npg (b : List Int) : Nat := (b.length + 63) / 64
theorem pages_s {b : List Int} (hb : b.length ≤ 100000) : Comes p 22 [byV b] (.int .i64 (npg b)) := by
  have w1 : IntKind.i64.wrap ((b.length : Int) + 63) = b.length + 63 := Fz.w64 (by omega) (by omega)
  have w2 : IntKind.i64.wrap (Int.tdiv ((b.length : Int) + 63) 64) = npg b := by
    rw [Int.tdiv_eq_ediv_of_nonneg (by omega), Fz.w64 (by omega) (by omega)]; unfold npg; omega
  refine Comes_of w22 rfl rfl k22 ?_ ?_ ?_ ?_
  · simp
  · simp
  · simp
  · simp -dsimp [w22, wFix_by, isInl, byV, w1, w2]
def pg (b : List Int) (n : Nat) : List Int := (b.drop (64 * n)).take 64
def rest (s : St) : St := { s with mem := [], out := [] }
theorem rest_s (s : St) : Comes p 21 [stV s] (stV (rest s)) := by
  refine Comes_of w21 rfl rfl k21 ?_ ?_ ?_ ?_
  · simp
  · simp
  · simp
  · simp -dsimp [w21, wFix_by, isInl, rest]
    rfl
theorem page_s {b : List Int} {n : Nat} (hb : b.length ≤ 100000) (hn : 64 * n ≤ b.length) : Comes p 23 [byV b, .int .i64 n] (byV (pg b n)) := by
  obtain ⟨q, hq⟩ : ∃ q, q = 64 * n := ⟨_, rfl⟩
  have w1 : IntKind.i64.wrap (64 * (n : Int)) = (q : Int) := by rw [Fz.w64 (by omega) (by omega)]; omega
  have w2 : IntKind.i64.wrap ((q : Int) + 64) = ((q + 64 : Nat) : Int) := by rw [Fz.w64 (by omega) (by omega)]; omega
  refine Comes_of w23 rfl rfl k23 ?_ ?_ ?_ ?_
  · simp
  · simp
  · simp
  · simp -dsimp [w23, wFix_by, isInl, byV, w1, w2, pg]
    have hm : (if (b.length : Int) < (q : Int) + 64 then (b.length : Int) else (q : Int) + 64) = ((min (q + 64) b.length : Nat) : Int) := by split <;> omega
    rw [hm, Int.toNat_natCast]
    refine ⟨by omega, ⟨by omega, by omega⟩, ?_⟩
    have e : List.take (min (q + 64) b.length - q) (List.drop q (List.map (V.int .u8) b)) = ((b.drop (64 * n)).take 64).map (V.int .u8) := by
      rw [← hq, List.map_take, List.map_drop]
      by_cases c : q + 64 ≤ b.length
      · rw [show min (q + 64) b.length - q = 64 from by omega]
      · rw [List.take_of_length_le (by simp; omega), List.take_of_length_le (by simp; omega)]
    have e2 : List.take 64 (List.drop (64 * n) (List.map (V.int .u8) b)) = ((b.drop (64 * n)).take 64).map (V.int .u8) := by rw [List.map_take, List.map_drop]
    rw [e, e2]
    generalize (b.drop (64 * n)).take 64 = L
    simp
end Fz.D
set_option maxRecDepth 100000
namespace Fz.D
open Go
abbrev Lq (i : Nat) : Ob := .loop 180 [3] [.ptr i 0] .ready
theorem yldR_s {B : Ob} {v : V} {n : Nat} {c : Int} {out : List Int} {T : List Ob} {Q : CR → List Ob → Prop} (hn : n ≤ 1000000) (hlen : out.length ≤ 10000000) (ha : Acc 1 3 T v (out.map (V.int .u8)))
    (hq : ∀ v' T', Acc 1 3 T' v' ((out ++ encN n ++ [c]).map (V.int .u8)) → Q (.ret (.bool true)) (Lq 2 :: B :: .live [v'] :: T')) :
    WCall p YF [.yld 0, .int .i64 n, .int .u8 c] (Lq 2 :: B :: .live [v] :: T) Q := by
  have h0 : refsL [.yld 0, .int .i64 n, .int .u8 c] = [0] := by simp [refs, refsL]
  have bp : bd180.ps = [8, 9] := rfl
  have i2 : ∀ l, List.idxOf 2 (0 :: 2 :: l) = 1 := fun _ => rfl
  have cN := num_s (n := (n : Int)) (by unfold i64; omega)
  have e0 : numB (zz (n : Int)).toNat = encN n := rfl
  rw [e0] at cN
  have lN := encN_le hn
  have l0 : encN n ≠ [] := encN_ne n
  have gN : ∀ g, renL g ((encN n).map (V.int .u8)) = (encN n).map (V.int .u8) := fun g => ren_ints _
  generalize encN (n : Int) = m at *
  obtain ⟨u1, u2, u3⟩ := ha
  rcases u3 with ⟨u3, rfl⟩ | ⟨j, rfl, hj⟩
  · have hre1 : reach (Lq 2 :: B :: .live [.list [] true] :: T) 1000 (refsL [.yld 0, .int .i64 n, .int .u8 c]) [] = some [0, 2] := by
      rw [h0]
      show reach _ (997 + 1 + 1 + 1) [0] [] = _
      simp [reach, refsOb, refsL, refs]
    refine WCall_inl rfl hre1 ?_
    simp -dsimp [renL, ren, renOb, i2]
    refine WFun_round ca180 cb180 (k := 180) rfl rfl rfl rfl rfl ka180 kb180 ?_
    simp -dsimp [ca180, cb180, setPs, envT, assignQ, bp, i2, roundQ, quiet_by cN, l0, byV, fillV, splice, wOpt, chunk]
    have o0 : out = [] := by simpa using u3
    subst o0
    have k0 : backK [0, 2] (T.length + 1 + 1 + 1) 0 = 0 := rfl
    have k1 : backK [0, 2] (T.length + 1 + 1 + 1) 1 = 2 := rfl
    have k3 : backK [0, 2] (T.length + 1 + 1 + 1) 3 = T.length + 1 + 1 + 1 + 1 := rfl
    have f2 : ∀ g, renL g (m.map (V.int .u8) ++ [V.int .u8 c]) = m.map (V.int .u8) ++ [V.int .u8 c] := fun g => groundL_ren g _ (by simp)
    refine ⟨by simp [capOk]; omega, by simp [capOk]; omega, ?_⟩
    have := hq (.own (T.length + 1 + 1 + 1 + 1) 0 (m.length + 1) 1) (T ++ [.dead, .live ((m ++ [c]).map (V.int .u8))])
      ⟨by simp, by decide, .inr ⟨T.length + 1, by simp; omega, by simp⟩⟩
    simp [backH, setAll, renOb, ren, renL, renR, crV, refs, refsL, refsOb, k0, k1, k3, f2]
    simpa using this
  · have hjl : j < T.length := (List.getElem?_eq_some_iff.1 hj).1
    have hj3 : (Lq 2 :: B :: .live [.own (3 + j) 0 (out.map (V.int .u8)).length 1] :: T)[3 + j]? = some (.live (flat (out.map (V.int .u8)))) := by
      rw [show 3 + j = j + 1 + 1 + 1 from by omega]; simpa using hj
    rw [flat_int] at hj3 hj
    have hre1 : reach (Lq 2 :: B :: .live [.own (3 + j) 0 (out.map (V.int .u8)).length 1] :: T) 1000 (refsL [.yld 0, .int .i64 n, .int .u8 c]) [] = some [0, 2, 3 + j] := by
      rw [h0]
      refine (reach_go (k := 999) rfl rfl).trans ?_
      refine (reach_go (k := 998) (by rfl) rfl).trans ?_
      simp only [refsOb, refsL, refs, List.nil_append, List.cons_append, List.append_nil]
      refine (reach_go (k := 997) (by simp; omega) hj3).trans ?_
      simp only [refsOb, refs_ints, List.append_nil, List.nil_append]
      exact reach_end (k := 996)
    have i3 : List.idxOf (3 + j) [0, 2, 3 + j] = 2 := by
      have e0 : (0 == 3 + j) = false := by rw [beq_eq_false_iff_ne]; omega
      have e3 : (2 == 3 + j) = false := by rw [beq_eq_false_iff_ne]; omega
      simp [List.idxOf_cons, e0, e3]
    have hj5 : (Lq 2 :: B :: .live [.own (3 + j) 0 out.length 1] :: T)[3 + j]?.getD .dead = .live (out.map (V.int .u8)) := by
      rw [show out.length = (out.map (V.int .u8)).length from by simp, hj3]; rfl
    refine WCall_inl rfl hre1 ?_
    simp -dsimp [renL, ren, renOb, i2, i3, hj5]
    refine WFun_round ca180 cb180 (k := 180) rfl rfl rfl rfl rfl ka180 kb180 ?_
    simp -dsimp [ca180, cb180, setPs, envT, assignQ, bp, i2, i3, roundQ, quiet_by cN, l0, byV, fillV, splice, wOpt, chunk]
    have k0 : backK [0, 2, 3 + j] (T.length + 1 + 1 + 1) 0 = 0 := rfl
    have k1 : backK [0, 2, 3 + j] (T.length + 1 + 1 + 1) 1 = 2 := rfl
    have k4 : backK [0, 2, 3 + j] (T.length + 1 + 1 + 1) 4 = T.length + 1 + 1 + 1 + 1 := rfl
    have tc : List.take (out.length + m.length) (out.map (V.int .u8) ++ m.map (V.int .u8)) = out.map (V.int .u8) ++ m.map (V.int .u8) := List.take_of_length_le (by simp)
    have f2 : ∀ g, renL g (out.map (V.int .u8) ++ m.map (V.int .u8) ++ [V.int .u8 c]) = out.map (V.int .u8) ++ m.map (V.int .u8) ++ [V.int .u8 c] := fun g => groundL_ren g _ (by simp)
    rw [tc]
    refine ⟨by simp [capOk]; omega, by simp [capOk]; omega, ?_⟩
    have := hq (.own (T.length + 1 + 1 + 1 + 1) 0 (out.length + m.length + 1) 1) (T.set j .dead ++ [.dead, .live ((out ++ m ++ [c]).map (V.int .u8))])
      ⟨by simp, by decide, .inr ⟨T.length + 1, by simp; omega, by simp⟩⟩
    have s3 : ∀ (x : Ob), (Lq 2 :: B :: .live [.own (T.length + 1 + 1 + 1 + 1) 0 (out.length + m.length + 1) 1] :: T).set (3 + j) x = Lq 2 :: B :: .live [.own (T.length + 1 + 1 + 1 + 1) 0 (out.length + m.length + 1) 1] :: T.set j x := fun x => by
      rw [show 3 + j = j + 1 + 1 + 1 from by omega]; rfl
    simp only [List.map_append, List.map_cons, List.map_nil] at this
    simp [-List.append_assoc, backH, setAll, renOb, ren, renL, renR, crV, refs, refsL, refsOb, k0, k1, k4, f2]
    rw [s3]
    exact this
end Fz.D
set_option maxRecDepth 100000
namespace Fz.D
open Go
theorem rleK_l {k : Nat} {l : List Int} (h : 0 < l.length) : rleK (k + 1) l = encN (rcount (gt l 0) l : Nat) ++ gt l 0 :: rleK k (l.drop (rcount (gt l 0) l)) := by
  cases l with
  | nil => simp at h
  | cons c r => rfl
theorem rcount_l {l : List Int} (h : 0 < l.length) : 1 ≤ rcount (gt l 0) l ∧ rcount (gt l 0) l ≤ l.length := by
  have := rcount_le (gt l 0) l
  cases l with
  | nil => simp at h
  | cons c r =>
    have : gt (c :: r) 0 = c := rfl
    refine ⟨?_, by assumption⟩
    rw [this, rcount, if_pos rfl]; omega
theorem tk_all {α β : Type} {f : α → β} {l : List α} {n : Nat} : List.take (l.length - n) (List.drop n (l.map f)) = (l.drop n).map f := by
  rw [List.take_of_length_le (by simp), List.map_drop]
theorem runsR_s {b : List Int} (hb : b.length ≤ 100000) {Q : CR → List Ob → Prop} (hq : ∀ v T, Acc 1 3 T v ((rleF b).map (V.int .u8)) → Q (.ret (.tuple [])) (Lq 2 :: .live [byV []] :: .live [v] :: T)) :
    WFun p 102 [.yld 0, .ptr 1 0] [Lq 2, .live [byV b], .live [.list [] true]] Q := by
  refine WFun_of w102 rfl rfl k102 ?_
  simp -dsimp [w102]
  refine xL_by (by kernel_rfl) (fun k e H => ∃ (l : List Int) (m : Nat) (v : V) (T : List Ob) (out : List Int), l.length ≤ b.length ∧ k = l.length ∧ e 0 = .yld 0 ∧ e 1 = .ptr 1 0 ∧ H = Lq 2 :: .live [byV l] :: .live [v] :: T ∧ l.length ≤ m ∧ out ++ rleK m l = rleF b ∧ out.length ≤ 100 * (b.length - l.length) ∧ Acc 1 3 T v (out.map (V.int .u8))) b.length ?_ ?_
  · exact ⟨b, b.length, .list [] true, [], [], by omega, rfl, rfl, rfl, rfl, by omega, rfl, by simp, acc_nil (by decide)⟩
  · rintro k e H ⟨l, m, v, T, out, hl, hk, h0, h1, rfl, hm, hout, hol, ha⟩
    by_cases c1 : 0 < l.length
    · obtain ⟨m, rfl⟩ : ∃ z, m = z + 1 := ⟨m - 1, by omega⟩
      obtain ⟨q1, q2⟩ := rcount_l c1
      rw [rleK_l c1] at hout
      have lN := encN_le (n := rcount (gt l 0) l) (by omega)
      have g0 : l[0] = gt l 0 := gt_at c1
      by_cases c0 : gt l 0 = 0
      · have cT := trim_s (b := l) (by omega)
        rw [c0] at hout q1 q2 lN g0
        generalize rcount 0 l = q at *
        have w1 : IntKind.i64.wrap ((l.length : Int) - ((l.length - q : Nat) : Int)) = (q : Int) := by rw [Fz.w64 (by omega) (by omega)]; omega
        simp -dsimp [h0, h1, c1, quiet_by cT, w1, g0]
        refine yldR_s (by omega) (by omega) ha fun v' T' ha' => ?_
        simp -dsimp [h0, h1]
        refine ⟨by omega, l.length - q, by omega, l.drop q, m, v', T', out ++ encN q ++ [0], by simp; omega, by simp, ?_⟩
        simp -dsimp [h0, h1]
        refine ⟨by rw [tk_all]; rfl, by omega, ?_, by omega, by simpa using ha'⟩
        rw [← hout]; try simp
      · simp -dsimp [h0, h1, c1, g0, c0]
        have cT := trim_s (b := l) (by omega)
        simp -dsimp [h0, h1, c1, g0, c0, quiet_by cT]
        refine xL_by (by kernel_rfl) (fun k e H => ∃ (n : Nat), 1 ≤ n ∧ n ≤ l.length ∧ k = l.length - n ∧ e 0 = .yld 0 ∧ e 1 = .ptr 1 0 ∧ e 3 = .int .i64 n ∧ H = Lq 2 :: .live [byV l] :: .live [v] :: T ∧ n + rcount (gt l 0) (l.drop n) = rcount (gt l 0) l) (l.length - 1) ?_ ?_
        · refine ⟨1, by omega, by omega, rfl, ?_⟩
          simp -dsimp [h0, h1]
          cases l with
          | nil => simp at c1
          | cons c r =>
            have e0 : gt (c :: r) 0 = c := rfl
            rw [e0, List.tail_cons, rcount, if_pos rfl]; omega
        · rintro k' e' H' ⟨n, n1, n2, hk', h0, h1, h3, rfl, hn⟩
          have w2 : IntKind.i64.wrap ((n : Int) + 1) = ((n + 1 : Nat) : Int) := by rw [Fz.w64 (by omega) (by omega)]; omega
          by_cases c2 : n < l.length
          · have g2 : l[n] = gt l n := gt_at c2
            by_cases c3 : gt l n = gt l 0
            · rw [rcount_at c2, if_pos (by rw [g2]; exact c3)] at hn
              simp -dsimp [h0, h1, h3, c1, c2, g2, g0, c3, w2]
              refine ⟨l.length - (n + 1), by omega, n + 1, by omega, by omega, rfl, ?_⟩
              simp -dsimp [h0, h1]
              omega
            · rw [rcount_at c2, if_neg (by rw [g2]; exact c3)] at hn
              have hn' : rcount (gt l 0) l = n := by omega
              rw [hn'] at hout q1 q2 lN
              simp -dsimp [h0, h1, h3, c1, c2, g2, g0, c3, w2]
              refine yldR_s (by omega) (by omega) ha fun v' T' ha' => ?_
              simp -dsimp [h0, h1, h3]
              refine ⟨by omega, l.length - n, by omega, l.drop n, m, v', T', out ++ encN n ++ [gt l 0], by simp; omega, by simp, ?_⟩
              simp -dsimp [h0, h1]
              refine ⟨by rw [tk_all]; rfl, by omega, ?_, by omega, by simpa using ha'⟩
              rw [← hout]; try simp
          · rw [rcount_end c2] at hn
            have hn' : rcount (gt l 0) l = n := by omega
            rw [hn'] at hout q1 q2 lN
            simp -dsimp [h0, h1, h3, c1, c2, g0, w2]
            refine yldR_s (by omega) (by omega) ha fun v' T' ha' => ?_
            simp -dsimp [h0, h1, h3]
            refine ⟨by omega, l.length - n, by omega, l.drop n, m, v', T', out ++ encN n ++ [gt l 0], by simp; omega, by simp, ?_⟩
            simp -dsimp [h0, h1]
            refine ⟨by rw [tk_all]; rfl, by omega, ?_, by omega, by simpa using ha'⟩
            rw [← hout]; try simp
    · have hn : l = [] := List.length_eq_zero_iff.1 (by omega)
      subst hn
      rw [rleK_nil, List.append_nil] at hout
      subst hout
      simp -dsimp [h0, h1]
      exact hq v T ha
theorem runsP_s (b : List Int) {H : List Ob} {Q : CR → List Ob → Prop} (hq : Q (.ret (.fn (.func 102) [] [.ptr H.length 0])) (H ++ [.live [byV b]])) : xCall p 50 [byV b] H Q := by
  have h0 : refsL [byV b] = [] := groundL_refs _ (by simp)
  refine WCall_inl (by kernel_rfl) (ids := []) (by rw [h0]; rfl) ?_
  have r0 : renL (fun i => List.idxOf i ([] : List Nat)) [byV b] = [byV b] := groundL_ren _ _ (by simp)
  rw [r0]
  refine WFun_of w50 rfl rfl k50 ?_
  simp -dsimp [w50, renL, ren]
  have rb : ∀ g, ren g (byV b) = byV b := fun g => ground_ren g _ (byV.gd b)
  simpa [renR, ren, renL, backH, crV, refs, refsL, setAll, renOb, backK, rb] using hq
theorem rangeR_s {b : List Int} {e : Env} {Q : QX} (hb : b.length ≤ 100000) (h3 : e 3 = .ptr 0 0) (hq : ∀ v T, Acc 1 3 T v ((rleF b).map (V.int .u8)) → Q .normal e (.live [v] :: .live [byV []] :: .dead :: T)) :
    WRange p 180 (.fn (.func 102) [] [.ptr 1 0]) e [.live [.list [] true], .live [byV b]] Q := by
  have e1 : ∀ b, refs (byV b) = [] := fun b => ground_refs _ (byV.gd b)
  have ra : ∀ g b, ren g (byV b) = byV b := fun g b => ground_ren g _ (byV.gd b)
  have hk : bd180.keep.map e = [.ptr 0 0] := by show [e 3] = _; rw [h3]
  refine WRange_of (ab := bd180) (ids := [2, 1, 0]) rfl (by decide) rfl rfl ?_ ?_
  · have : refsL ([] ++ [V.yld 2] ++ [V.ptr 1 0]) = [2, 1] := by simp [refsL, refs]
    show reach _ 1000 (refsL ([] ++ [V.yld 2] ++ [V.ptr 1 0])) [] = _
    rw [this, hk]
    refine (reach_go (k := 999) rfl rfl).trans ?_
    refine (reach_go (k := 998) rfl rfl).trans ?_
    simp only [refsOb, refsL, refs, e1, List.nil_append, List.cons_append, List.append_nil]
    refine (reach_go (k := 997) rfl rfl).trans ?_
    simp only [refsOb, refsL, refs, List.nil_append, List.cons_append, List.append_nil]
    exact reach_end (k := 996)
  · rw [hk]
    have i2 : List.idxOf 2 [2, 1, 0] = 0 := rfl
    have i1 : List.idxOf 1 [2, 1, 0] = 1 := rfl
    have i0 : List.idxOf 0 [2, 1, 0] = 2 := rfl
    have ka : bd180.keep = [3] := rfl
    simp [renL, ren, renOb, i2, i1, i0, ra, ka]
    refine runsR_s hb fun v T hac => ⟨by simp, ?_⟩
    have k0 : backK [2, 1, 0] 3 2 = 0 := rfl
    obtain ⟨u1, u2, u3⟩ := hac
    rcases u3 with ⟨u3, rfl⟩ | ⟨j, rfl, hj⟩
    · refine ⟨.normal, e, _, ?_, hq (.list [] true) [] ⟨u1, u2, .inl ⟨u3, rfl⟩⟩⟩
      simp [backH, setAll, renOb, ren, renL, renR, crV, refs, refsL, refsOb, e1, ra, k0, endRange]
    · have k1 : backK [2, 1, 0] 3 (3 + j) = 3 + j := by simp [backK]; omega
      refine ⟨.normal, e, _, ?_, hq (.own (3 + j) 0 ((rleF b).map (V.int .u8)).length 1) (T.map (renOb (backK [2, 1, 0] 3))) ⟨u1, u2, .inr ⟨j, rfl, ?_⟩⟩⟩
      · simp [backH, setAll, renOb, ren, renL, renR, crV, refs, refsL, refsOb, e1, ra, k0, k1, endRange]
      · rw [List.getElem?_map, hj]
        simp only [Option.map_some, renOb]
        rw [groundL_ren _ _ (by simp)]
theorem rle_s {b : List Int} (hb : b.length ≤ 100000) : Comes p 18 [byV b] (byV (rleF b)) := by
  refine Comes_of w18 rfl rfl k18 ?_ ?_ ?_ ?_
  · simp
  · simp
  · simp
  · simp -dsimp [w18, wFix_by, isInl]
    refine runsP_s _ ?_
    simp -dsimp [isInl]
    refine rangeR_s hb rfl fun v T hac => ?_
    simp -dsimp [wFix_by, isInl]
    exact frz_ac (b := 3) (by simpa using ac_acc hac)
end Fz.D
set_option maxRecDepth 100000
namespace Fz.D
open Go
def Acb (b : Nat) (J : List Ob) (v : V) (l : List Int) : Prop :=
  (l = [] ∧ v = .list [] true) ∨ ∃ (j : Nat) (bs : List Int), v = .own (b + j) 0 l.length 1 ∧ J[j]? = some (.live (bs.map (V.int .u8))) ∧ l.length ≤ bs.length ∧ bs.take l.length = l
theorem acb_nil {b : Nat} {J : List Ob} : Acb b J (.list [] true) [] := .inl ⟨rfl, rfl⟩
theorem acb_ac {b : Nat} {J : List Ob} {v : V} {l : List Int} (h : Acb b J v l) : Ac 1 b J v (l.map (V.int .u8)) := by
  refine ⟨by simp, by decide, ?_⟩
  rcases h with ⟨rfl, h⟩ | ⟨j, bs, rfl, h1, h2, h3⟩
  · exact .inl ⟨rfl, h⟩
  · exact .inr ⟨j, _, by simp, h1, by simpa using h2, by rw [flat_int, ← List.map_take]; simp [h3]⟩
theorem acb_ext {b : Nat} {J : List Ob} {v : V} {l : List Int} (h : Acb b J v l) (G : List Ob) : Acb b (J ++ G) v l := by
  rcases h with h | ⟨j, bs, h1, h2, h3⟩
  · exact .inl h
  · exact .inr ⟨j, bs, h1, by rw [List.getElem?_append_left (List.getElem?_eq_some_iff.1 h2).1]; exact h2, h3⟩
theorem app_acb (b : Nat) {H : List Ob} {v : V} {l m : List Int} {K : V → List Ob → Prop} (ha : Acb b (H.drop b) v l) (hb : b ≤ H.length) (hc : capOk (l.length + m.length) 1 = true)
    (hK : ∀ v' J', Acb b J' v' (l ++ m) → K v' (H.take b ++ J')) : xAppend H 1 1 v (m.map (V.int .u8)) m.length K := by
  by_cases h0 : m.length = 0
  · have hm : m = [] := List.length_eq_zero_iff.1 h0
    subst hm
    have hk := hK v (H.drop b) (by simpa using ha)
    rw [List.take_append_drop] at hk
    rcases ha with ⟨rfl, rfl⟩ | ⟨j, bs, rfl, h4, _⟩
    · rw [wAppend_list, if_pos (by rfl)]; exact hk
    · rw [wAppend_own, if_pos (by rfl)]; exact ⟨rfl, hk⟩
  · rcases ha with ⟨rfl, rfl⟩ | ⟨j, bs, rfl, h4, h5, h6⟩
    · rw [wAppend_list, if_neg h0]
      refine ⟨⟨rfl, rfl, by simp, by simpa using hc⟩, ?_⟩
      have := hK (.own H.length 0 (0 + m.length) 1) (H.drop b ++ [.live (m.map (V.int .u8))]) (.inr ⟨(H.drop b).length, m, ?_, by simp, by simp, by simp⟩)
      · rw [← List.append_assoc, List.take_append_drop] at this
        exact this
      · rw [List.length_drop, show b + (H.length - b) = H.length from by omega, List.nil_append, Nat.zero_add]
    · rw [wAppend_own, if_neg h0]
      refine ⟨rfl, ?_⟩
      rw [List.getElem?_drop] at h4
      refine ⟨bs.map (V.int .u8), h4, ⟨rfl, by simpa using h5, by simp [storable], hc⟩, ?_⟩
      have e1 : (bs.map (V.int .u8)).take (l.length * 1) = l.map (V.int .u8) := by rw [← List.map_take, Nat.mul_one, h6]
      show K _ _
      rw [e1, ← List.map_append]
      have := hK (.own H.length 0 (l.length + m.length) 1) ((H.drop b).set j .dead ++ [.live ((l ++ m).map (V.int .u8))]) (.inr ⟨(H.drop b).length, l ++ m, ?_, ?_, by simp, List.take_of_length_le (by simp)⟩)
      · rw [← List.append_assoc] at this
        have e2 : H.take b ++ (H.drop b).set j .dead = H.set (b + j) .dead := by
          conv => rhs; rw [← List.take_append_drop b H]
          rw [List.set_append_right _ _ (by rw [List.length_take]; omega), List.length_take]
          congr 2
          omega
        rw [e2] at this
        exact this
      · rw [List.length_drop, show b + (H.length - b) = H.length from by omega, List.length_append]
      · rw [List.getElem?_append_right (by simp)]; simp
theorem grow_c {n : Int} {H : List Ob} {Q : CR → List Ob → Prop} (h0 : 0 ≤ n) (h1 : n ≤ 100000000) (hq : ∀ v J, Acb H.length J v [] → Q (.ret v) (H ++ J)) : WCall p 48 [.list [] true, .int .i64 n] H Q := by
  have hr : reach H 1000 (refsL [.list [] true, .int .i64 n]) [] = some [] := rfl
  refine WCall_inl (by kernel_rfl) hr ?_
  refine WFun_of w48 rfl rfl k48 ?_
  have e0 : IntKind.i64.wrap n = n := Fz.w64 (by omega) (by omega)
  have z0 : IntKind.i64.wrap 0 = 0 := Fz.w64 (by omega) (by omega)
  have none : Q (renR (backK [] H.length) (CR.ret (V.list [] true))) (backH [] (CR.ret (V.list [] true)) [] H) := by
    have := hq (.list [] true) [] acb_nil
    simpa [renR, ren, renL, backH, crV, refs, refsL, setAll] using this
  by_cases hn : n = 0
  · subst hn
    simp -dsimp [w48, renL, ren]
    have e1 : IntKind.i64.wrap (-IntKind.i64.wrap 0) = 0 := by rw [z0]; exact z0
    rw [e1, if_neg (by omega)]
    exact none
  · have hp : 0 < n := by omega
    have hz : ¬ n < 0 := by omega
    simp -dsimp [w48, renL, ren, e0, hp, hz]
    have e1 : IntKind.i64.wrap (n - IntKind.i64.wrap 0) = n := by rw [z0, Int.sub_zero]; exact e0
    rw [e1, if_pos hp, if_neg (by omega)]
    refine ⟨⟨h0, by omega⟩, by simp [capOk]; omega, ?_⟩
    have := hq (.own H.length 0 0 1) [.live (List.replicate n.toNat (V.int .u8 0))] (.inr ⟨0, List.replicate n.toNat 0, rfl, by simp, by simp, by simp⟩)
    have e2 : renOb (backK [] H.length) (.live (List.replicate n.toNat (V.int .u8 0))) = .live (List.replicate n.toNat (V.int .u8 0)) := by
      rw [renOb, renL_eq, List.map_replicate]; rfl
    simpa [renR, ren, renL, backH, crV, refs, refsL, setAll, e2, backK] using this
theorem acb_back {b n : Nat} {g : Nat → Nat} {J : List Ob} {id len : Nat} {out : List Int} (hg : ∀ j, g (b + j) = n + j) (h : Acb b J (.own id 0 len 1) out) : Acb n (J.map (renOb g)) (.own (g id) 0 len 1) out := by
  rcases h with ⟨_, h3⟩ | ⟨j, bs, h3, h4, h5, h6⟩
  · cases h3
  · cases h3
    exact .inr ⟨j, bs, by rw [hg], by rw [List.getElem?_map, h4]; simp only [Option.map_some, renOb, ren_ints], h5, h6⟩
theorem acb_cases {b : Nat} {J : List Ob} {v : V} {l : List Int} (h : Acb b J v l) : v = .list [] true ∧ l = [] ∨ ∃ j len, v = .own (b + j) 0 len 1 ∧ len = l.length := by
  rcases h with ⟨h3, h4⟩ | ⟨j, cells, h3, _⟩
  · exact .inl ⟨h4, h3⟩
  · exact .inr ⟨j, _, h3, rfl⟩
theorem acb_val {b : Nat} {J : List Ob} {v : V} {l : List Int} (h : Acb b J v l) : cellsOf v = [v] ∧ isAny v = false ∧ storable v = true := by
  rcases h with ⟨_, rfl⟩ | ⟨j, bs, rfl, _⟩ <;> exact ⟨rfl, rfl, rfl⟩
theorem acb_shift {b n : Nat} {T J : List Ob} {v : V} {l : List Int} (h : Acb n J v l) (hn : n = b + T.length) : Acb b (T ++ J) v l := by
  rcases h with h | ⟨j, bs, h1, h2, h3⟩
  · exact .inl h
  · exact .inr ⟨T.length + j, bs, by rw [h1, hn, Nat.add_assoc], by rw [List.getElem?_append_right (by omega), Nat.add_sub_cancel_left]; exact h2, h3⟩
def El (H : List Ob) (v : V) (l : List Int) : Prop :=
  (∃ c, v = .list (l.map (V.int .u8)) c) ∨ ∃ id cells, v = .own id 0 l.length 1 ∧ H[id]? = some (.live cells) ∧ l.length ≤ cells.length ∧ cells.take l.length = l.map (V.int .u8)
theorem el_ac {b : Nat} {H : List Ob} {v : V} {l : List Int} (h : Ac 1 b (H.drop b) v (l.map (V.int .u8))) : El H v l := by
  obtain ⟨_, _, h3⟩ := h
  rcases h3 with ⟨h3, h4⟩ | ⟨j, cells, h3, h4, h5, h6⟩
  · have : l = [] := by simpa using h3
    subst this
    exact .inl ⟨true, h4⟩
  · rw [List.getElem?_drop] at h4
    rw [flat_int] at h6
    exact .inr ⟨b + j, cells, by simpa using h3, h4, by simpa using h5, by simpa using h6⟩
theorem el_ext {H : List Ob} {v : V} {l : List Int} (h : El H v l) (J : List Ob) : El (H ++ J) v l := by
  rcases h with h | ⟨id, cells, h1, h2, h3, h4⟩
  · exact .inl h
  · exact .inr ⟨id, cells, h1, by rw [List.getElem?_append_left (List.getElem?_eq_some_iff.1 h2).1]; exact h2, h3, h4⟩
theorem el_get {vs : List V} {i : Nat} {v : V} {K : V → Prop} (h : vs[i]? = some v) : wGet vs i K = K v := by simp [wGet, h]
theorem wLive_is {H : List Ob} {id : Nat} {l : List V} {K : List V → Prop} (h : H[id]? = some (.live l)) : wLive H id K = K l := by
  refine propext ⟨?_, fun k => ⟨l, .inl h, k⟩⟩
  rintro ⟨l', h1, h2⟩
  rw [h] at h1
  rcases h1 with h1 | h1
  · cases h1; exact h2
  · cases h1
theorem el_acb {b : Nat} {H : List Ob} {v : V} {l : List Int} (h : Acb b (H.drop b) v l) : El H v l := el_ac (acb_ac h)
theorem elems_el {H : List Ob} {v : V} {l : List Int} {K : List V → Nat → Prop} (h : El H v l) (hK : K (l.map (V.int .u8)) l.length) : xElems H 1 v K := by
  rcases h with ⟨c, rfl⟩ | ⟨id, cells, rfl, h2, h3, h4⟩
  · simpa using hK
  · simp
    rw [wLive_is h2]
    refine ⟨by omega, ?_⟩
    rw [List.drop_zero, h4]
    exact hK
theorem concat_mix {vs : List V} {ls : List (List Int)} {c : Bool} {H0 : List Ob} (hvl : vs.length = ls.length) (hv : ∀ (i : Nat) (h : i < ls.length), ∃ v, vs[i]? = some v ∧ El H0 v ls[i]) (ht : tot ls ≤ 100000000) (hl : ls.length ≤ 1000000) {Q : CR → List Ob → Prop} (hq : ∀ v J, Acb H0.length J v (cat ls) → Q (.ret v) (H0 ++ J)) :
    WFun p 15 [.list vs c] H0 Q := by
  refine WFun_of w15 rfl rfl k15 ?_
  simp -dsimp [w15]
  refine xL_by (by kernel_rfl) (fun k e H => ∃ i : Nat, i ≤ ls.length ∧ k = ls.length - i ∧ e 0 = .list vs c ∧ e 9 = .list vs c ∧ e 10 = .int .i64 ls.length ∧ e 11 = .int .i64 i ∧ e 3 = .int .i64 (tot (ls.take i)) ∧ H = H0) ls.length ?_ ?_
  · exact ⟨0, by simp [tot, hvl]⟩
  · rintro k e H ⟨i, hi, hk, h0, h9, h10, h11, h3, hH⟩
    obtain rfl : H0 = H := hH.symm
    have t1 := tot_take ls i
    simp -dsimp [h0, h9, h10, h11, h3]
    by_cases hlt : i < ls.length
    · have t2 := tot_succ ls i hlt
      have t3 := tot_take ls (i + 1)
      have w1 : IntKind.i64.wrap (((tot (ls.take i) : Nat) : Int) + ((ls[i].length : Nat) : Int)) = ((tot (ls.take (i + 1)) : Nat) : Int) := by rw [Fz.w64 (by omega) (by omega)]; omega
      have w2 : IntKind.i64.wrap ((i : Int) + 1) = ((i + 1 : Nat) : Int) := by rw [Fz.w64 (by omega) (by omega)]; omega
      obtain ⟨v, gv, hvi⟩ := hv i hlt
      rcases hvi with ⟨c', rfl⟩ | ⟨id, cells, rfl, _⟩
      · simp -dsimp [hlt, el_get gv, w1, w2, h0, h9, h10, h11, h3, cellsOf, isAny]
        rw [if_neg (by omega)]
        refine ⟨ls.length - (i + 1), by omega, i + 1, by omega, rfl, ?_⟩
        simp -dsimp [h0, h9, h10, w2]
      · simp -dsimp [hlt, el_get gv, w1, w2, h0, h9, h10, h11, h3, cellsOf, isAny]
        rw [if_neg (by omega)]
        refine ⟨ls.length - (i + 1), by omega, i + 1, by omega, rfl, ?_⟩
        simp -dsimp [h0, h9, h10, w2]
    · have hii : i = ls.length := by omega
      subst hii
      rw [List.take_length] at h3 ⊢
      simp -dsimp [hlt]
      refine grow_c (by omega) (by omega) fun v J hac => ?_
      simp -dsimp [h0, h9, h10, h11, h3]
      refine xL_by (by kernel_rfl) (fun k e H => ∃ (i : Nat) (v : V) (J : List Ob), i ≤ ls.length ∧ k = ls.length - i ∧ e 25 = .list vs c ∧ e 26 = .int .i64 ls.length ∧ e 27 = .int .i64 i ∧ e 6 = v ∧ Acb H0.length J v (cat (ls.take i)) ∧ H = H0 ++ J) ls.length ?_ ?_
      · refine ⟨0, v, J, ?_⟩
        simp [h0, hvl]; exact hac
      · rintro k e H ⟨i, v, J, hi, hk, h25, h26, h27, h6, hac, rfl⟩
        simp -dsimp [h25, h26, h27, h6]
        by_cases hlt : i < ls.length
        · obtain ⟨x, gv, hvi⟩ := hv i hlt
          have t2 := tot_succ ls i hlt
          have t3 := tot_take ls (i + 1)
          have t4 : (cat (ls.take i)).length = tot (ls.take i) := flat_tot _
          have e1 := cat_succ ls i hlt
          have w2 : IntKind.i64.wrap ((i : Int) + 1) = ((i + 1 : Nat) : Int) := by rw [Fz.w64 (by omega) (by omega)]; omega
          rcases hvi with ⟨c', rfl⟩ | ⟨id, cells, rfl, z1, z2, z3⟩
          · simp -dsimp [-wAppend_list, hlt, el_get gv, h25, h26, h27, h6, cellsOf, isAny]
            refine app_acb H0.length (m := ls[i]) (by simpa using hac) (by simp) (by rw [t4]; simp [capOk]; omega) fun v' J' hac' => ?_
            simp -dsimp [h25, h26, h27, w2]
            refine ⟨ls.length - (i + 1), by omega, i + 1, v', J', by omega, rfl, ?_⟩
            simp -dsimp [h25, h26]
            rw [e1]
            exact hac'
          · simp -dsimp [-wAppend_list, hlt, el_get gv, h25, h26, h27, h6, cellsOf, isAny]
            have z1' : (H0 ++ J)[id]? = some (.live cells) := by rw [List.getElem?_append_left (List.getElem?_eq_some_iff.1 z1).1]; exact z1
            rw [wLive_is z1', List.drop_zero, z3]
            refine ⟨by omega, ?_⟩
            simp -dsimp [-wAppend_list, h25, h26, h27, h6]
            refine app_acb H0.length (m := ls[i]) (by simpa using hac) (by simp) (by rw [t4]; simp [capOk]; omega) fun v' J' hac' => ?_
            simp -dsimp [h25, h26, h27, w2]
            refine ⟨ls.length - (i + 1), by omega, i + 1, v', J', by omega, rfl, ?_⟩
            simp -dsimp [h25, h26]
            rw [e1]
            exact hac'
        · have hii : i = ls.length := by omega
          subst hii
          simp -dsimp [hlt]
          rw [List.take_length] at hac
          exact hq _ _ hac
theorem concat_lists {ls : List (List Int)} {vs : List V} {c : Bool} {H : List Ob} {Q : CR → List Ob → Prop} (hvl : vs.length = ls.length) (hvs : ∀ (i : Nat) (h : i < ls.length), ∃ v, vs[i]? = some v ∧ ∃ c, v = .list (ls[i].map (V.int .u8)) c) (ht : tot ls ≤ 100000000) (hl : ls.length ≤ 1000000)
    (hq : ∀ v J, Acb H.length J v (cat ls) → Q (.ret v) (H ++ J)) : WCall p 15 [.list vs c] H Q := by
  have hg : ∀ x ∈ vs, ground x = true := by
    intro v hv
    obtain ⟨i, hi, rfl⟩ := List.getElem_of_mem hv
    obtain ⟨v, h1, c, h2⟩ := hvs i (by omega)
    rw [List.getElem?_eq_getElem hi] at h1
    cases h1
    rw [h2]
    simp
  have hr : reach H 1000 (refsL [.list vs c]) [] = some [] := by
    have : refsL [.list vs c] = [] := groundL_refs _ (by simpa using hg)
    rw [this]; rfl
  refine WCall_inl (by kernel_rfl) hr ?_
  have e1 : renL (fun i => ([] : List Nat).idxOf i) [.list vs c] = [.list vs c] := groundL_ren _ _ (by simpa using hg)
  rw [e1]
  refine concat_mix hvl (fun i h => ?_) ht hl fun v J hac => ⟨by simp, ?_⟩
  · obtain ⟨v, h1, h2⟩ := hvs i h
    exact ⟨v, h1, .inl h2⟩
  · simp only [List.map_nil, List.length_nil, List.nil_append] at hac ⊢
    rcases acb_cases hac with ⟨rfl, h0⟩ | ⟨j, len, rfl, _⟩
    · have e4 : backH [] (.ret (.list [] true)) J H = H := by
        unfold backH
        rw [if_neg (by simp [crV, refs, refsL])]
        simp [setAll]
      rw [e4]
      have := hq (.list [] true) [] (.inl ⟨h0, rfl⟩)
      simpa [renR, ren, renL] using this
    · have hg : ∀ j, backK [] H.length (0 + j) = H.length + j := fun j => by simp [backK]
      have e4 : backH [] (.ret (.own (0 + j) 0 len 1)) J H = H ++ J.map (renOb (backK [] H.length)) := by
        unfold backH
        rw [if_pos (by simp [crV, refs])]
        simp [setAll]
      rw [e4]
      have := hq _ _ (acb_back hg hac)
      simpa [renR, ren] using this
theorem refsL_of {vs : List V} {i : Nat} {id : Nat} (h : ∃ v, vs[i]? = some v ∧ refs v = [id]) (ho : ∀ j v, j ≠ i → vs[j]? = some v → refs v = []) : refsL vs = [id] := by
  induction vs generalizing i with
  | nil => obtain ⟨v, h1, _⟩ := h; simp at h1
  | cons a l ih =>
    rw [refsL]
    cases i with
    | zero =>
      obtain ⟨v, h1, h2⟩ := h
      cases h1
      rw [h2]
      have : refsL l = [] := by
        have : ∀ v ∈ l, refs v = [] := fun v hv => by
          obtain ⟨j, hj, rfl⟩ := List.getElem_of_mem hv
          exact ho (j + 1) _ (by omega) (by simp [hj])
        clear ih ho h2
        induction l with
        | nil => rfl
        | cons b l ih => rw [refsL, this b (by simp), ih (fun v hv => this v (by simp [hv]))]; rfl
      rw [this]; rfl
    | succ i =>
      have h0 := ho 0 a (by omega) rfl
      rw [h0, List.nil_append]
      refine ih (i := i) ?_ fun j v hj hv => ho (j + 1) v (by omega) (by simpa using hv)
      obtain ⟨v, h1, h2⟩ := h
      exact ⟨v, by simpa using h1, h2⟩
theorem concat_own2 {bs : List Int} {ls : List (List Int)} {vs : List V} {c : Bool} {H : List Ob} {id k : Nat} {Q : CR → List Ob → Prop} (hvl : vs.length = ls.length) (hk : k < ls.length) (hvs : ∀ (i : Nat) (h : i < ls.length), i ≠ k → ∃ v, vs[i]? = some v ∧ ∃ c, v = .list (ls[i].map (V.int .u8)) c)
    (hv : vs[k]? = some (.own id 0 ls[k].length 1)) (hid : H[id]? = some (.live (bs.map (V.int .u8)))) (hb1 : ls[k].length ≤ bs.length) (hb2 : bs.take ls[k].length = ls[k]) (ht : tot ls ≤ 100000000) (hl : ls.length ≤ 1000000)
    (hq : ∀ v J, Acb H.length J v (cat ls) → Q (.ret v) (H ++ J)) : WCall p 15 [.list vs c] H Q := by
  have hg : ∀ (i : Nat) v, i ≠ k → vs[i]? = some v → ground v = true := by
    intro i v hi hv
    have hlt := (List.getElem?_eq_some_iff.1 hv).1
    obtain ⟨v', h1, c, h2⟩ := hvs i (by omega) hi
    rw [h1] at hv
    cases hv
    rw [h2]
    simp
  have hr0 : refsL [.list vs c] = [id] := by
    have := refsL_of (vs := vs) (i := k) (id := id) ⟨_, hv, rfl⟩ fun j v hj hv => ground_refs _ (hg j v hj hv)
    simp [refsL, refs, this]
  have hr : reach H 1000 (refsL [.list vs c]) [] = some [id] := by rw [hr0]; exact reach_one hid (refs_ints _)
  refine WCall_inl (by kernel_rfl) hr ?_
  have e1 : renL (fun i => ([id] : List Nat).idxOf i) [.list vs c] = [.list (vs.set k (.own 0 0 ls[k].length 1)) c] := by
    have i0 : ([id] : List Nat).idxOf id = 0 := by simp
    have : renL (fun i => ([id] : List Nat).idxOf i) vs = vs.set k (.own 0 0 ls[k].length 1) := by
      rw [renL_eq]
      apply List.ext_getElem?
      intro i
      rw [List.getElem?_map, List.getElem?_set]
      by_cases hik : k = i
      · subst hik
        rw [if_pos rfl, hv, if_pos (by omega)]
        simp [ren, i0]
      · rw [if_neg hik]
        cases hx : vs[i]? with
        | none => rfl
        | some v => simp only [Option.map_some]; rw [ground_ren _ _ (hg i v (fun h => hik h.symm) hx)]
    simp [renL, ren, this]
  have e2 : (([id] : List Nat).map fun i => renOb (fun i => ([id] : List Nat).idxOf i) (H[i]?.getD .dead)) = [.live (bs.map (V.int .u8))] := by
    simp only [List.map_cons, List.map_nil, hid, Option.getD_some, renOb, ren_ints]
  rw [e1, e2]
  refine concat_mix (by simpa using hvl) (fun i h => ?_) ht hl fun v J hac => ⟨by simp, ?_⟩
  · by_cases hik : k = i
    · subst hik
      exact ⟨_, by rw [List.getElem?_set_self (by omega)], .inr ⟨0, _, rfl, rfl, by simpa using hb1, by rw [← List.map_take, hb2]⟩⟩
    · obtain ⟨v, h1, h2⟩ := hvs i h (fun h => hik h.symm)
      exact ⟨v, by rw [List.getElem?_set_ne hik, h1], .inl h2⟩
  · have e3 : (refsOb (.live (bs.map (V.int .u8)))) = [] := refs_ints _
    rcases acb_cases hac with ⟨rfl, h0⟩ | ⟨j, len, rfl, _⟩
    · have e4 : backH [id] (.ret (.list [] true)) ([.live (bs.map (V.int .u8))] ++ J) H = H := by
        unfold backH
        rw [if_neg (by simp [crV, refs, refsL, e3])]
        simp [setAll, renOb, set_same hid]
      rw [e4]
      have := hq (.list [] true) [] (.inl ⟨h0, rfl⟩)
      simpa [renR, ren, renL] using this
    · have hg : ∀ j, backK [id] H.length (1 + j) = H.length + j := fun j => by rw [Nat.add_comm]; exact back_s
      have e4 : backH [id] (.ret (.own (1 + j) 0 len 1)) ([.live (bs.map (V.int .u8))] ++ J) H = H ++ J.map (renOb (backK [id] H.length)) := by
        unfold backH
        rw [if_pos (by simp [crV, refs])]
        simp [setAll, renOb, set_same hid]
      have hac : Acb 1 J (.own (1 + j) 0 len 1) (cat ls) := hac
      show Q (renR (backK [id] H.length) (CR.ret (V.own (1 + j) 0 len 1))) (backH [id] (.ret (.own (1 + j) 0 len 1)) ([.live (bs.map (V.int .u8))] ++ J) H)
      rw [e4]
      have := hq _ _ (acb_back hg hac)
      simpa [renR, ren] using this
end Fz.D
set_option maxRecDepth 100000
namespace Fz.D
open Go
abbrev Ls (a b c : Nat) : Ob := .loop 70 [3, 5, 6] [.ptr a 0, .ptr b 0, .ptr c 0] .ready
def chg1 (m base : List Int) (n : Nat) : List Int := if pg m n = pg base n then [] else encN n ++ txt (rleF (pg m n))
def cnt1 (m base : List Int) (n : Nat) : Nat := if pg m n = pg base n then 0 else 1
theorem pg_len (b : List Int) (n : Nat) : (pg b n).length ≤ 64 ∧ 64 * n + (pg b n).length ≤ max b.length (64 * n) := by
  unfold pg
  rw [List.length_take, List.length_drop]; omega
theorem pg_by {b : List Int} (h : by8 b) (n : Nat) : by8 (pg b n) := fun x hx => h x (List.mem_of_mem_drop (List.mem_of_mem_take hx))
theorem rleK_len : ∀ (k : Nat) (l : List Int), l.length ≤ 1000000 → (rleK k l).length ≤ 66 * l.length := by
  intro k
  induction k with
  | zero => intro l _; simp [rleK]
  | succ k ih =>
    intro l hl
    cases l with
    | nil => simp [rleK]
    | cons c r =>
      have e1 : rleK (k + 1) (c :: r) = encN (rcount c (c :: r) : Nat) ++ c :: rleK k ((c :: r).drop (rcount c (c :: r))) := rfl
      have q2 := rcount_le c (c :: r)
      have q1 : 1 ≤ rcount c (c :: r) := by rw [rcount, if_pos rfl]; omega
      have h1 := encN_le (n := rcount c (c :: r)) (by omega)
      have h2 := ih ((c :: r).drop (rcount c (c :: r))) (by rw [List.length_drop]; omega)
      rw [List.length_drop] at h2
      rw [e1, List.length_append, List.length_cons]
      omega
theorem rleF_len {l : List Int} (h : l.length ≤ 1000000) : (rleF l).length ≤ 66 * l.length := rleK_len _ _ h
theorem bodyP_s {v : V} {n : Nat} {mem base out : List Int} {cnt : Nat} {J : List Ob} {Q : CR → List Ob → Prop} (h8m : by8 mem) (h8b : by8 base) (hml : mem.length = base.length) (hm : mem.length ≤ 100000) (hn : 64 * n < mem.length) (hlen : out.length ≤ 10000000) (hcnt : cnt ≤ 1000000) (ha : Acb 4 J v out)
    (hq0 : pg mem n = pg base n → Q (.ret (.bool true)) (Ls 1 2 3 :: .live [byV base] :: .live [v] :: .live [.int .i64 cnt] :: J))
    (hq1 : pg mem n ≠ pg base n → ∀ v' J', Acb (4 + J.length) J' v' (out ++ chg1 mem base n) → Q (.ret (.bool true)) (Ls 1 2 3 :: .live [byV base] :: .live [v'] :: .live [.int .i64 (cnt + 1 : Nat)] :: (J ++ J'))) :
    WFun p YF [.yld 0, .int .i64 n, byT (pg mem n)] (Ls 1 2 3 :: .live [byV base] :: .live [v] :: .live [.int .i64 cnt] :: J) Q := by
  have bp : bd70.ps = [14, 15] := rfl
  obtain ⟨q, hq'⟩ : ∃ q, q = 64 * n := ⟨_, rfl⟩
  have pl := pg_len mem n
  have pl2 := pg_len base n
  have hpl : (pg mem n).length = (pg base n).length := by unfold pg; rw [List.length_take, List.length_drop, List.length_take, List.length_drop, hml]
  have w1 : IntKind.i64.wrap ((n : Int) * 64) = (q : Int) := by rw [Fz.w64 (by omega) (by omega)]; omega
  obtain ⟨z, hz⟩ : ∃ z, z = q + (pg mem n).length := ⟨_, rfl⟩
  have w2 : IntKind.i64.wrap ((q : Int) + ((pg mem n).length : Int)) = (z : Int) := by rw [Fz.w64 (by omega) (by omega)]; omega
  obtain ⟨c1, hc1⟩ : ∃ c1, c1 = cnt + 1 := ⟨_, rfl⟩
  have w3 : IntKind.i64.wrap ((cnt : Int) + 1) = (c1 : Int) := by rw [Fz.w64 (by omega) (by omega)]; omega
  have hsl : List.take (z - q) (List.drop q (base.map (V.int .u8))) = (pg base n).map (V.int .u8) := by
    rw [show z - q = (pg mem n).length from by omega, ← List.map_drop, ← List.map_take]
    congr 1
    rw [hpl]
    unfold pg
    rw [hq', List.length_take]
    by_cases c : (List.drop (64 * n) base).length ≤ 64
    · rw [Nat.min_eq_right c, List.take_length, List.take_of_length_le c]
    · rw [Nat.min_eq_left (by omega)]
  have cE := equal_s (pg_by h8m n) (pg_by h8b n)
  have cN := num_s (n := (n : Int)) (by unfold i64; omega)
  have e0 : numB (zz (n : Int)).toNat = encN n := rfl
  rw [e0] at cN
  have cR := rle_s (b := pg mem n) (by omega)
  have lR := rleF_len (l := pg mem n) (by omega)
  have cT := text_s (b := rleF (pg mem n)) (by omega)
  have e1 : numB (zz ((rleF (pg mem n)).length : Int)).toNat ++ rleF (pg mem n) = txt (rleF (pg mem n)) := rfl
  rw [e1] at cT
  have cE' : ∀ H Q, xCall p 14 [.list ((pg mem n).map (V.int .u8)) true, .list ((pg base n).map (V.int .u8)) false] H Q = Q (.ret (.bool (decide (pg mem n = pg base n)))) H := fun H Q => call_nrm rfl (by simp) (by simp [byV, nrm, nrmL_eq]) cE
  have cR' : ∀ H K, xQuiet p 18 [.list ((pg mem n).map (V.int .u8)) true] H K = K (byV (rleF (pg mem n))) := fun H K => quiet_nrm rfl (by simp) (by simp [byV, nrm, nrmL_eq]) cR
  refine WFun_round ca70 cb70 (k := 70) rfl rfl rfl rfl rfl ka70 kb70 ?_
  by_cases hE : pg mem n = pg base n
  · have hq := hq0 hE
    rw [decide_eq_true hE] at cE'
    simp -dsimp [ca70, cb70, setPs, envT, assignQ, bp, roundQ, w1, w2, hsl, byT, cE']
    exact ⟨⟨by omega, by omega⟩, hq⟩
  · rw [decide_eq_false hE] at cE'
    have hq := hq1 hE
    have hch : chg1 mem base n = encN n ++ txt (rleF (pg mem n)) := by unfold chg1; rw [if_neg hE]
    rw [hch] at hq
    have lN := encN_le (n := n) (by omega)
    have lT : (txt (rleF (pg mem n))).length ≤ 100000 := by
      have := encN_le (n := (rleF (pg mem n)).length) (by omega)
      unfold txt; rw [List.length_append]; omega
    generalize txt (rleF (pg mem n)) = tx at *
    rcases ha with ⟨rfl, rfl⟩ | ⟨j, bs, rfl, a1, a2, a3⟩
    · simp -dsimp [ca70, cb70, setPs, envT, assignQ, bp, roundQ, w1, w2, hsl, byT, cE', quiet_by cN, cR', quiet_by cT, fillV, splice, wOpt, chunk]
      refine ⟨⟨by omega, by omega⟩, ?_⟩
      refine concat_lists (ls := [[], encN n, tx]) rfl (fun i h => ?_) (by simp [tot]; omega) (by simp) fun v' J' a' => ?_
      · match i, h with
        | 0, _ => exact ⟨_, rfl, true, rfl⟩
        | 1, _ => exact ⟨_, rfl, false, rfl⟩
        | 2, _ => exact ⟨_, rfl, false, rfl⟩
      · obtain ⟨x1, x2, x3⟩ := acb_val a'
        simp -dsimp [w3, x1, x2, x3, roundQ]
        have := hq v' J' (by simpa [cat, show J.length + 1 + 1 + 1 + 1 = 4 + J.length from by omega] using a')
        rw [← hc1] at this
        exact this
    · simp -dsimp [ca70, cb70, setPs, envT, assignQ, bp, roundQ, w1, w2, hsl, byT, cE', quiet_by cN, cR', quiet_by cT, fillV, splice, wOpt, chunk]
      refine ⟨⟨by omega, by omega⟩, rfl, ?_⟩
      refine concat_own2 (ls := [out, encN n, tx]) (k := 0) (id := 4 + j) (bs := bs) ?_ (by simp) (fun i h hi => ?_) ?_ ?_ a2 a3 (by simp [tot]; omega) (by simp) fun v' J' a' => ?_
      · rfl
      · match i, h, hi with
        | 1, _, _ => exact ⟨_, rfl, false, rfl⟩
        | 2, _, _ => exact ⟨_, rfl, false, rfl⟩
      · rfl
      · rw [show 4 + j = j + 1 + 1 + 1 + 1 from by omega]; exact a1
      · obtain ⟨x1, x2, x3⟩ := acb_val a'
        simp -dsimp [w3, x1, x2, x3, roundQ]
        have := hq v' J' (by simpa [cat, show J.length + 1 + 1 + 1 + 1 = 4 + J.length from by omega] using a')
        rw [← hc1] at this
        exact this
theorem yldP_s {M : Ob} {v : V} {n : Nat} {mem base out : List Int} {cnt : Nat} {T : List Ob} {Q : CR → List Ob → Prop} (h8m : by8 mem) (h8b : by8 base) (hml : mem.length = base.length) (hm : mem.length ≤ 100000) (hn : 64 * n < mem.length) (hlen : out.length ≤ 10000000) (hcnt : cnt ≤ 1000000) (ha : Acb 5 T v out)
    (hq : ∀ v' T', Acb 5 T' v' (out ++ chg1 mem base n) → Q (.ret (.bool true)) (Ls 2 3 4 :: M :: .live [byV base] :: .live [v'] :: .live [.int .i64 (cnt + cnt1 mem base n : Nat)] :: T')) :
    WCall p YF [.yld 0, .int .i64 n, byT (pg mem n)] (Ls 2 3 4 :: M :: .live [byV base] :: .live [v] :: .live [.int .i64 cnt] :: T) Q := by
  have h0 : refsL [.yld 0, .int .i64 n, byT (pg mem n)] = [0] := by
    rw [refsL, refsL, refsL, ground_refs _ (byT.gd _)]; simp [refs, refsL]
  have rb : ∀ g b, ren g (byV b) = byV b := fun g b => ground_ren g _ (byV.gd b)
  have rt : ∀ g, ren g (byT (pg mem n)) = byT (pg mem n) := fun g => ground_ren g _ (byT.gd _)
  have hb0 : ∀ b, refs (byV b) = [] := fun b => ground_refs _ (byV.gd b)
  have hc0 : pg mem n = pg base n → out ++ chg1 mem base n = out ∧ cnt + cnt1 mem base n = cnt := fun h => by unfold chg1 cnt1; rw [if_pos h, if_pos h]; simp
  have hc1 : pg mem n ≠ pg base n → cnt + cnt1 mem base n = cnt + 1 ∧ out ++ chg1 mem base n ≠ [] := fun h => by unfold chg1 cnt1; rw [if_neg h, if_neg h]; simp [encN_ne]
  rcases ha with ⟨rfl, rfl⟩ | ⟨j, bs, rfl, a1, a2, a3⟩
  · have hre1 : reach (Ls 2 3 4 :: M :: .live [byV base] :: .live [.list [] true] :: .live [.int .i64 cnt] :: T) 1000 (refsL [.yld 0, .int .i64 n, byT (pg mem n)]) [] = some [0, 2, 3, 4] := by
      rw [h0]
      show reach _ (995 + 1 + 1 + 1 + 1 + 1) [0] [] = _
      simp [reach, refsOb, refsL, refs, hb0]
    refine WCall_inl rfl hre1 ?_
    have i2 : List.idxOf 2 [0, 2, 3, 4] = 1 := rfl
    have i3 : List.idxOf 3 [0, 2, 3, 4] = 2 := rfl
    have i4 : List.idxOf 4 [0, 2, 3, 4] = 3 := rfl
    have k0 : backK [0, 2, 3, 4] (T.length + 1 + 1 + 1 + 1 + 1) 0 = 0 := rfl
    have k1 : backK [0, 2, 3, 4] (T.length + 1 + 1 + 1 + 1 + 1) 1 = 2 := rfl
    have k2 : backK [0, 2, 3, 4] (T.length + 1 + 1 + 1 + 1 + 1) 2 = 3 := rfl
    have k3 : backK [0, 2, 3, 4] (T.length + 1 + 1 + 1 + 1 + 1) 3 = 4 := rfl
    have kJ : ∀ j, backK [0, 2, 3, 4] (T.length + 1 + 1 + 1 + 1 + 1) (4 + j) = T.length + 1 + 1 + 1 + 1 + 1 + j := fun j => by simp [backK]; omega
    simp -dsimp [renL, ren, renOb, i2, i3, i4, rb, rt]
    refine bodyP_s (J := []) h8m h8b hml hm hn hlen hcnt acb_nil (fun hE => ⟨by simp, ?_⟩) (fun hE v' J' a' => ⟨by simp, ?_⟩)
    · have := hq (.list [] true) T (by rw [(hc0 hE).1]; exact acb_nil)
      rw [(hc0 hE).2] at this
      simpa [backH, setAll, renOb, ren, renL, renR, crV, refs, refsL, refsOb, hb0, k0, k1, k2, k3, rb] using this
    · rcases acb_cases a' with ⟨_, h⟩ | ⟨j, len, rfl, _⟩
      · exact absurd h (hc1 hE).2
      · have := hq (.own (T.length + 1 + 1 + 1 + 1 + 1 + j) 0 len 1) (T ++ J'.map (renOb (backK [0, 2, 3, 4] (T.length + 1 + 1 + 1 + 1 + 1)))) ?_
        · rw [(hc1 hE).1] at this
          simp [backH, setAll, renOb, ren, renL, renR, crV, refs, refsL, refsOb, hb0, k0, k1, k2, k3, kJ, rb]
          exact this
        · have := acb_back (n := T.length + 1 + 1 + 1 + 1 + 1) (g := backK [0, 2, 3, 4] (T.length + 1 + 1 + 1 + 1 + 1)) (b := 4) kJ a'
          rw [show 4 + ([] : List Ob).length + j = 4 + j from rfl, kJ] at this
          exact acb_shift (b := 5) this (by omega)
  · have hjl : j < T.length := (List.getElem?_eq_some_iff.1 a1).1
    have hj5 : (Ls 2 3 4 :: M :: .live [byV base] :: .live [.own (5 + j) 0 out.length 1] :: .live [.int .i64 cnt] :: T)[5 + j]? = some (.live (bs.map (V.int .u8))) := by
      rw [show 5 + j = j + 1 + 1 + 1 + 1 + 1 from by omega]; simpa using a1
    have hj6 : (Ls 2 3 4 :: M :: .live [byV base] :: .live [.own (5 + j) 0 out.length 1] :: .live [.int .i64 cnt] :: T)[5 + j]?.getD .dead = .live (bs.map (V.int .u8)) := by rw [hj5]; rfl
    have hre1 : reach (Ls 2 3 4 :: M :: .live [byV base] :: .live [.own (5 + j) 0 out.length 1] :: .live [.int .i64 cnt] :: T) 1000 (refsL [.yld 0, .int .i64 n, byT (pg mem n)]) [] = some [0, 2, 3, 4, 5 + j] := by
      rw [h0]
      refine (reach_go (k := 999) rfl rfl).trans ?_
      refine (reach_go (k := 998) (by rfl) rfl).trans ?_
      simp only [refsOb, refsL, refs, hb0, List.nil_append, List.cons_append, List.append_nil]
      refine (reach_go (k := 997) (by rfl) rfl).trans ?_
      simp only [refsOb, refsL, refs, List.append_nil, List.nil_append, List.cons_append]
      refine (reach_go (k := 996) (by rfl) rfl).trans ?_
      simp only [refsOb, refsL, refs, List.append_nil, List.nil_append, List.cons_append]
      refine (reach_go (k := 995) (by simp; omega) hj5).trans ?_
      simp only [refsOb, refs_ints, List.append_nil, List.nil_append]
      exact reach_end (k := 994)
    refine WCall_inl rfl hre1 ?_
    have i2 : List.idxOf 2 [0, 2, 3, 4, 5 + j] = 1 := rfl
    have i3 : List.idxOf 3 [0, 2, 3, 4, 5 + j] = 2 := rfl
    have i4 : List.idxOf 4 [0, 2, 3, 4, 5 + j] = 3 := rfl
    have i5 : List.idxOf (5 + j) [0, 2, 3, 4, 5 + j] = 4 := by
      have e0 : (0 == 5 + j) = false := by rw [beq_eq_false_iff_ne]; omega
      have e2 : (2 == 5 + j) = false := by rw [beq_eq_false_iff_ne]; omega
      have e3 : (3 == 5 + j) = false := by rw [beq_eq_false_iff_ne]; omega
      have e4 : (4 == 5 + j) = false := by rw [beq_eq_false_iff_ne]; omega
      simp [List.idxOf_cons, e0, e2, e3, e4]
    have k0 : backK [0, 2, 3, 4, 5 + j] (T.length + 1 + 1 + 1 + 1 + 1) 0 = 0 := rfl
    have k1 : backK [0, 2, 3, 4, 5 + j] (T.length + 1 + 1 + 1 + 1 + 1) 1 = 2 := rfl
    have k2 : backK [0, 2, 3, 4, 5 + j] (T.length + 1 + 1 + 1 + 1 + 1) 2 = 3 := rfl
    have k3 : backK [0, 2, 3, 4, 5 + j] (T.length + 1 + 1 + 1 + 1 + 1) 3 = 4 := rfl
    have k4 : backK [0, 2, 3, 4, 5 + j] (T.length + 1 + 1 + 1 + 1 + 1) 4 = 5 + j := rfl
    have kJ : ∀ i, backK [0, 2, 3, 4, 5 + j] (T.length + 1 + 1 + 1 + 1 + 1) (5 + i) = T.length + 1 + 1 + 1 + 1 + 1 + i := fun i => by simp [backK]; omega
    have s5 : ∀ (x y z w u : Ob), (x :: y :: z :: w :: u :: T).set (5 + j) (.live (bs.map (V.int .u8))) = x :: y :: z :: w :: u :: T := fun x y z w u => by
      rw [show 5 + j = j + 1 + 1 + 1 + 1 + 1 from by omega]
      simp [set_same a1]
    simp -dsimp [renL, ren, renOb, i2, i3, i4, i5, rb, rt, hj6]
    refine bodyP_s (J := [.live (bs.map (V.int .u8))]) h8m h8b hml hm hn hlen hcnt (.inr ⟨0, bs, rfl, rfl, a2, a3⟩) (fun hE => ⟨by simp, ?_⟩) (fun hE v' J' a' => ⟨by simp, ?_⟩)
    · have := hq (.own (5 + j) 0 out.length 1) T (by rw [(hc0 hE).1]; exact .inr ⟨j, bs, rfl, a1, a2, a3⟩)
      rw [(hc0 hE).2] at this
      simp [backH, setAll, renOb, ren, renL, renR, crV, refs, refsL, refsOb, hb0, k0, k1, k2, k3, k4, rb]
      rw [s5]
      exact this
    · rcases acb_cases a' with ⟨_, h⟩ | ⟨i, len, rfl, _⟩
      · exact absurd h (hc1 hE).2
      · have := hq (.own (T.length + 1 + 1 + 1 + 1 + 1 + i) 0 len 1) (T ++ J'.map (renOb (backK [0, 2, 3, 4, 5 + j] (T.length + 1 + 1 + 1 + 1 + 1)))) ?_
        · rw [(hc1 hE).1] at this
          simp [backH, setAll, renOb, ren, renL, renR, crV, refs, refsL, refsOb, hb0, k0, k1, k2, k3, k4, kJ, rb]
          rw [s5]
          exact this
        · have := acb_back (n := T.length + 1 + 1 + 1 + 1 + 1) (g := backK [0, 2, 3, 4, 5 + j] (T.length + 1 + 1 + 1 + 1 + 1)) (b := 5) kJ a'
          rw [show 4 + [Ob.live (bs.map (V.int .u8))].length + i = 5 + i from rfl, kJ] at this
          exact acb_shift (b := 5) this (by omega)
end Fz.D
set_option maxRecDepth 100000
namespace Fz.D
open Go
def chgK (m base : List Int) : Nat → List Int
  | 0 => []
  | k + 1 => chgK m base k ++ chg1 m base k
def cntK (m base : List Int) : Nat → Nat
  | 0 => 0
  | k + 1 => cntK m base k + cnt1 m base k
theorem chg1_len (m base : List Int) (n : Nat) (hn : n ≤ 1000000) : (chg1 m base n).length ≤ 4400 := by
  unfold chg1
  split
  · simp
  · have h1 := encN_le hn
    have h2 := pg_len m n
    have h3 := rleF_len (l := pg m n) (by omega)
    have h4 := encN_le (n := (rleF (pg m n)).length) (by omega)
    unfold txt
    rw [List.length_append, List.length_append]; omega
theorem chgK_len (m base : List Int) : ∀ k : Nat, k ≤ 1000000 → (chgK m base k).length ≤ 4400 * k := by
  intro k
  induction k with
  | zero => intro _; simp [chgK]
  | succ k ih =>
    intro h
    have h1 := ih (by omega)
    have h2 := chg1_len m base k (by omega)
    rw [chgK, List.length_append]; omega
theorem cntK_le (m base : List Int) (k : Nat) : cntK m base k ≤ k := by
  induction k with
  | zero => simp [cntK]
  | succ k ih => rw [cntK]; unfold cnt1; split <;> omega
theorem pagesL_s {mem base : List Int} (h8m : by8 mem) (h8b : by8 base) (hml : mem.length = base.length) (hm0 : mem.length ≤ 100000) {Q : CR → List Ob → Prop}
    (hq : ∀ v T, Acb 5 T v (chgK mem base (npg mem)) → Q (.ret (.tuple [])) (Ls 2 3 4 :: .live [byV mem] :: .live [byV base] :: .live [v] :: .live [.int .i64 (cntK mem base (npg mem))] :: T)) :
    WFun p 47 [.yld 0, .ptr 1 0] [Ls 2 3 4, .live [byV mem], .live [byV base], .live [.list [] true], .live [.int .i64 0]] Q := by
  have hN : npg mem ≤ 2000 := by unfold npg; omega
  have hN1 : ∀ n, n < npg mem ↔ 64 * n < mem.length := fun n => by unfold npg; omega
  refine WFun_of w47 rfl rfl k47 ?_
  simp -dsimp [w47]
  refine xL_by (by kernel_rfl) (fun k e H => ∃ (n : Nat) (v : V) (T : List Ob), n ≤ npg mem ∧ k = npg mem - n ∧ e 0 = .yld 0 ∧ e 1 = .ptr 1 0 ∧ e 3 = .int .i64 n ∧ H = Ls 2 3 4 :: .live [byV mem] :: .live [byV base] :: .live [v] :: .live [.int .i64 (cntK mem base n)] :: T ∧ Acb 5 T v (chgK mem base n)) (npg mem) ?_ ?_
  · exact ⟨0, .list [] true, [], by omega, rfl, rfl, rfl, rfl, rfl, acb_nil⟩
  · rintro k e H ⟨n, v, T, hn, hk, h0, h1, h3, rfl, ha⟩
    obtain ⟨q, hq'⟩ : ∃ q, q = 64 * n := ⟨_, rfl⟩
    have w1 : IntKind.i64.wrap ((n : Int) * 64) = (q : Int) := by rw [Fz.w64 (by omega) (by omega)]; omega
    have w2 : IntKind.i64.wrap ((q : Int) + 64) = ((q + 64 : Nat) : Int) := by rw [Fz.w64 (by omega) (by omega)]; omega
    have w3 : IntKind.i64.wrap ((n : Int) + 1) = ((n + 1 : Nat) : Int) := by rw [Fz.w64 (by omega) (by omega)]; omega
    by_cases c1 : n < npg mem
    · have c2 := (hN1 n).1 c1
      have c3 : q < mem.length := by omega
      obtain ⟨z, hz⟩ : ∃ z, z = min (q + 64) mem.length := ⟨_, rfl⟩
      have hm : (if (mem.length : Int) < (q : Int) + 64 then (mem.length : Int) else (q : Int) + 64) = (z : Int) := by split <;> omega
      simp -dsimp [h0, h1, h3, w1, w2, c3, hm]
      refine ⟨⟨by omega, by omega⟩, ?_⟩
      have e2 : V.list (List.take (z - q) (List.drop q (List.map (V.int .u8) mem))) true = byT (pg mem n) := by
        unfold byT pg
        rw [← hq', ← List.map_drop, ← List.map_take]
        congr 2
        by_cases c : q + 64 ≤ mem.length
        · rw [show z - q = 64 from by omega]
        · rw [List.take_of_length_le (by rw [List.length_drop]; omega), List.take_of_length_le (by rw [List.length_drop]; omega)]
      rw [e2]
      have hl := chgK_len mem base n (by omega)
      have hc := cntK_le mem base n
      refine yldP_s h8m h8b hml hm0 c2 (by omega) (by omega) ha fun v' T' ha' => ?_
      simp -dsimp [h0, h1, h3, w3]
      refine ⟨npg mem - (n + 1), by omega, n + 1, v', T', by omega, rfl, ?_⟩
      simp -dsimp [h0, h1, cntK, chgK]
      exact ha'
    · have hnn : n = npg mem := by omega
      subst hnn
      have c2 : ¬ q < mem.length := by have := hN1 (npg mem); omega
      simp -dsimp [h0, h1, h3, w1, c2]
      exact hq v T ha
theorem pagesP_s (b : List Int) {H : List Ob} {Q : CR → List Ob → Prop} (hq : Q (.ret (.fn (.func 47) [] [.ptr H.length 0])) (H ++ [.live [byV b]])) : xCall p 13 [byV b] H Q := by
  have h0 : refsL [byV b] = [] := groundL_refs _ (by simp)
  refine WCall_inl (by kernel_rfl) (ids := []) (by rw [h0]; rfl) ?_
  have r0 : renL (fun i => List.idxOf i ([] : List Nat)) [byV b] = [byV b] := groundL_ren _ _ (by simp)
  rw [r0]
  refine WFun_of w13 rfl rfl k13 ?_
  simp -dsimp [w13, renL, ren]
  have rb : ∀ g, ren g (byV b) = byV b := fun g => ground_ren g _ (byV.gd b)
  simpa [renR, ren, renL, backH, crV, refs, refsL, setAll, renOb, backK, rb] using hq
theorem rangeP_s {o0 : Ob} {mem base : List Int} {e : Env} {Q : QX} (h8m : by8 mem) (h8b : by8 base) (hml : mem.length = base.length) (hm : mem.length ≤ 100000) (h3 : e 3 = .ptr 1 0) (h5 : e 5 = .ptr 2 0) (h6 : e 6 = .ptr 3 0)
    (hq : ∀ v T, Acb 6 T v (chgK mem base (npg mem)) → Q .normal e (o0 :: .live [byV base] :: .live [v] :: .live [.int .i64 (cntK mem base (npg mem))] :: .live [byV mem] :: .dead :: T)) :
    WRange p 70 (.fn (.func 47) [] [.ptr 4 0]) e [o0, .live [byV base], .live [.list [] true], .live [.int .i64 0], .live [byV mem]] Q := by
  have e1 : ∀ b, refs (byV b) = [] := fun b => ground_refs _ (byV.gd b)
  have ra : ∀ g b, ren g (byV b) = byV b := fun g b => ground_ren g _ (byV.gd b)
  have hk : bd70.keep.map e = [.ptr 1 0, .ptr 2 0, .ptr 3 0] := by show [e 3, e 5, e 6] = _; rw [h3, h5, h6]
  refine WRange_of (ab := bd70) (ids := [5, 4, 1, 2, 3]) rfl (by decide) rfl rfl ?_ ?_
  · have : refsL ([] ++ [V.yld 5] ++ [V.ptr 4 0]) = [5, 4] := by simp [refsL, refs]
    show reach _ 1000 (refsL ([] ++ [V.yld 5] ++ [V.ptr 4 0])) [] = _
    rw [this, hk]
    refine (reach_go (k := 999) rfl rfl).trans ?_
    refine (reach_go (k := 998) rfl rfl).trans ?_
    simp only [refsOb, refsL, refs, e1, List.nil_append, List.cons_append, List.append_nil]
    refine (reach_go (k := 997) rfl rfl).trans ?_
    simp only [refsOb, refsL, refs, e1, List.nil_append, List.cons_append, List.append_nil]
    refine (reach_go (k := 996) rfl rfl).trans ?_
    simp only [refsOb, refsL, refs, e1, List.nil_append, List.cons_append, List.append_nil]
    refine (reach_go (k := 995) rfl rfl).trans ?_
    simp only [refsOb, refsL, refs, e1, List.nil_append, List.cons_append, List.append_nil]
    exact reach_end (k := 994)
  · rw [hk]
    have i5 : List.idxOf 5 [5, 4, 1, 2, 3] = 0 := rfl
    have i4 : List.idxOf 4 [5, 4, 1, 2, 3] = 1 := rfl
    have i1 : List.idxOf 1 [5, 4, 1, 2, 3] = 2 := rfl
    have i2 : List.idxOf 2 [5, 4, 1, 2, 3] = 3 := rfl
    have i3 : List.idxOf 3 [5, 4, 1, 2, 3] = 4 := rfl
    have ka : bd70.keep = [3, 5, 6] := rfl
    simp [renL, ren, renOb, i5, i4, i1, i2, i3, ra, ka]
    refine pagesL_s h8m h8b hml hm fun v T hac => ⟨by simp, ?_⟩
    have k0 : backK [5, 4, 1, 2, 3] 6 0 = 5 := rfl
    have k2 : backK [5, 4, 1, 2, 3] 6 2 = 1 := rfl
    have k3 : backK [5, 4, 1, 2, 3] 6 3 = 2 := rfl
    have k4 : backK [5, 4, 1, 2, 3] 6 4 = 3 := rfl
    have kJ : ∀ j, backK [5, 4, 1, 2, 3] 6 (5 + j) = 6 + j := fun j => by simp [backK]; omega
    rcases acb_cases hac with ⟨rfl, h⟩ | ⟨j, len, rfl, _⟩
    · refine ⟨.normal, e, _, ?_, hq (.list [] true) [] (.inl ⟨h, rfl⟩)⟩
      simp [backH, setAll, renOb, ren, renL, renR, crV, refs, refsL, refsOb, e1, ra, k0, k2, k3, k4, endRange]
    · refine ⟨.normal, e, _, ?_, hq (.own (6 + j) 0 len 1) (T.map (renOb (backK [5, 4, 1, 2, 3] 6))) ?_⟩
      · simp [backH, setAll, renOb, ren, renL, renR, crV, refs, refsL, refsOb, e1, ra, k0, k2, k3, k4, kJ, endRange]
      · have := acb_back (n := 6) (g := backK [5, 4, 1, 2, 3] 6) (b := 5) kJ hac
        rw [kJ] at this
        exact this
def snapF (s : St) (base : List Int) : List Int := encN (cntK s.mem base (npg s.mem) : Nat) ++ (chgK s.mem base (npg s.mem) ++ (txt s.out ++ txt (encD (diffD (rest s) St0))))
end Fz.D
set_option maxRecDepth 100000
namespace Fz.D
open Go
structure SnOk (s : St) (base : List Int) : Prop where
  m8 : by8 s.mem
  b8 : by8 base
  len : s.mem.length = base.length
  ml : s.mem.length ≤ 100000
  ol : s.out.length ≤ 100000
  sl : StLen s
  d : DeOk (diffD (rest s) St0)
  dl : (encD (diffD (rest s) St0)).length ≤ 10000000
theorem stlen0 : StLen St0 := by constructor <;> simp [St0]
theorem stlen_rest {s : St} (h : StLen s) : StLen (rest s) := ⟨by simp [rest], h.data, h.ret, h.ctl, h.words, h.spots, by simp [rest]⟩
theorem snapPut_s {s : St} {base : List Int} (ok : SnOk s base) : Comes p 7 [stV s, byV base] (byV (snapF s base)) := by
  have c1 := rest_s s
  rw [← stF s] at c1; simp only [stV.cells] at c1
  have c2 := diff_s (stlen_rest ok.sl) stlen0 rfl
  have c2' : ∀ H Q, xCall p 20 [stV (rest s), .agg [.list [] true, .list [] true, .list [] true, .list [] true, .list [] true, .list [] true, .list [] true, .int .i64 0, .int .i64 0, .int .i64 0, .int .i64 0, .int .i64 0, .int .i64 0, .bool false, .bool false]] H Q = Q (.ret (deV (diffD (rest s) St0))) H :=
    fun H Q => call_nrm rfl (by simp) (by simp [nrm, nrmL_eq]; rfl) c2
  have c3 := put_s ok.d
  have ml := ok.ml
  have hN : npg s.mem ≤ 2000 := by unfold npg; omega
  have hc := cntK_le s.mem base (npg s.mem)
  have hcl := chgK_len s.mem base (npg s.mem) (by omega)
  have cN := num_s (n := (cntK s.mem base (npg s.mem) : Int)) (by unfold i64; omega)
  have lN := encN_le (n := cntK s.mem base (npg s.mem)) (by omega)
  have e0 : numB (zz (cntK s.mem base (npg s.mem) : Int)).toNat = encN (cntK s.mem base (npg s.mem) : Nat) := rfl
  rw [e0] at cN
  have cT1 := text_s (b := s.out) (by have := ok.ol; omega)
  have cT2 := text_s (b := encD (diffD (rest s) St0)) ok.dl
  have lT1 := encN_le (n := s.out.length) (by have := ok.ol; omega)
  refine Comes_of w7 rfl rfl k7 ?_ ?_ ?_ ?_
  · simp
  · simp
  · simp
  · simp -dsimp [w7, wFix_by, isInl]
    refine pagesP_s _ ?_
    simp -dsimp [isInl]
    refine rangeP_s ok.m8 ok.b8 ok.len ok.ml rfl rfl rfl fun v T ha => ?_
    have hE1 : numB (zz ((s.out.length : Nat) : Int)).toNat ++ s.out = txt s.out := rfl
    have hE2 : numB (zz (((encD (diffD (rest s) St0)).length : Nat) : Int)).toNat ++ encD (diffD (rest s) St0) = txt (encD (diffD (rest s) St0)) := rfl
    have lE1 : (txt s.out).length ≤ 200000 := by unfold txt; rw [List.length_append]; have := ok.ol; omega
    have lE2 : (txt (encD (diffD (rest s) St0))).length ≤ 11000000 := by
      have h1 := ok.dl
      have h2 := encN_len (n := ((encD (diffD (rest s) St0)).length : Int)) (by unfold i64; omega)
      unfold txt; rw [List.length_append]; omega
    rw [hE1] at cT1
    rw [hE2] at cT2
    have hcat : cat [encN (cntK s.mem base (npg s.mem) : Nat), chgK s.mem base (npg s.mem), txt s.out, txt (encD (diffD (rest s) St0))] = snapF s base := by simp [cat, snapF]
    have htot : tot [encN (cntK s.mem base (npg s.mem) : Nat), chgK s.mem base (npg s.mem), txt s.out, txt (encD (diffD (rest s) St0))] ≤ 100000000 := by simp [tot]; omega
    generalize txt s.out = X1 at *
    generalize txt (encD (diffD (rest s) St0)) = X2 at *
    generalize hX3 : encN ((cntK s.mem base (npg s.mem) : Nat) : Int) = X3 at *
    generalize chgK s.mem base (npg s.mem) = X4 at *
    rcases ha with ⟨rfl, rfl⟩ | ⟨j, bs, rfl, a1, a2, a3⟩
    · simp -dsimp [isInl, call_by c1, c2', call_by c3, quiet_by cN, quiet_by cT1, quiet_by cT2, fillV, splice, wOpt, chunk]
      refine concat_lists (ls := [X3, [], X1, X2]) rfl (fun i h => ?_) htot (by simp) fun v' J' a' => ?_
      · match i, h with
        | 0, _ => exact ⟨_, rfl, false, rfl⟩
        | 1, _ => exact ⟨_, rfl, true, rfl⟩
        | 2, _ => exact ⟨_, rfl, false, rfl⟩
        | 3, _ => exact ⟨_, rfl, false, rfl⟩
      · rw [hcat] at a'
        simp -dsimp [wFix_by, isInl]
        have a2 : Ac 1 (T.length + 1 + 1 + 1 + 1 + 1 + 1) J' v' ((snapF s base).map (V.int .u8)) := acb_ac (by simpa using a')
        exact frz_ac (b := T.length + 1 + 1 + 1 + 1 + 1 + 1) (by simpa using a2)
    · simp -dsimp [isInl, call_by c1, c2', call_by c3, quiet_by cN, quiet_by cT1, quiet_by cT2, fillV, splice, wOpt, chunk]
      refine ⟨rfl, ?_⟩
      refine concat_own2 (ls := [X3, X4, X1, X2]) (k := 1) (id := 6 + j) (bs := bs) ?_ (by simp) (fun i h hi => ?_) ?_ ?_ a2 a3 htot (by simp) fun v' J' a' => ?_
      · rfl
      · match i, h, hi with
        | 0, _, _ => exact ⟨_, rfl, false, rfl⟩
        | 2, _, _ => exact ⟨_, rfl, false, rfl⟩
        | 3, _, _ => exact ⟨_, rfl, false, rfl⟩
      · rfl
      · rw [show 6 + j = j + 1 + 1 + 1 + 1 + 1 + 1 from by omega]; exact a1
      · rw [hcat] at a'
        simp -dsimp [wFix_by, isInl]
        have a2 : Ac 1 (T.length + 1 + 1 + 1 + 1 + 1 + 1) J' v' ((snapF s base).map (V.int .u8)) := acb_ac (by simpa using a')
        exact frz_ac (b := T.length + 1 + 1 + 1 + 1 + 1 + 1) (by simpa using a2)
end Fz.D
set_option maxRecDepth 100000
namespace Fz.D
open Go
theorem refSnapPut_s {s : St} {base : List Int} (ok : SnOk s base) : Comes p 8 [stV s, byV base] (byV (snapF s base)) := by
  have ml := ok.ml
  have hlen := ok.len
  have hN : npg base ≤ 2000 := by unfold npg; omega
  have hNN : npg s.mem = npg base := by unfold npg; omega
  have cP := pages_s (b := base) (by omega)
  have c2 := refDiff_s (stlen_rest ok.sl) stlen0 rfl
  have c2' : ∀ H Q, xCall p 28 [.agg [.list [] true, inV s.data, slosV s.ret, inV s.ctl, worsV s.words, sposV s.spots, .list [] true, .int .i64 s.ip, .int .i64 s.here, .int .i64 s.at_, .int .i64 s.tok, .int .i64 s.in_, .int .i64 s.err, .bool s.comp, .bool s.halt], .agg [.list [] true, .list [] true, .list [] true, .list [] true, .list [] true, .list [] true, .list [] true, .int .i64 0, .int .i64 0, .int .i64 0, .int .i64 0, .int .i64 0, .int .i64 0, .bool false, .bool false]] H Q = Q (.ret (deV (diffD (rest s) St0))) H :=
    fun H Q => call_nrm rfl (by simp) (by simp [nrm, nrmL_eq]; exact ⟨rfl, rfl⟩) c2
  have c3 := refPut_s ok.d
  have hc := cntK_le s.mem base (npg base)
  have hcl := chgK_len s.mem base (npg base) (by omega)
  have cN := refNumE (n := (cntK s.mem base (npg base) : Int)) (by unfold i64; omega)
  have lN := encN_le (n := cntK s.mem base (npg base)) (by omega)
  have cT1 := refText_s (b := s.out) (by have := ok.ol; omega)
  have cT2 := refText_s (b := encD (diffD (rest s) St0)) ok.dl
  have lT1 := encN_le (n := s.out.length) (by have := ok.ol; omega)
  have hE1 : numB (zz ((s.out.length : Nat) : Int)).toNat ++ s.out = txt s.out := rfl
  have hE2 : numB (zz (((encD (diffD (rest s) St0)).length : Nat) : Int)).toNat ++ encD (diffD (rest s) St0) = txt (encD (diffD (rest s) St0)) := rfl
  have lE1 : (txt s.out).length ≤ 200000 := by unfold txt; rw [List.length_append]; have := ok.ol; omega
  have lE2 : (txt (encD (diffD (rest s) St0))).length ≤ 11000000 := by
    have h1 := ok.dl
    have h2 := encN_len (n := ((encD (diffD (rest s) St0)).length : Int)) (by unfold i64; omega)
    unfold txt; rw [List.length_append]; omega
  rw [hE1] at cT1
  rw [hE2] at cT2
  have hF : snapF s base = encN (cntK s.mem base (npg base) : Nat) ++ chgK s.mem base (npg base) ++ txt s.out ++ txt (encD (diffD (rest s) St0)) := by
    unfold snapF; rw [hNN]; simp only [List.append_assoc]
  rw [hF]
  refine Comes_of w8 rfl rfl k8 ?_ ?_ ?_ ?_
  · simp
  · simp
  · simp
  · simp -dsimp [w8, wFix_by, isInl]
    refine xL_by (by kernel_rfl) (fun k e H => ∃ (n : Nat) (v : V) (J : List Ob), n ≤ npg base ∧ k = npg base - n ∧ e 1 = byV base ∧ e 2 = .ptr 0 0 ∧ e 5 = v ∧ e 6 = .int .i64 (cntK s.mem base n) ∧ e 7 = .int .i64 n ∧ H = .live (cellsOf (stV s)) :: J ∧ Acb 1 J v (chgK s.mem base n)) (npg base) ?_ ?_
    · refine ⟨0, .list [] true, [], by omega, rfl, ?_⟩
      simp -dsimp [cntK, chgK]
      exact acb_nil
    · rintro k e H ⟨n, v, J, hn, hk, h1, h2, h5, h6, h7, rfl, ha⟩
      have hcl := chgK_len s.mem base n (by omega)
      have hcn := cntK_le s.mem base n
      by_cases c1 : n < npg base
      · have cA := page_s (b := s.mem) (n := n) (by omega) (by unfold npg at c1; omega)
        have cB := page_s (b := base) (n := n) (by omega) (by unfold npg at c1; omega)
        have eA := all8 (pg_by ok.m8 n)
        have eB := all8 (pg_by ok.b8 n)
        have w1 : IntKind.i64.wrap ((n : Int) + 1) = ((n + 1 : Nat) : Int) := by rw [Fz.w64 (by omega) (by omega)]; omega
        have w2 : IntKind.i64.wrap ((cntK s.mem base n : Int) + 1) = ((cntK s.mem base n + 1 : Nat) : Int) := by rw [Fz.w64 (by omega) (by omega)]; omega
        have pl := pg_len s.mem n
        have e : decide (bstr (pg s.mem n) = bstr (pg base n)) = decide (pg s.mem n = pg base n) := decide_eq_decide.2 ⟨bstr_inj (pg_by ok.m8 n) (pg_by ok.b8 n), fun h => by rw [h]⟩
        by_cases hE : pg s.mem n = pg base n
        · rw [hE] at cA
          simp -dsimp [h1, h2, h5, h6, h7, call_by cP, c1, call_by cA, quiet_by cB, w1]
          refine ⟨eB, npg base - (n + 1), by omega, n + 1, v, J, by omega, rfl, ?_⟩
          simp -dsimp [h1, h2, h5, h6, cntK, chgK, cnt1, chg1, hE]
          exact ha
        · have cN := refNumE (n := (n : Int)) (by unfold i64; omega)
          have cR := refRle_s (b := pg s.mem n) (by omega)
          have lR := rleF_len (l := pg s.mem n) (by omega)
          have cT := refText_s (b := rleF (pg s.mem n)) (by omega)
          have e1 : numB (zz ((rleF (pg s.mem n)).length : Int)).toNat ++ rleF (pg s.mem n) = txt (rleF (pg s.mem n)) := rfl
          rw [e1] at cT
          have lN := encN_le (n := n) (by omega)
          have lT : (txt (rleF (pg s.mem n))).length ≤ 100000 := by
            have := encN_le (n := (rleF (pg s.mem n)).length) (by omega)
            unfold txt; rw [List.length_append]; omega
          have ch : chgK s.mem base (n + 1) = chgK s.mem base n ++ encN n ++ txt (rleF (pg s.mem n)) := by
            rw [chgK, chg1, if_neg hE, List.append_assoc]
          have cc : cntK s.mem base (n + 1) = cntK s.mem base n + 1 := by rw [cntK, cnt1, if_neg hE]
          rw [decide_eq_false hE] at e
          generalize txt (rleF (pg s.mem n)) = X at *
          generalize encN (n : Int) = Y at *
          simp -dsimp [-wAppend_list, h1, h2, h5, h6, h7, call_by cP, c1, call_by cA, quiet_by cB, w1, w2, eA, eB, bstr_fold, e, call_by cN, call_by cR, call_by cT]
          refine app_acb 1 (by simpa using ha) (by simp) (by simp [capOk]; omega) fun v1 J1 a1 => ?_
          obtain ⟨x1, x2, x3⟩ := acb_val a1
          simp -dsimp [-wAppend_list, h1, h2, h5, h6, h7, w1, w2, call_by cR, call_by cT]
          refine app_acb 1 (by simpa using a1) (by simp) (by simp [capOk]; omega) fun v2 J2 a2 => ?_
          simp -dsimp [-wAppend_list, h1, h2, h5, h6, h7, w1, w2]
          refine ⟨npg base - (n + 1), by omega, n + 1, v2, J2, by omega, rfl, ?_⟩
          simp -dsimp [h1, h2, h5, h6]
          rw [ch, cc]
          exact ⟨rfl, a2⟩
      · have hnn : n = npg base := by omega
        subst hnn
        simp -dsimp [-wAppend_list, h1, h2, h5, h6, h7, call_by cP, call_by cN]
        refine app_acb (1 + J.length) (l := []) (by exact acb_nil) (by simp; omega) (by simp [capOk]; omega) fun v1 J1 a1 => ?_
        simp -dsimp [-wAppend_list, h1, h2, h5, h6, h7]
        rw [List.take_of_length_le (by simp; omega)]
        refine elems_el (el_ext (el_acb (b := 1) (H := .live (cellsOf (stV s)) :: J) ha) J1) ?_
        refine app_acb (1 + J.length) (by simpa [Nat.add_comm] using a1) (by simp; omega) (by simp [capOk]; omega) fun v2 J2 a2 => ?_
        rw [List.take_append_of_le_length (by simp; omega), List.take_of_length_le (by simp; omega)]
        simp -dsimp [-wAppend_list, h1, h2, h5, h6, h7, call_by cT1]
        refine app_acb (1 + J.length) (by simpa [Nat.add_comm] using a2) (by simp; omega) (by simp [capOk]; omega) fun v3 J3 a3 => ?_
        rw [show 1 + J.length = (J.length + 1) from by omega, List.take_succ_cons, List.take_left]
        simp -dsimp [-wAppend_list, h1, h2, h5, h6, h7]
        simp -dsimp [-wAppend_list, c2', call_by c3, call_by cT2]
        refine app_acb (1 + J.length) (by rw [show 1 + J.length = J.length + 1 from by omega, List.drop_succ_cons, List.drop_left]; exact acb_ext (by simpa [Nat.add_comm] using a3) _) (by simp; omega) (by simp [capOk]; omega) fun v4 J4 a4 => ?_
        rw [show 1 + J.length = (J.length + 1) from by omega, List.take_succ_cons, List.take_left]
        simp -dsimp [-wAppend_list, wFix_by, isInl]
        have a5 : Ac 1 (J.length + 1) J4 v4 ((encN (cntK s.mem base (npg base) : Nat) ++ (chgK s.mem base (npg base) ++ (txt s.out ++ txt (encD (diffD (rest s) St0))))).map (V.int .u8)) := acb_ac (by simpa [Nat.add_comm] using a4)
        exact frz_ac (b := J.length + 1) (H := .live (cellsOf (stV s)) :: (J ++ J4)) (v := v4) (by rw [List.drop_succ_cons, List.drop_left]; exact a5)
end Fz.D
set_option maxRecDepth 100000
namespace Fz.D
open Go
theorem awakeS_s : Comes p 5 [] (.bool true) := by
  obtain ⟨H, h⟩ := isTrue_ok awake_run
  exact ⟨rfl, rfl, rfl, 400, .bool true, H, h, .inr ⟨rfl, .bool true, H, rfl, rfl⟩⟩
theorem few19_s (s : St) (base : List Int) : Comes p 6 [stV s, byV base] (.bool (fewB s && decide (s.mem.length = base.length))) := by
  have c1 := few_s s
  rw [← stF s] at c1
  simp only [stV.cells] at c1
  refine Comes_of w6 rfl rfl k6 ?_ ?_ ?_ ?_
  · simp
  · simp
  · simp
  · cases h : fewB s with
    | false => rw [h] at c1; simp -dsimp [w6, wFix_by, isInl, call_by c1, quiet_by c1]
    | true => rw [h] at c1; simp -dsimp [w6, wFix_by, isInl, call_by c1, quiet_by c1]; omega
theorem few_rest {s : St} (h : fewB s = true) : fewB (rest s) = true := by
  unfold fewB rest at *
  simp at h ⊢
  exact ⟨h.1, h.2.2.1, h.2.2.2.1, h.2.2.2.2.1, h.2.2.2.2.2.1, h.2.2.2.2.2.2.1⟩
theorem few_0 : fewB St0 = true := by decide
theorem ty_rest {s : St} (t : StTy s) : StTy (rest s) := by
  obtain ⟨⟩ := t
  constructor <;> first | assumption | exact by8_nil
theorem sn_ok {s : St} {base : List Int} (t : StTy s) (hb : by8 base) (h : fewB s = true) (hl : s.mem.length = base.length) : SnOk s base := by
  have l := few_len h
  exact ⟨t.mem, hb, hl, by omega, by omega, few_st h, diff_ok (ty_rest t) (few_rest h) few_0, by have := diff_enc (ty_rest t) (few_rest h) few_0; omega⟩
theorem by8_rleK : ∀ (k : Nat) (l : List Int), by8 l → by8 (rleK k l) := by
  intro k
  induction k with
  | zero => intro l _; exact by8_nil
  | succ k ih =>
    intro l h
    cases l with
    | nil => exact by8_nil
    | cons c r =>
      have e1 : rleK (k + 1) (c :: r) = encN (rcount c (c :: r) : Nat) ++ ([c] ++ rleK k ((c :: r).drop (rcount c (c :: r)))) := rfl
      rw [e1]
      refine by8_app (by8_encN _) (by8_app (fun x hx => ?_) (ih _ fun x hx => h x (List.mem_of_mem_drop hx)))
      rw [List.mem_singleton] at hx
      subst hx
      exact h _ (List.mem_cons_self ..)
theorem by8_chg {m base : List Int} (h : by8 m) : ∀ k, by8 (chgK m base k) := by
  intro k
  induction k with
  | zero => exact by8_nil
  | succ k ih =>
    rw [chgK, chg1]
    refine by8_app ih ?_
    split
    · exact by8_nil
    · exact by8_app (by8_encN _) (by8_txt (by8_rleK _ _ (pg_by h k)))
theorem by8_snap {s : St} {base : List Int} (t : StTy s) : by8 (snapF s base) :=
  by8_app (by8_encN _) (by8_app (by8_chg t.mem _) (by8_app (by8_txt t.out) (by8_txt (by8_encD (diff_by (ty_rest t))))))
theorem lawPuts {s : St} {base : List Int} (t : StTy s) (hb : by8 base) : Comes p 3 [stV s, byV base] (.bool true) := by
  have a := awakeS_s
  have c1 := few19_s s base
  rw [← stF s] at c1
  simp only [stV.cells] at c1
  refine Comes_of w3 rfl rfl k3 ?_ ?_ ?_ ?_
  · simp
  · simp
  · simp
  · cases h1 : (fewB s && decide (s.mem.length = base.length)) with
    | false => rw [h1] at c1; simp -dsimp [w3, wFix_by, isInl, call_by a, call_by c1]
    | true =>
      rw [h1] at c1
      rw [Bool.and_eq_true, decide_eq_true_eq] at h1
      have ok := sn_ok t hb h1.1 h1.2
      have c2 := snapPut_s ok
      have c3 := refSnapPut_s ok
      rw [← stF s] at c2 c3
      simp only [stV.cells] at c2 c3
      have e8 := all8 (by8_snap (base := base) t)
      generalize snapF s base = X at *
      simp -dsimp [w3, wFix_by, isInl, call_by a, call_by c1, quiet_by c2, quiet_by c3, e8, bstr_fold]
end Fz.D
