/- Slices that grow in loops: nil at first, then an object's own. -/
import Derived.Test.YtpojglkaohhbkaaFzAE
namespace Fz
open Go

@[simp] theorem get_jn {α : Type} (J r : List α) (n : Nat) : (J ++ r)[J.length + n]? = r[n]? := by rw [List.getElem?_append_right (by omega), Nat.add_sub_cancel_left]
@[simp] theorem wLive_j {J r : List Ob} {x : Ob} {K : List V → Prop} : wLive (J ++ x :: r) J.length K = wLive (x :: r) 0 K := by simp [wLive]
@[simp] theorem wLive_jn {J r : List Ob} {n : Nat} {K : List V → Prop} : wLive (J ++ r) (J.length + n) K = wLive r n K := by simp [wLive]
@[simp] theorem wMut_j {J r : List Ob} {x : Ob} {K : List V → Prop} : wMut (J ++ x :: r) J.length K = wMut (x :: r) 0 K := by simp [wMut]
@[simp] theorem wMut_jn {J r : List Ob} {n : Nat} {K : List V → Prop} : wMut (J ++ r) (J.length + n) K = wMut r n K := by simp [wMut]
@[simp] theorem wOb_j {J r : List Ob} {x : Ob} {L F : List V → Prop} : wOb (J ++ x :: r) J.length L F = wOb (x :: r) 0 L F := by simp [wOb]
@[simp] theorem wOb_jn {J r : List Ob} {n : Nat} {L F : List V → Prop} : wOb (J ++ r) (J.length + n) L F = wOb r n L F := by simp [wOb]
@[simp] theorem set_j {α : Type} (J r : List α) (x y : α) : (J ++ x :: r).set J.length y = J ++ y :: r := by simp
@[simp] theorem set_jn {α : Type} (J r : List α) (n : Nat) (y : α) : (J ++ r).set (J.length + n) y = J ++ r.set n y := by simp
@[simp] theorem set_end {α : Type} (H : List α) (x y : α) : (H ++ [x]).set H.length y = H ++ [y] := by simp
@[simp] theorem uni_int {k : IntKind} (l : List Int) : uni 1 (l.map (V.int k)) = true := uni_map fun _ => rfl
@[simp] theorem flat_int {k : IntKind} (l : List Int) : flat (l.map (V.int k)) = l.map (V.int k) := flat_one fun _ => rfl
@[simp] theorem uni_str (l : List ByteArray) : uni 1 (l.map V.str) = true := uni_map fun _ => rfl
@[simp] theorem flat_str (l : List ByteArray) : flat (l.map V.str) = l.map V.str := flat_one fun _ => rfl
@[simp] theorem sum_const {α : Type} (l : List α) (c : Nat) : (l.map fun _ => c).sum = l.length * c := by
  induction l with
  | nil => simp
  | cons a l ih => simp only [List.map_cons, List.sum_cons, ih, List.length_cons, Nat.succ_mul]; omega

/-- A slice of the function's own that may grow, its object at b or beyond. -/
def Acc (n b : Nat) (J : List Ob) (v : V) (l : List V) : Prop :=
  uni n l = true ∧ n ≠ 0 ∧ ((l = [] ∧ v = .list [] true) ∨ ∃ j, v = .own (b + j) 0 l.length n ∧ J[j]? = some (.live (flat l)))

theorem acc_nil {n b : Nat} {J : List Ob} (hn : n ≠ 0) : Acc n b J (.list [] true) [] := ⟨rfl, hn, .inl ⟨rfl, rfl⟩⟩
theorem acc_ext {n b : Nat} {J : List Ob} {v : V} {l : List V} (h : Acc n b J v l) (G : List Ob) : Acc n b (J ++ G) v l := by
  obtain ⟨h1, h2, h3⟩ := h
  refine ⟨h1, h2, ?_⟩
  rcases h3 with h3 | ⟨j, h3, h4⟩
  · exact .inl h3
  · exact .inr ⟨j, h3, by rw [List.getElem?_append_left (List.getElem?_eq_some_iff.1 h4).1]; exact h4⟩
theorem uni_flat {n : Nat} {l : List V} (h : uni n l = true) : (flat l).length = l.length * n := by
  induction l with
  | nil => simp [flat]
  | cons v l ih =>
    unfold uni at h
    rw [List.all_cons, Bool.and_eq_true] at h
    have : flat (v :: l) = cellsOf v ++ flat l := by simp [flat]
    rw [this, List.length_append, ih h.2, beq_iff_eq.1 h.1, List.length_cons, Nat.succ_mul]; omega

theorem app_acc (b : Nat) {H : List Ob} {n bytes k : Nat} {v : V} {l m xs : List V} {K : V → List Ob → Prop} (ha : Acc n b (H.drop b) v l) (hb : b ≤ H.length)
    (hxs : xs = flat m) (hk : k = m.length) (hu : uni n m = true) (hs : (flat m).all storable = true) (hc : capOk (l.length + m.length) bytes = true)
    (hK : ∀ v' J', Acc n b J' v' (l ++ m) → K v' (H.take b ++ J')) : xAppend H n bytes v xs k K := by
  subst hxs hk
  obtain ⟨h1, h2, h3⟩ := ha
  have hum : uni n (l ++ m) = true := by rw [uni_append, h1, hu]; rfl
  by_cases h0 : m.length = 0
  · have hm : m = [] := List.length_eq_zero_iff.1 h0
    subst hm
    have hk := hK v (H.drop b) ⟨by simpa using h1, h2, by simpa using h3⟩
    rw [List.take_append_drop] at hk
    rcases h3 with ⟨rfl, rfl⟩ | ⟨j, rfl, h4⟩
    · rw [wAppend_list, if_pos (by rfl)]; exact hk
    · rw [wAppend_own, if_pos (by rfl)]; exact ⟨rfl, hk⟩
  · rcases h3 with ⟨rfl, rfl⟩ | ⟨j, rfl, h4⟩
    · rw [wAppend_list, if_neg h0]
      refine ⟨⟨rfl, rfl, uni_flat hu, by simpa using hc⟩, ?_⟩
      have := hK (.own H.length 0 (0 + m.length) n) (H.drop b ++ [.live (flat m)]) ⟨by simpa using hu, h2, .inr ⟨(H.drop b).length, ?_, by simp⟩⟩
      · rw [← List.append_assoc, List.take_append_drop] at this
        exact this
      · rw [List.length_drop, show b + (H.length - b) = H.length from by omega, List.nil_append, Nat.zero_add]
    · rw [wAppend_own, if_neg h0]
      refine ⟨rfl, ?_⟩
      rw [List.getElem?_drop] at h4
      refine ⟨flat l, h4, ⟨rfl, by rw [uni_flat h1]; exact Nat.le_refl _, hs, hc⟩, ?_⟩
      have e1 : (flat l).take (l.length * n) = flat l := by rw [← uni_flat h1, List.take_length]
      show K _ _
      rw [e1, ← flat_append]
      have := hK (.own H.length 0 (l.length + m.length) n) ((H.drop b).set j .dead ++ [.live (flat (l ++ m))]) ⟨hum, h2, .inr ⟨(H.drop b).length, ?_, ?_⟩⟩
      · rw [← List.append_assoc] at this
        have e2 : H.take b ++ (H.drop b).set j .dead = H.set (b + j) .dead := by
          conv => rhs; rw [← List.take_append_drop b H]
          rw [List.set_append_right _ _ (by rw [List.length_take]; omega), List.length_take]
          congr 2
          omega
        rw [e2] at this
        exact this
      · rw [List.length_drop, show b + (H.length - b) = H.length from by omega, List.length_append]
      · rw [List.getElem?_append_right (by simp)]; simp

theorem chunk_of {n : Nat} : ∀ {l : List V}, uni n l = true → n ≠ 1 → (∀ v ∈ l, ∃ c, v = .agg c) → chunks n l.length (flat l) = l
  | [], _, _, _ => rfl
  | v :: l, h, hn, ha => by
    unfold uni at h
    rw [List.all_cons, Bool.and_eq_true] at h
    obtain ⟨c, rfl⟩ := ha v (List.mem_cons_self ..)
    have hl : c.length = n := by simpa [cellsOf] using h.1
    have e : flat (.agg c :: l) = c ++ flat l := by simp [flat, cellsOf]
    rw [e, List.length_cons, chunks, List.take_left' hl, List.drop_left' hl, chunk_of h.2 hn fun v hv => ha v (List.mem_cons_of_mem _ hv)]

/-- Made to stay. -/
theorem frz_acc (b : Nat) {H : List Ob} {n k : Nat} {v : V} {l : List V} {K : V → List Ob → Prop} (ha : Acc n b (H.drop b) v l) (hg : (flat l).all (gk k) = true)
    (hl : (n = 1 ∧ l.all leafy = true) ∨ (n ≠ 1 ∧ ∀ v ∈ l, ∃ c, v = .agg c)) (hK : ∀ H', H'.take b = H.take b → H'.length = H.length → K (.list (l.map nrm) false) H') : xFrz (k + 1) v H K := by
  obtain ⟨h1, h2, h3⟩ := ha
  rcases h3 with ⟨rfl, rfl⟩ | ⟨j, rfl, h4⟩
  · rw [frz_gk (by rw [gk_list]; rfl)]
    exact hK H rfl rfl
  · rw [List.getElem?_drop] at h4
    rw [frz_own, wOb_at h4]
    refine ⟨⟨by rw [uni_flat h1]; omega, h2⟩, ?_⟩
    rw [wVal_eq, wSetOb_eq]
    have e1 : ((flat l).drop 0).take (l.length * n) = flat l := by rw [List.drop_zero, ← uni_flat h1, List.take_length]
    rw [e1, frzL_gk hg, wVal_eq]
    have e3 : ∀ H', (H.set (b + j) (.fixed (flat l))) = H' → H'.take b = H.take b ∧ H'.length = H.length := by
      rintro H' rfl
      refine ⟨?_, by simp⟩
      rw [List.take_set_of_le (by omega)]
    obtain ⟨q1, q2⟩ := e3 _ rfl
    generalize H.set (b + j) (.fixed (flat l)) = H' at q1 q2 ⊢
    rcases hl with ⟨rfl, hl⟩ | ⟨hn, hl⟩
    · rw [wChunk_one]
      obtain ⟨f1, _⟩ := flat_leafy hl
      rw [f1]
      refine ⟨by rw [leafy_nrm]; exact hl, ?_⟩
      show K _ _
      rw [List.take_of_length_le (by simp)]
      exact hK _ q1 q2
    · refine ⟨.inl hn, ?_⟩
      have : chunk n l.length ((flat l).map nrm) = l.map nrm := by
        rw [← chunk_nrm]
        unfold chunk
        rw [if_neg hn, chunk_of h1 hn hl]
      rw [this]
      exact hK _ q1 q2
/-- Made to stay where it stands. -/
theorem fix_acc (b : Nat) {H : List Ob} {n : Nat} {v : V} {l : List V} {K : V → List Ob → Prop} (ha : Acc n b (H.drop b) v l) (hg : (flat l).all (gk 11) = true)
    (hl : (n = 1 ∧ l.all leafy = true) ∨ (n ≠ 1 ∧ ∀ v ∈ l, ∃ c, v = .agg c)) (hK : ∀ H' c, H'.take b = H.take b → H'.length = H.length → K (.list l c) H') : xFixV v H K := by
  show wFixV v H K
  obtain ⟨h1, h2, h3⟩ := ha
  rcases h3 with ⟨rfl, rfl⟩ | ⟨j, rfl, h4⟩
  · exact ⟨_, _, rfl, hK H true rfl rfl⟩
  · rw [List.getElem?_drop] at h4
    have e1 : ((flat l).drop 0).take (l.length * n) = flat l := by rw [List.drop_zero, ← uni_flat h1, List.take_length]
    refine ⟨.list l false, H.set (b + j) (.fixed (flat l)), ?_, hK _ false (by rw [List.take_set_of_le (by omega)]) (by simp)⟩
    rw [show depthF = 11 + 1 from rfl, freezeV, h4]
    dsimp only
    rw [if_pos ⟨by rw [uni_flat h1]; omega, h2⟩, e1, gks_freeze hg]
    dsimp only
    rcases hl with ⟨rfl, hl⟩ | ⟨hn, hl⟩
    · obtain ⟨f1, _⟩ := flat_leafy hl
      rw [f1, if_pos (.inr hl), chunk_one, List.take_length]
    · rw [if_pos (.inl hn)]
      unfold chunk
      rw [if_neg hn, chunk_of h1 hn hl]

/-! ### More of what operations make -/
section bin
variable {k j : IntKind} {ek : EqK} {a b : Int} {K : V → Prop}
theorem bytes_beq (a b : ByteArray) : (a.data.toList == b.data.toList) = decide (a = b) := by
  by_cases h : a = b
  · subst h; simp
  · have : ¬ a.data.toList = b.data.toList := fun e => h (by cases a; cases b; simp at e; simp [e])
    rw [decide_eq_false h, beq_eq_false_iff_ne.2 this]
@[simp] theorem wBin_seql {a b : ByteArray} : xBin .eql ek (.str a) (.str b) K = K (.bool (decide (a = b))) := by simp only [xBin, wBin, binV, bytes_beq, Option.some.injEq, exists_eq_left']
@[simp] theorem wBin_sneq {a b : ByteArray} : xBin .neq ek (.str a) (.str b) K = K (.bool (!decide (a = b))) := by simp only [xBin, wBin, binV, bytes_beq, Option.some.injEq, exists_eq_left']
@[simp] theorem wBin_sadd {a b : ByteArray} : xBin .add ek (.str a) (.str b) K = (a.size + b.size ≤ 9223372036854775807 ∧ wVal (a ++ b) fun s => K (.str s)) := by
  by_cases h : a.size + b.size ≤ 9223372036854775807 <;> simp [xBin, wBin, binV, wVal, h]
@[simp] theorem wBin_shl : xBin .shl ek (.int k a) (.int j b) K = (0 ≤ b ∧ wVal (k.wrap (a * 2 ^ (min b.toNat k.bits))) fun n => K (.int k n)) := by
  by_cases h : b < 0
  · have : ¬ 0 ≤ b := by omega
    simp [xBin, wBin, binV, h, this]
  · have : 0 ≤ b := by omega
    simp [xBin, wBin, binV, wVal, h, this]
@[simp] theorem wBin_shr : xBin .shr ek (.int k a) (.int j b) K = (0 ≤ b ∧ wVal (a.fdiv (2 ^ (min b.toNat k.bits))) fun n => K (.int k n)) := by
  by_cases h : b < 0
  · have : ¬ 0 ≤ b := by omega
    simp [xBin, wBin, binV, h, this]
  · have : 0 ≤ b := by omega
    simp [xBin, wBin, binV, wVal, h, this]
@[simp] theorem wBin_and : xBin .and ek (.int k a) (.int k b) K = wVal (k.wrap (BitVec.ofInt k.bits a &&& BitVec.ofInt k.bits b).toNat) fun n => K (.int k n) := by simp [xBin, wBin, binV, bitsInt, wVal]
@[simp] theorem wBin_or : xBin .or ek (.int k a) (.int k b) K = wVal (k.wrap (BitVec.ofInt k.bits a ||| BitVec.ofInt k.bits b).toNat) fun n => K (.int k n) := by simp [xBin, wBin, binV, bitsInt, wVal]
@[simp] theorem wBin_xor : xBin .xor ek (.int k a) (.int k b) K = wVal (k.wrap (BitVec.ofInt k.bits a ^^^ BitVec.ofInt k.bits b).toNat) fun n => K (.int k n) := by simp [xBin, wBin, binV, bitsInt, wVal]
@[simp] theorem wBin_andNot : xBin .andNot ek (.int k a) (.int k b) K = wVal (k.wrap (BitVec.ofInt k.bits a &&& ~~~BitVec.ofInt k.bits b).toNat) fun n => K (.int k n) := by simp [xBin, wBin, binV, bitsInt, wVal]
@[simp] theorem wUn_xor : xUn .xor (.int k a) K = wVal (k.wrap (BitVec.ofInt k.bits (if k.signed then -1 else k.max) ^^^ BitVec.ofInt k.bits a).toNat) fun n => K (.int k n) := by simp [xUn, wUn, unV, bitsInt, wVal]
@[simp] theorem wBin_beql {a b : Bool} : xBin .eql .bool (.bool a) (.bool b) K = K (.bool (a == b)) := by simp [xBin, wBin, binV, eqV, eqB]
@[simp] theorem wBin_bneq {a b : Bool} : xBin .neq .bool (.bool a) (.bool b) K = K (.bool (!(a == b))) := by simp [xBin, wBin, binV, eqV, eqB]
@[simp] theorem wBin_pnn : xBin .eql .ptr .nilp .nilp K = K (.bool true) := by simp [xBin, wBin, binV, eqV, eqP]
@[simp] theorem wBin_ppn {i o : Nat} : xBin .eql .ptr (.ptr i o) .nilp K = K (.bool false) := by simp [xBin, wBin, binV, eqV, eqP]
@[simp] theorem wBin_npnn : xBin .neq .ptr .nilp .nilp K = K (.bool false) := by simp [xBin, wBin, binV, eqV, eqP]
@[simp] theorem wBin_nppn {i o : Nat} : xBin .neq .ptr (.ptr i o) .nilp K = K (.bool true) := by simp [xBin, wBin, binV, eqV, eqP]
@[simp] theorem wBin_fnn : xBin .eql .func .nilfn .nilfn K = K (.bool true) := by simp [xBin, wBin, binV, eqV, eqF]
@[simp] theorem wBin_ffn {f : Go.Fn} {l m : List V} : xBin .eql .func (.fn f l m) .nilfn K = K (.bool false) := by simp [xBin, wBin, binV, eqV, eqF]
@[simp] theorem wBin_nfnn : xBin .neq .func .nilfn .nilfn K = K (.bool false) := by simp [xBin, wBin, binV, eqV, eqF]
@[simp] theorem wBin_nffn {f : Go.Fn} {l m : List V} : xBin .neq .func (.fn f l m) .nilfn K = K (.bool true) := by simp [xBin, wBin, binV, eqV, eqF]
@[simp] theorem maxV_two : maxV [.int k a, .int k b] = some (.int k (if b > a then b else a)) := by simp [maxV, maxF]
@[simp] theorem minV_two : minV [.int k a, .int k b] = some (.int k (if b < a then b else a)) := by simp [minV, minF]
end bin
end Fz
