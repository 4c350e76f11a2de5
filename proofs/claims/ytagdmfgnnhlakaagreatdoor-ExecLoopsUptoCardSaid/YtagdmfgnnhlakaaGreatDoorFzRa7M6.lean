import Derived.Test.YtagdmfgnnhlakaaGreatDoorFzRa7M5
import Derived.Test.YtagdmfgnnhlakaaGreatDoorChecked
import Derived.Shelf.Strings.Builder1
import Derived.BigCall
import Derived.WalkKit
import Derived.Test.YtagdmfgnnhlakaaGreatDoorRows
import Derived.Test.YtagdmfgnnhlakaaGreatDoorCards
import Derived.Test.YtagdmfgnnhlakaaGreatDoorTie
import Derived.Deep.DeepWitnessRowRef
import Derived.LaidMore
import Derived.Lib.LaidTab
set_option linter.all false
set_option linter.unusedVariables false
set_option linter.unusedSimpArgs false
set_option linter.unnecessarySimpa false
set_option maxRecDepth 100000
namespace Fz.D
open Go Go.Proofs
def isInl (f : FuncId) : Bool := f == 33 || f == 34 || f == 47 || f == 48 || f == 71 || f == 72 || f == 74 || f == 75 || f == 76 || f == 78 || f == 79 || f == 80 || f == 132 || f == 143 || f == 157 || f == 158 || f == 159 || f == 160 || f == 162 || f == 163 || f == 164 || f == 165 || f == 166 || f == 170 || f == 172 || f == 173 || f == 178 || f == 251 || f == 252 || f == 254 || f == 255 || f == 256 || f == 257 || f == 258 || f == 259 || f == 260 || f == 262 || f == 263 || f == 270 || f == 273 || f == 274 || f == 278 || f == 289 || f == 290 || f == 291 || f == 292 || f == 295 || f == 296 || f == 304 || f == 308 || f == 309 || f == 313 || f == 314 || f == 315 || f == 316 || f == 317 || f == 319 || f == 338 || f == 339 || f == 340 || f == 354 || f == 363
def prim0 (f : FuncId) : Option (List V → List Ob → Option (V × List Ob)) := if f = 41 then some (liftP foldP) else if f = 378 then some (liftP idxP) else if f = 321 then some (liftP (primV .fbits)) else if f = 184 then some (liftP (primV .ffrom)) else if f = 322 then some (liftP (primV .sqrt)) else if f = 323 then some (liftP (primV (.integral .down))) else if f = 328 then some (liftP (primV (.integral .zero))) else none
def p0 : AP := { fn := lk tab, prim := prim0, inl := isInl, body := bods }
@[simp] theorem inl_eq0 (f : FuncId) : p0.inlY f = (f == 4000000000 || isInl f) := (rfl)
end Fz.D
set_option maxRecDepth 100000
namespace Fz.D
open Go Go.Proofs
theorem asc_all : ∀ b : Fin 256, asciiN[b.val]? = some (if isSp (UInt8.ofNat b.val) then 1 else 0) := by decide +kernel
theorem asc (b : UInt8) : asciiN[b.toNat]? = some (if isSp b then 1 else 0) := by
  have := asc_all ⟨b.toNat, b.toNat_lt⟩
  simpa using this
theorem asc_len : asciiN.length = 256 := by kernel_rfl
theorem asc1 (b : UInt8) : List.take 1 (List.drop b.toNat (asciiN.map (V.int .u8))) = [V.int .u8 (if isSp b then 1 else 0)] := by
  have h := asc b
  obtain ⟨h1, h2⟩ := List.getElem?_eq_some_iff.1 h
  rw [← List.map_drop, List.drop_eq_getElem_cons h1, h2]
  rfl
@[simp] theorem glA_pr (P : Nat → Nat → Prop) (R : List V → Prop) : wPR glA P R = R (asciiN.map (V.int .u8)) := (rfl)
theorem asc_ok (b : UInt8) : ((b.toNat : Int) < 256 ∧ b.toNat ≤ 256) ∧ 1 ≤ 256 - b.toNat := by
  have := b.toNat_lt
  omega
theorem u8_or (b : Int) (c : UInt8) (h0 : 0 ≤ b) (h1 : b < 128) (hc : c.toNat < 128) : 0 ≤ IntKind.u8.wrap ((((b % 2 ^ IntKind.u8.bits).toNat ||| c.toNat % 2 ^ IntKind.u8.bits) : Nat) : Int) ∧ IntKind.u8.wrap ((((b % 2 ^ IntKind.u8.bits).toNat ||| c.toNat % 2 ^ IntKind.u8.bits) : Nat) : Int) < 128 := by
  have e1 : (b % 2 ^ IntKind.u8.bits).toNat = b.toNat := by show (b % 256).toNat = _; omega
  have e2 : c.toNat % 2 ^ IntKind.u8.bits = c.toNat := by show c.toNat % 256 = _; omega
  have h2 : b.toNat ||| c.toNat < 2 ^ 7 := Nat.or_lt_two_pow (by omega) (by omega)
  rw [e1, e2]
  have : IntKind.u8.wrap ((b.toNat ||| c.toNat : Nat) : Int) = ((b.toNat ||| c.toNat : Nat) : Int) := by
    show ((b.toNat ||| c.toNat : Nat) : Int) % 256 = _
    omega
  rw [this]
  omega
theorem cntF_le : ∀ (l : List UInt8) (w : Bool), cntF l w ≤ l.length
  | [], _ => Nat.le_refl _
  | c :: r, w => by
    have := cntF_le r (isSp c)
    rw [cntF, List.length_cons]
    split <;> omega
theorem ext_list (l : List UInt8) (a b : Nat) : (ByteArray.mk l.toArray).extract a b = ⟨((l.drop a).take (b - a)).toArray⟩ := by
  apply ByteArray.ext
  rw [ByteArray.data_extract]
  simp
def wV (w : List UInt8) : V := .str ⟨w.toArray⟩
abbrev emp : V := .str ⟨#[]⟩
theorem tk_snoc {l : List UInt8} {fs i : Nat} (h1 : fs ≤ i) (h2 : i < l.length) : (l.drop fs).take (i + 1 - fs) = (l.drop fs).take (i - fs) ++ [l[i]] := by
  rw [show i + 1 - fs = i - fs + 1 from by omega, List.take_add_one]
  congr 1
  rw [List.getElem?_drop, show fs + (i - fs) = i from by omega, List.getElem?_eq_getElem h2]
  rfl
theorem words_no {c : UInt8} {r p : List UInt8} (h : isSp c = false) : wordsF (c :: r) p = wordsF r (p ++ [c]) := by
  rw [wordsF, if_neg (by rw [h]; exact Bool.false_ne_true)]
theorem words_sp {c : UInt8} {r p : List UInt8} (h : isSp c = true) (hp : p ≠ []) : wordsF (c :: r) p = p :: wordsF r [] := by
  cases p with
  | nil => exact absurd rfl hp
  | cons a p => rw [wordsF, if_pos h]; rfl
theorem fields_s {l : List UInt8} {n : Nat} (ha : ∀ c ∈ l, c.toNat < 128) (hs : l.length ≤ 100000) (hn : (wordsF l []).length = n) (hc : cntF l true = n) (hp : 0 < n) {Q : CR → List Ob → Prop}
    (hq : Q (.ret (.own 0 0 n 1)) [.live ((wordsF l []).map wV)]) : WFun p0 143 [.str ⟨l.toArray⟩] [] Q := by
  have hnl : n ≤ 100000 := by have := cntF_le l true; omega
  have hsz : (ByteArray.mk l.toArray).size = l.length := by simp [ByteArray.size]
  refine WFun_of w143 rfl rfl k143 ?_
  simp -dsimp [w143]
  refine xL_by (by kernel_rfl) (fun k e H => ∃ (i m : Nat) (w : Bool) (b : Int), i ≤ l.length ∧ k = l.length - i ∧ e 0 = .str ⟨l.toArray⟩ ∧ e 3 = .int .i64 m ∧ e 4 = .int .i64 (if w then 1 else 0) ∧ e 5 = .int .u8 b ∧ e 6 = .int .i64 i ∧ H = [] ∧ 0 ≤ b ∧ b < 128 ∧ m + cntF (l.drop i) w = n) l.length ?_ ?_
  · refine ⟨0, 0, true, 0, by omega, rfl, ?_⟩
    simp -dsimp [hc]
  · rintro k e H ⟨i, m, w, b, hi, hk, h0, h3, h4, h5, h6, rfl, hb0, hb1, hm⟩
    by_cases c1 : i < l.length
    · have hq1 := asc_ok l[i]
      have hq2 := asc1 l[i]
      have hor := u8_or b l[i] hb0 hb1 (ha _ (List.getElem_mem c1))
      generalize hd : IntKind.u8.wrap ((((b % 2 ^ IntKind.u8.bits).toNat ||| (l[i]).toNat % 2 ^ IntKind.u8.bits) : Nat) : Int) = d at hor
      rw [List.drop_eq_getElem_cons c1, cntF] at hm
      cases hsp : isSp l[i] <;> cases w <;> (rw [hsp] at hm hq2) <;> simp only [Bool.not_false, Bool.not_true, Bool.and_true, Bool.and_false, Bool.true_and, Bool.false_and, if_true, if_false, Bool.false_eq_true] at hm
      · simp -dsimp [h0, h3, h4, h5, h6, c1, hsz, asc_len, hq1, hq2, hsp]
        refine ⟨l.length - (i + 1), by omega, i + 1, m, false, d, by omega, rfl, ?_⟩
        simp -dsimp [h0, h3, h4, h5, h6, hd, hor]
        refine ⟨?_, rfl, Fz.w64 (by omega) (by omega), by omega⟩
        exact (Fz.w64 (by omega) (by omega) : IntKind.i64.wrap ((m : Int) + 0) = (m : Int) + 0).trans (by omega)
      · simp -dsimp [h0, h3, h4, h5, h6, c1, hsz, asc_len, hq1, hq2, hsp]
        refine ⟨l.length - (i + 1), by omega, i + 1, m + 1, false, d, by omega, rfl, ?_⟩
        simp -dsimp [h0, h3, h4, h5, h6, hd, hor]
        refine ⟨?_, rfl, Fz.w64 (by omega) (by omega), by omega⟩
        exact (Fz.w64 (by omega) (by omega) : IntKind.i64.wrap ((m : Int) + 1) = (m : Int) + 1)
      · simp -dsimp [h0, h3, h4, h5, h6, c1, hsz, asc_len, hq1, hq2, hsp]
        refine ⟨l.length - (i + 1), by omega, i + 1, m, true, d, by omega, rfl, ?_⟩
        simp -dsimp [h0, h3, h4, h5, h6, hd, hor]
        refine ⟨?_, rfl, Fz.w64 (by omega) (by omega), by omega⟩
        exact (Fz.w64 (by omega) (by omega) : IntKind.i64.wrap ((m : Int) + 0) = (m : Int) + 0).trans (by omega)
      · simp -dsimp [h0, h3, h4, h5, h6, c1, hsz, asc_len, hq1, hq2, hsp]
        refine ⟨l.length - (i + 1), by omega, i + 1, m, true, d, by omega, rfl, ?_⟩
        simp -dsimp [h0, h3, h4, h5, h6, hd, hor]
        refine ⟨?_, rfl, Fz.w64 (by omega) (by omega), by omega⟩
        exact (Fz.w64 (by omega) (by omega) : IntKind.i64.wrap ((m : Int) + 0) = (m : Int) + 0).trans (by omega)
    · have hii : i = l.length := by omega
      subst hii
      rw [List.drop_length, cntF, Nat.add_zero] at hm
      subst hm
      have c2 : ¬ (128 : Int) ≤ b := by omega
      simp -dsimp [h0, h3, h4, h5, h6, c1, hsz, c2]
      have hm0 : ¬ m = 0 := by omega
      refine ⟨by omega, ?_⟩
      rw [if_neg hm0]
      refine xL_by (by kernel_rfl) (fun k e H => ∃ (j : Nat), j ≤ l.length ∧ k = l.length - j ∧ e 0 = .str ⟨l.toArray⟩ ∧ e 9 = .own 0 0 m 1 ∧ e 10 = .int .i64 0 ∧ e 12 = .int .i64 j ∧ H = [.live (List.replicate m (.str ⟨#[]⟩))] ∧ wordsF (l.drop j) [] = wordsF l [] ∧ cntF (l.drop j) true = m) l.length ?_ ?_
      · refine ⟨0, by omega, rfl, ?_⟩
        simp -dsimp [h0, h3, hc]
      · rintro k e H ⟨j, hj, hk, h0, h9, h10, h12, rfl, hw, hcj⟩
        by_cases c3 : j < l.length
        · have hq1 := asc_ok l[j]
          have hq2 := asc1 l[j]
          cases hsp : isSp l[j]
          · rw [hsp] at hq2
            simp -dsimp [h0, h9, h10, h12, c3, hsz, asc_len, hq1, hq2, hsp]
            refine xL_by (by kernel_rfl) (fun k e H => ∃ (i fs : Nat) (acc : List (List UInt8)), fs ≤ i ∧ i ≤ l.length ∧ k = l.length - i ∧ e 0 = .str ⟨l.toArray⟩ ∧ e 9 = .own 0 0 m 1 ∧ e 10 = .int .i64 acc.length ∧ e 11 = .int .i64 fs ∧ e 12 = .int .i64 i ∧ H = [.live (acc.map wV ++ List.replicate (m - acc.length) emp)] ∧
              acc ++ wordsF (l.drop i) ((l.drop fs).take (i - fs)) = wordsF l [] ∧ acc.length + (if fs < i then 1 else 0) + cntF (l.drop i) (decide (fs = i)) = m ∧ (∀ h : i < l.length, fs = i → isSp l[i] = false)) (l.length - j) ?_ ?_
            · refine ⟨j, j, [], by omega, by omega, rfl, ?_⟩
              simp -dsimp [h0, h9, h10, h12, hw, hcj, hsp]
            rintro k e H ⟨i, fs, acc, hfi, hi, hk, h0, h9, h10, h11, h12, rfl, hw, hci, hst⟩
            by_cases c4 : i < l.length
            · have hq1 := asc_ok l[i]
              have hq2 := asc1 l[i]
              have hst := hst c4
              have hsub := List.drop_eq_getElem_cons c4
              cases hsp : isSp l[i]
              · rw [hsp] at hq2
                simp -dsimp [h0, h9, h10, h11, h12, c4, hsz, asc_len, hq1, hq2, hsp]
                refine ⟨l.length - (i + 1), by omega, i + 1, fs, acc, by omega, by omega, rfl, ?_⟩
                simp -dsimp [h0, h9, h10, h11, h12]
                rw [hsub, words_no hsp] at hw
                rw [hsub, cntF, hsp] at hci
                refine ⟨Fz.w64 (by omega) (by omega), by rw [tk_snoc hfi c4]; exact hw, ?_, by omega⟩
                rw [if_pos (by omega), decide_eq_false (by omega)]
                by_cases c5 : fs = i
                · rw [if_neg (by omega), decide_eq_true c5] at hci
                  simp at hci; omega
                · rw [if_pos (by omega), decide_eq_false c5] at hci
                  simp at hci; omega
              · rw [hsp] at hq2
                have hlt : fs < i := by
                  rcases Nat.lt_or_ge fs i with h | h
                  · exact h
                  · have := hst (by omega); rw [hsp] at this; cases this
                have hpne : (l.drop fs).take (i - fs) ≠ [] := by
                  intro h
                  have := congrArg List.length h
                  simp at this; omega
                rw [hsub, words_sp hsp hpne] at hw
                rw [hsub, cntF, hsp, if_pos hlt] at hci
                simp at hci
                have hac : acc.length < m := by omega
                have hrep : List.replicate (m - acc.length) emp = emp :: List.replicate (m - (acc.length + 1)) emp := by
                  rw [show m - acc.length = m - (acc.length + 1) + 1 from by omega]; rfl
                have w1 : IntKind.i64.wrap ((acc.length : Int) + 1) = (acc.length : Int) + 1 := Fz.w64 (by omega) (by omega)
                have w2 : IntKind.i64.wrap ((i : Int) + 1) = (i : Int) + 1 := Fz.w64 (by omega) (by omega)
                simp -dsimp [h0, h9, h10, h11, h12, c4, hsz, asc_len, hq1, hq2, hsp, w1, w2]
                refine ⟨⟨hfi, hi⟩, hac, by omega, ?_⟩
                refine xL_by (by kernel_rfl) (fun k e H => ∃ (q : Nat), i + 1 ≤ q ∧ q ≤ l.length ∧ k = l.length - q ∧ e 0 = .str ⟨l.toArray⟩ ∧ e 9 = .own 0 0 m 1 ∧ e 10 = .int .i64 ((acc.length : Int) + 1) ∧ e 12 = .int .i64 q ∧ H = [.live ((acc ++ [(l.drop fs).take (i - fs)]).map wV ++ List.replicate (m - (acc.length + 1)) emp)] ∧ wordsF (l.drop q) [] = wordsF (l.drop (i + 1)) [] ∧ cntF (l.drop q) true = cntF (l.drop (i + 1)) true) (l.length - (i + 1)) ?_ ?_
                · refine ⟨i + 1, by omega, by omega, rfl, ?_⟩
                  have hdrop : List.drop (acc.length + 1) (List.map wV acc ++ List.replicate (m - acc.length) emp) = List.replicate (m - (acc.length + 1)) emp := by
                    rw [List.drop_append, List.length_map, List.drop_eq_nil_of_le (by simp), List.nil_append, List.drop_replicate]
                    congr 1; omega
                  simp -dsimp [h0, h9, h10, h11, h12]
                  exact ⟨by rw [ext_list]; rfl, hdrop⟩
                rintro k e H ⟨q, hq, hql, hk, h0, h9, h10, h12, rfl, hwq, hcq⟩
                by_cases c6 : q < l.length
                · have hq1 := asc_ok l[q]
                  have hq2 := asc1 l[q]
                  cases hsp2 : isSp l[q]
                  · rw [hsp2] at hq2
                    simp -dsimp [h0, h9, h10, h12, c6, hsz, asc_len, hq1, hq2, hsp2]
                    refine ⟨l.length - q, by omega, q, q, acc ++ [(l.drop fs).take (i - fs)], by omega, by omega, rfl, ?_⟩
                    simp -dsimp [h0, h9, h10, h12]
                    refine ⟨?_, ?_, ?_⟩
                    · rw [hwq]; exact hw
                    · rw [hcq]; omega
                    · intro _; exact hsp2
                  · rw [hsp2] at hq2
                    rw [List.drop_eq_getElem_cons c6, cntF, hsp2] at hcq
                    rw [List.drop_eq_getElem_cons c6, wordsF, hsp2] at hwq
                    simp -dsimp [h0, h9, h10, h12, c6, hsz, asc_len, hq1, hq2, hsp2]
                    refine ⟨l.length - (q + 1), by omega, q + 1, by omega, by omega, rfl, ?_⟩
                    simp -dsimp [h0, h9, h10, h12]
                    refine ⟨Fz.w64 (by omega) (by omega), by simpa using hwq, by simpa using hcq⟩
                · simp -dsimp [h0, h9, h10, h12, c6, hsz]
                  refine ⟨l.length - q, by omega, q, q, acc ++ [(l.drop fs).take (i - fs)], by omega, by omega, rfl, ?_⟩
                  simp -dsimp [h0, h9, h10, h12]
                  refine ⟨?_, ?_, ?_⟩
                  · rw [hwq]; exact hw
                  · rw [hcq]; omega
                  · intro h; omega
            · have hii : i = l.length := by omega
              subst hii
              by_cases c5 : fs < l.length
              · rw [if_pos c5, List.drop_length, cntF] at hci
                have hpne : (l.drop fs).take (l.length - fs) ≠ [] := by
                  intro h
                  have := congrArg List.length h
                  simp at this; omega
                have hwe : wordsF [] ((l.drop fs).take (l.length - fs)) = [(l.drop fs).take (l.length - fs)] := by
                  cases hx : (l.drop fs).take (l.length - fs) with
                  | nil => exact absurd hx hpne
                  | cons a r => rfl
                rw [List.drop_length, hwe] at hw
                simp -dsimp [h0, h9, h10, h11, h12, c5, hsz]
                refine ⟨hfi, by omega, by omega, ?_⟩
                have hdrop : List.drop (acc.length + 1) (List.map wV acc ++ List.replicate (m - acc.length) emp) = [] := by
                  apply List.drop_eq_nil_of_le
                  simp; omega
                rw [hdrop, ext_list, show V.str ⟨((l.drop fs).take (l.length - fs)).toArray⟩ = wV ((l.drop fs).take (l.length - fs)) from rfl]
                rw [← hw] at hq
                simpa using hq
              · have hfe : fs = l.length := by omega
                subst hfe
                rw [if_neg (by omega), List.drop_length, cntF] at hci
                simp -dsimp [h0, h9, h10, h11, h12, c5, hsz]
                rw [List.drop_length] at hw
                rw [show m - acc.length = 0 from by omega]
                have hw' : acc = wordsF l [] := by simpa [wordsF] using hw
                rw [hw']
                simpa using hq
          · rw [hsp] at hq2
            rw [List.drop_eq_getElem_cons c3, cntF, hsp] at hcj
            rw [List.drop_eq_getElem_cons c3, wordsF, hsp] at hw
            simp -dsimp [h0, h9, h10, h12, c3, hsz, asc_len, hq1, hq2, hsp]
            refine ⟨l.length - (j + 1), by omega, j + 1, by omega, rfl, ?_⟩
            simp -dsimp [h0, h9, h10, h12]
            exact ⟨Fz.w64 (by omega) (by omega), by simpa using hw, by simpa using hcj⟩
        · obtain rfl : j = l.length := by omega
          rw [List.drop_length, cntF] at hcj
          omega
end Fz.D
set_option maxRecDepth 100000
namespace Fz.D
open Go Go.Proofs
def allB : List UInt8 := [69, 88, 73, 84, 32, 40, 76, 73, 84, 41, 32, 40, 66, 82, 65, 78, 67, 72, 41, 32, 40, 48, 66, 82, 65, 78, 67, 72, 41, 32, 40, 68, 79, 41, 32, 40, 76, 79, 79, 80, 41, 32, 40, 43, 76, 79, 79, 80, 41, 32, 40, 86, 65, 82, 41, 32, 40, 68, 79, 69, 83, 41, 32, 40, 84, 69, 88, 84, 41, 32, 40, 77, 65, 82, 75, 41, 32, 67, 79, 77, 80, 73, 76, 69, 44, 32, 68, 85, 80, 32, 68, 82, 79, 80, 32, 83, 87, 65, 80, 32, 79, 86, 69, 82, 32, 82, 79, 84, 32, 78, 73, 80, 32, 84, 85, 67, 75, 32, 63, 68, 85, 80, 32, 50, 68, 85, 80, 32, 50, 68, 82, 79, 80, 32, 50, 83, 87, 65, 80, 32, 50, 79, 86, 69, 82, 32, 80, 73, 67, 75, 32, 82, 79, 76, 76, 32, 68, 69, 80, 84, 72, 32, 43, 32, 45, 32, 42, 32, 47, 32, 77, 79, 68, 32, 47, 77, 79, 68, 32, 42, 47, 32, 42, 47, 77, 79, 68, 32, 49, 43, 32, 49, 45, 32, 50, 42, 32, 50, 47, 32, 78, 69, 71, 65, 84, 69, 32, 65, 66, 83, 32, 77, 73, 78, 32, 77, 65, 88, 32, 65, 78, 68, 32, 79, 82, 32, 88, 79, 82, 32, 73, 78, 86, 69, 82, 84, 32, 76, 83, 72, 73, 70, 84, 32, 82, 83, 72, 73, 70, 84, 32, 61, 32, 60, 62, 32, 60, 32, 62, 32, 85, 60, 32, 48, 61, 32, 48, 60, 32, 48, 60, 62, 32, 48, 62, 32, 87, 73, 84, 72, 73, 78, 32, 84, 82, 85, 69, 32, 70, 65, 76, 83, 69, 32, 67, 69, 76, 76, 83, 32, 67, 69, 76, 76, 43, 32, 70, 43, 32, 70, 45, 32, 70, 42, 32, 70, 47, 32, 70, 77, 73, 78, 32, 70, 77, 65, 88, 32, 70, 78, 69, 71, 65, 84, 69, 32, 70, 65, 66, 83, 32, 70, 83, 81, 82, 84, 32, 70, 76, 79, 79, 82, 32, 70, 60, 32, 70, 61, 32, 83, 62, 70, 32, 70, 62, 83, 32, 64, 32, 33, 32, 43, 33, 32, 67, 64, 32, 67, 33, 32, 72, 69, 82, 69, 32, 65, 76, 76, 79, 84, 32, 44, 32, 67, 44, 32, 65, 76, 73, 71, 78, 32, 66, 65, 83, 69, 32, 68, 69, 67, 73, 77, 65, 76, 32, 72, 69, 88, 32, 62, 82, 32, 82, 62, 32, 82, 64, 32, 73, 32, 74, 32, 85, 78, 76, 79, 79, 80, 32, 76, 69, 65, 86, 69, 32, 73, 70, 32, 69, 76, 83, 69, 32, 84, 72, 69, 78, 32, 66, 69, 71, 73, 78, 32, 65, 71, 65, 73, 78, 32, 85, 78, 84, 73, 76, 32, 87, 72, 73, 76, 69, 32, 82, 69, 80, 69, 65, 84, 32, 68, 79, 32, 76, 79, 79, 80, 32, 43, 76, 79, 79, 80, 32, 82, 69, 67, 85, 82, 83, 69, 32, 58, 32, 59, 32, 73, 77, 77, 69, 68, 73, 65, 84, 69, 32, 67, 79, 78, 83, 84, 65, 78, 84, 32, 86, 65, 82, 73, 65, 66, 76, 69, 32, 67, 82, 69, 65, 84, 69, 32, 68, 79, 69, 83, 62, 32, 77, 65, 82, 75, 69, 82, 32, 39, 32, 91, 39, 93, 32, 76, 73, 84, 69, 82, 65, 76, 32, 80, 79, 83, 84, 80, 79, 78, 69, 32, 91, 32, 93, 32, 69, 88, 69, 67, 85, 84, 69, 32, 67, 72, 65, 82, 32, 91, 67, 72, 65, 82, 93, 32, 40, 32, 92, 32, 46, 34, 32, 69, 77, 73, 84, 32, 67, 82, 32, 83, 80, 65, 67, 69, 32, 46, 32, 84, 89, 80, 69, 32, 75, 69, 89, 32, 84, 72, 82, 79, 87, 32, 65, 66, 79, 82, 84]
def ctlB : List UInt8 := [73, 70, 32, 69, 76, 83, 69, 32, 84, 72, 69, 78, 32, 66, 69, 71, 73, 78, 32, 65, 71, 65, 73, 78, 32, 85, 78, 84, 73, 76, 32, 87, 72, 73, 76, 69, 32, 82, 69, 80, 69, 65, 84, 32, 68, 79, 32, 76, 79, 79, 80, 32, 43, 76, 79, 79, 80, 32, 82, 69, 67, 85, 82, 83, 69, 32, 59, 32, 68, 79, 69, 83, 62, 32, 91, 39, 93, 32, 76, 73, 84, 69, 82, 65, 76, 32, 80, 79, 83, 84, 80, 79, 78, 69, 32, 91, 67, 72, 65, 82, 93]
def opsL : List (List UInt8) := [[69, 88, 73, 84], [40, 76, 73, 84, 41], [40, 66, 82, 65, 78, 67, 72, 41], [40, 48, 66, 82, 65, 78, 67, 72, 41], [40, 68, 79, 41], [40, 76, 79, 79, 80, 41], [40, 43, 76, 79, 79, 80, 41], [40, 86, 65, 82, 41], [40, 68, 79, 69, 83, 41], [40, 84, 69, 88, 84, 41], [40, 77, 65, 82, 75, 41], [67, 79, 77, 80, 73, 76, 69, 44], [68, 85, 80], [68, 82, 79, 80], [83, 87, 65, 80], [79, 86, 69, 82], [82, 79, 84], [78, 73, 80], [84, 85, 67, 75], [63, 68, 85, 80], [50, 68, 85, 80], [50, 68, 82, 79, 80], [50, 83, 87, 65, 80], [50, 79, 86, 69, 82], [80, 73, 67, 75], [82, 79, 76, 76], [68, 69, 80, 84, 72], [43], [45], [42], [47], [77, 79, 68], [47, 77, 79, 68], [42, 47], [42, 47, 77, 79, 68], [49, 43], [49, 45], [50, 42], [50, 47], [78, 69, 71, 65, 84, 69], [65, 66, 83], [77, 73, 78], [77, 65, 88], [65, 78, 68], [79, 82], [88, 79, 82], [73, 78, 86, 69, 82, 84], [76, 83, 72, 73, 70, 84], [82, 83, 72, 73, 70, 84], [61], [60, 62], [60], [62], [85, 60], [48, 61], [48, 60], [48, 60, 62], [48, 62], [87, 73, 84, 72, 73, 78], [84, 82, 85, 69], [70, 65, 76, 83, 69], [67, 69, 76, 76, 83], [67, 69, 76, 76, 43], [70, 43], [70, 45], [70, 42], [70, 47], [70, 77, 73, 78], [70, 77, 65, 88], [70, 78, 69, 71, 65, 84, 69], [70, 65, 66, 83], [70, 83, 81, 82, 84], [70, 76, 79, 79, 82], [70, 60], [70, 61], [83, 62, 70], [70, 62, 83], [64], [33], [43, 33], [67, 64], [67, 33], [72, 69, 82, 69], [65, 76, 76, 79, 84], [44], [67, 44], [65, 76, 73, 71, 78], [66, 65, 83, 69], [68, 69, 67, 73, 77, 65, 76], [72, 69, 88], [62, 82], [82, 62], [82, 64], [73], [74], [85, 78, 76, 79, 79, 80], [76, 69, 65, 86, 69], [73, 70], [69, 76, 83, 69], [84, 72, 69, 78], [66, 69, 71, 73, 78], [65, 71, 65, 73, 78], [85, 78, 84, 73, 76], [87, 72, 73, 76, 69], [82, 69, 80, 69, 65, 84], [68, 79], [76, 79, 79, 80], [43, 76, 79, 79, 80], [82, 69, 67, 85, 82, 83, 69], [58], [59], [73, 77, 77, 69, 68, 73, 65, 84, 69], [67, 79, 78, 83, 84, 65, 78, 84], [86, 65, 82, 73, 65, 66, 76, 69], [67, 82, 69, 65, 84, 69], [68, 79, 69, 83, 62], [77, 65, 82, 75, 69, 82], [39], [91, 39, 93], [76, 73, 84, 69, 82, 65, 76], [80, 79, 83, 84, 80, 79, 78, 69], [91], [93], [69, 88, 69, 67, 85, 84, 69], [67, 72, 65, 82], [91, 67, 72, 65, 82, 93], [40], [92], [46, 34], [69, 77, 73, 84], [67, 82], [83, 80, 65, 67, 69], [46], [84, 89, 80, 69], [75, 69, 89], [84, 72, 82, 79, 87], [65, 66, 79, 82, 84]]
def ctlL : List (List UInt8) := [[73, 70], [69, 76, 83, 69], [84, 72, 69, 78], [66, 69, 71, 73, 78], [65, 71, 65, 73, 78], [85, 78, 84, 73, 76], [87, 72, 73, 76, 69], [82, 69, 80, 69, 65, 84], [68, 79], [76, 79, 79, 80], [43, 76, 79, 79, 80], [82, 69, 67, 85, 82, 83, 69], [59], [68, 79, 69, 83, 62], [91, 39, 93], [76, 73, 84, 69, 82, 65, 76], [80, 79, 83, 84, 80, 79, 78, 69], [91, 67, 72, 65, 82, 93]]
theorem allB_w : wordsF allB [] = opsL := by kernel_rfl
theorem allB_a : ∀ c ∈ allB, c.toNat < 128 := by decide +kernel
theorem ren_wV (g : Nat → Nat) : ∀ l : List (List UInt8), renL g (l.map wV) = l.map wV
  | [] => rfl
  | a :: r => by rw [List.map_cons, renL, ren_wV g r]; rfl
theorem refs_wV : ∀ l : List (List UInt8), refsL (l.map wV) = []
  | [] => rfl
  | a :: r => by rw [List.map_cons, refsL, refs_wV r]; rfl
theorem list_run : WFun p0 39 [] [] fun r H => r = .ret (.own 0 0 137 1) ∧ H = [.live (opsL.map wV)] := by
  refine WFun_of w39 rfl rfl k39 ?_
  simp -dsimp [w39]
  refine WCall_inl (ids := []) rfl rfl ?_
  refine fields_s (l := allB) (n := 137) allB_a (by decide +kernel) (by rw [allB_w]; kernel_rfl) (by kernel_rfl) (by decide) ?_
  have k0 : backK [] 0 0 = 0 := by simp [backK]
  simp -dsimp [allB_w, backH, setAll, renR, renOb, crV, refs, refsL, renL, ren, ren_wV, refs_wV, k0]
def laidP (l : List (List UInt8)) : List V → List Ob → Option (V × List Ob)
  | [], [] => some (.own 0 0 l.length 1, [.live (l.map wV)])
  | _, _ => none
def prim1 (f : FuncId) : Option (List V → List Ob → Option (V × List Ob)) := if f = 39 then some (laidP opsL) else prim0 f
def p1 : AP := { fn := lk tab, prim := prim1, inl := isInl, body := bods }
@[simp] theorem inl_eq1 (f : FuncId) : p1.inlY f = (f == 4000000000 || isInl f) := (rfl)
theorem fn_ok (f : FuncId) (af : AFun) (h : lk tab f = some af) : cFun Tryz.prog f = some af.erase := tab_ok _ (lk_mem _ _ _ h)
end Fz.D
set_option maxRecDepth 100000
namespace Fz.D
open Go Go.Proofs
def p : AP := p1
@[simp] theorem inl_eq (f : FuncId) : p.inlY f = (f == 4000000000 || isInl f) := (rfl)
def isTrue : Option (CR × List Ob) → Bool
  | some (.ret (.bool b), _) => b
  | _ => false
theorem isTrue_ok {r : Option (CR × List Ob)} (h : isTrue r = true) : ∃ H, r = some (.ret (.bool true), H) := by
  unfold isTrue at h
  split at h
  · subst h; exact ⟨_, rfl⟩
  · cases h
theorem awake13 : isTrue (acall p1 1000 23 [] []) = true := by kernel_rfl
end Fz.D
set_option maxRecDepth 100000
namespace Fz.D
open Go
def byV (b : List Int) : V := .list (b.map (V.int .u8)) false
@[simp] theorem byV.gd (b : List Int) : ground (byV b) = true := by simp [byV]
@[simp] theorem byV.gk (b : List Int) (k : Nat) : gk (k + 1) (byV b) = true := by simp [byV]
@[simp] theorem byV.nr (b : List Int) : nrm (byV b) = byV b := by simp [byV]
@[simp] theorem byV.nrc : nrm ∘ byV = byV := funext fun x => byV.nr x
@[simp] theorem byV.nm (b : List Int) : nm (byV b) = true := by simp [byV]
@[simp] theorem byV.any (b : List Int) : isAny (byV b) = false := rfl
@[simp] theorem byV.cells (b : List Int) : cellsOf (byV b) = [byV b] := rfl
@[simp] theorem byV.st (b : List Int) : storable (byV b) = true := rfl
@[simp] theorem byV.lf (b : List Int) : leafy (byV b) = true := rfl
@[simp] theorem byV.uni (l : List (List Int)) : uni 1 (l.map byV) = true := uni_map fun _ => rfl
@[simp] theorem byV.flat (l : List (List Int)) : flat (l.map byV) = l.map byV := flat_one fun _ => rfl
@[simp] theorem byV.sl (b : List Int) (L : List V → Bool → Prop) (O : Nat → Nat → Nat → Nat → Prop) : wSl (byV b) L O = L (b.map (V.int .u8)) false := (rfl)
@[simp] theorem byV.el (b : List Int) (H : List Ob) (n : Nat) (K : List V → Nat → Prop) : xElems H n (byV b) K = xElems H n (.list (b.map (V.int .u8)) false) K := (rfl)
@[simp] theorem byV.xs (b : List Int) (H : List Ob) (n : Nat) (lo hi mx : Option V) (K : V → Prop) : xSlice H (.sl n) (byV b) lo hi mx K = xSlice H (.sl n) (.list (b.map (V.int .u8)) false) lo hi mx K := (rfl)
def inV (b : List Int) : V := .list (b.map (V.int .i64)) false
@[simp] theorem inV.gd (b : List Int) : ground (inV b) = true := by simp [inV]
@[simp] theorem inV.gk (b : List Int) (k : Nat) : gk (k + 1) (inV b) = true := by simp [inV]
@[simp] theorem inV.nr (b : List Int) : nrm (inV b) = inV b := by simp [inV]
@[simp] theorem inV.nrc : nrm ∘ inV = inV := funext fun x => inV.nr x
@[simp] theorem inV.nm (b : List Int) : nm (inV b) = true := by simp [inV]
@[simp] theorem inV.any (b : List Int) : isAny (inV b) = false := rfl
@[simp] theorem inV.cells (b : List Int) : cellsOf (inV b) = [inV b] := rfl
@[simp] theorem inV.st (b : List Int) : storable (inV b) = true := rfl
@[simp] theorem inV.lf (b : List Int) : leafy (inV b) = true := rfl
@[simp] theorem inV.uni (l : List (List Int)) : uni 1 (l.map inV) = true := uni_map fun _ => rfl
@[simp] theorem inV.flat (l : List (List Int)) : flat (l.map inV) = l.map inV := flat_one fun _ => rfl
@[simp] theorem inV.sl (b : List Int) (L : List V → Bool → Prop) (O : Nat → Nat → Nat → Nat → Prop) : wSl (inV b) L O = L (b.map (V.int .i64)) false := (rfl)
@[simp] theorem inV.el (b : List Int) (H : List Ob) (n : Nat) (K : List V → Nat → Prop) : xElems H n (inV b) K = xElems H n (.list (b.map (V.int .i64)) false) K := (rfl)
@[simp] theorem inV.xs (b : List Int) (H : List Ob) (n : Nat) (lo hi mx : Option V) (K : V → Prop) : xSlice H (.sl n) (inV b) lo hi mx K = xSlice H (.sl n) (.list (b.map (V.int .i64)) false) lo hi mx K := (rfl)
structure Slo where
  v : Int
  call : Bool
deriving Inhabited, DecidableEq
structure Wor where
  name : ByteArray
  code : Int
  now : Bool
  hid : Bool
deriving Inhabited
structure Spo where
  addr : Int
  at_ : Int
deriving Inhabited, DecidableEq
structure Rn where
  at_ : Int
  b : List Int
deriving Inhabited, DecidableEq
def sloV (s : Slo) : V := .agg [.int .i64 s.v, .bool s.call]
@[simp] theorem sloV.gd (s : Slo) : ground (sloV s) = true := by simp [sloV]
@[simp] theorem sloV.gk (s : Slo) (k : Nat) : gk (k + 2) (sloV s) = true := by simp [sloV]
@[simp] theorem sloV.nr (s : Slo) : nrm (sloV s) = sloV s := by simp [sloV]
@[simp] theorem sloV.nrc : nrm ∘ sloV = sloV := funext fun x => sloV.nr x
@[simp] theorem sloV.nm (s : Slo) : nm (sloV s) = true := by simp [sloV]
@[simp] theorem sloV.any (s : Slo) : isAny (sloV s) = false := rfl
@[simp] theorem sloV.cells (s : Slo) : cellsOf (sloV s) = [.int .i64 s.v, .bool s.call] := rfl
@[simp] theorem sloV.uni (l : List (Slo)) : uni 2 (l.map sloV) = true := uni_map fun _ => rfl
@[simp] theorem sloV.flat (l : List (Slo)) : flat (l.map sloV) = l.flatMap fun s => [.int .i64 s.v, .bool s.call] := by rw [flat_map]; rfl
def worV (s : Wor) : V := .agg [.str s.name, .int .i64 s.code, .bool s.now, .bool s.hid]
@[simp] theorem worV.gd (s : Wor) : ground (worV s) = true := by simp [worV]
@[simp] theorem worV.gk (s : Wor) (k : Nat) : gk (k + 2) (worV s) = true := by simp [worV]
@[simp] theorem worV.nr (s : Wor) : nrm (worV s) = worV s := by simp [worV]
@[simp] theorem worV.nrc : nrm ∘ worV = worV := funext fun x => worV.nr x
@[simp] theorem worV.nm (s : Wor) : nm (worV s) = true := by simp [worV]
@[simp] theorem worV.any (s : Wor) : isAny (worV s) = false := rfl
@[simp] theorem worV.cells (s : Wor) : cellsOf (worV s) = [.str s.name, .int .i64 s.code, .bool s.now, .bool s.hid] := rfl
@[simp] theorem worV.uni (l : List (Wor)) : uni 4 (l.map worV) = true := uni_map fun _ => rfl
@[simp] theorem worV.flat (l : List (Wor)) : flat (l.map worV) = l.flatMap fun s => [.str s.name, .int .i64 s.code, .bool s.now, .bool s.hid] := by rw [flat_map]; rfl
def spoV (s : Spo) : V := .agg [.int .i64 s.addr, .int .i64 s.at_]
@[simp] theorem spoV.gd (s : Spo) : ground (spoV s) = true := by simp [spoV]
@[simp] theorem spoV.gk (s : Spo) (k : Nat) : gk (k + 2) (spoV s) = true := by simp [spoV]
@[simp] theorem spoV.nr (s : Spo) : nrm (spoV s) = spoV s := by simp [spoV]
@[simp] theorem spoV.nrc : nrm ∘ spoV = spoV := funext fun x => spoV.nr x
@[simp] theorem spoV.nm (s : Spo) : nm (spoV s) = true := by simp [spoV]
@[simp] theorem spoV.any (s : Spo) : isAny (spoV s) = false := rfl
@[simp] theorem spoV.cells (s : Spo) : cellsOf (spoV s) = [.int .i64 s.addr, .int .i64 s.at_] := rfl
@[simp] theorem spoV.uni (l : List (Spo)) : uni 2 (l.map spoV) = true := uni_map fun _ => rfl
@[simp] theorem spoV.flat (l : List (Spo)) : flat (l.map spoV) = l.flatMap fun s => [.int .i64 s.addr, .int .i64 s.at_] := by rw [flat_map]; rfl
def runV (s : Rn) : V := .agg [.int .i64 s.at_, byV s.b]
@[simp] theorem runV.gd (s : Rn) : ground (runV s) = true := by simp [runV]
@[simp] theorem runV.gk (s : Rn) (k : Nat) : gk (k + 2) (runV s) = true := by simp [runV]
@[simp] theorem runV.nr (s : Rn) : nrm (runV s) = runV s := by simp [runV]
@[simp] theorem runV.nrc : nrm ∘ runV = runV := funext fun x => runV.nr x
@[simp] theorem runV.nm (s : Rn) : nm (runV s) = true := by simp [runV]
@[simp] theorem runV.any (s : Rn) : isAny (runV s) = false := rfl
@[simp] theorem runV.cells (s : Rn) : cellsOf (runV s) = [.int .i64 s.at_, byV s.b] := rfl
@[simp] theorem runV.uni (l : List (Rn)) : uni 2 (l.map runV) = true := uni_map fun _ => rfl
@[simp] theorem runV.flat (l : List (Rn)) : flat (l.map runV) = l.flatMap fun s => [.int .i64 s.at_, byV s.b] := by rw [flat_map]; rfl
def slosV (l : List Slo) : V := .list (l.map sloV) false
@[simp] theorem slosV.gd (l : List Slo) : ground (slosV l) = true := by simp [slosV]
@[simp] theorem slosV.gk (l : List Slo) (k : Nat) : gk (k + 1) (slosV l) = true := by simp [slosV]
@[simp] theorem slosV.nr (l : List Slo) : nrm (slosV l) = slosV l := by simp [slosV]
@[simp] theorem slosV.nrc : nrm ∘ slosV = slosV := funext fun x => slosV.nr x
@[simp] theorem slosV.nm (l : List Slo) : nm (slosV l) = true := by simp [slosV]
@[simp] theorem slosV.any (l : List Slo) : isAny (slosV l) = false := rfl
@[simp] theorem slosV.cells (l : List Slo) : cellsOf (slosV l) = [slosV l] := rfl
@[simp] theorem slosV.st (l : List Slo) : storable (slosV l) = true := rfl
@[simp] theorem slosV.lf (l : List Slo) : leafy (slosV l) = true := rfl
@[simp] theorem slosV.uni (l : List (List Slo)) : uni 1 (l.map slosV) = true := uni_map fun _ => rfl
@[simp] theorem slosV.flat (l : List (List Slo)) : flat (l.map slosV) = l.map slosV := flat_one fun _ => rfl
@[simp] theorem slosV.sl (l : List Slo) (L : List V → Bool → Prop) (O : Nat → Nat → Nat → Nat → Prop) : wSl (slosV l) L O = L (l.map sloV) false := (rfl)
@[simp] theorem slosV.el (l : List Slo) (H : List Ob) (n : Nat) (K : List V → Nat → Prop) : xElems H n (slosV l) K = xElems H n (.list (l.map sloV) false) K := (rfl)
@[simp] theorem slosV.xs (l : List Slo) (H : List Ob) (n : Nat) (lo hi mx : Option V) (K : V → Prop) : xSlice H (.sl n) (slosV l) lo hi mx K = xSlice H (.sl n) (.list (l.map sloV) false) lo hi mx K := (rfl)
def worsV (l : List Wor) : V := .list (l.map worV) false
@[simp] theorem worsV.gd (l : List Wor) : ground (worsV l) = true := by simp [worsV]
@[simp] theorem worsV.gk (l : List Wor) (k : Nat) : gk (k + 1) (worsV l) = true := by simp [worsV]
@[simp] theorem worsV.nr (l : List Wor) : nrm (worsV l) = worsV l := by simp [worsV]
@[simp] theorem worsV.nrc : nrm ∘ worsV = worsV := funext fun x => worsV.nr x
@[simp] theorem worsV.nm (l : List Wor) : nm (worsV l) = true := by simp [worsV]
@[simp] theorem worsV.any (l : List Wor) : isAny (worsV l) = false := rfl
@[simp] theorem worsV.cells (l : List Wor) : cellsOf (worsV l) = [worsV l] := rfl
@[simp] theorem worsV.st (l : List Wor) : storable (worsV l) = true := rfl
@[simp] theorem worsV.lf (l : List Wor) : leafy (worsV l) = true := rfl
@[simp] theorem worsV.uni (l : List (List Wor)) : uni 1 (l.map worsV) = true := uni_map fun _ => rfl
@[simp] theorem worsV.flat (l : List (List Wor)) : flat (l.map worsV) = l.map worsV := flat_one fun _ => rfl
@[simp] theorem worsV.sl (l : List Wor) (L : List V → Bool → Prop) (O : Nat → Nat → Nat → Nat → Prop) : wSl (worsV l) L O = L (l.map worV) false := (rfl)
@[simp] theorem worsV.el (l : List Wor) (H : List Ob) (n : Nat) (K : List V → Nat → Prop) : xElems H n (worsV l) K = xElems H n (.list (l.map worV) false) K := (rfl)
@[simp] theorem worsV.xs (l : List Wor) (H : List Ob) (n : Nat) (lo hi mx : Option V) (K : V → Prop) : xSlice H (.sl n) (worsV l) lo hi mx K = xSlice H (.sl n) (.list (l.map worV) false) lo hi mx K := (rfl)
def sposV (l : List Spo) : V := .list (l.map spoV) false
@[simp] theorem sposV.gd (l : List Spo) : ground (sposV l) = true := by simp [sposV]
@[simp] theorem sposV.gk (l : List Spo) (k : Nat) : gk (k + 1) (sposV l) = true := by simp [sposV]
@[simp] theorem sposV.nr (l : List Spo) : nrm (sposV l) = sposV l := by simp [sposV]
@[simp] theorem sposV.nrc : nrm ∘ sposV = sposV := funext fun x => sposV.nr x
@[simp] theorem sposV.nm (l : List Spo) : nm (sposV l) = true := by simp [sposV]
@[simp] theorem sposV.any (l : List Spo) : isAny (sposV l) = false := rfl
@[simp] theorem sposV.cells (l : List Spo) : cellsOf (sposV l) = [sposV l] := rfl
@[simp] theorem sposV.st (l : List Spo) : storable (sposV l) = true := rfl
@[simp] theorem sposV.lf (l : List Spo) : leafy (sposV l) = true := rfl
@[simp] theorem sposV.uni (l : List (List Spo)) : uni 1 (l.map sposV) = true := uni_map fun _ => rfl
@[simp] theorem sposV.flat (l : List (List Spo)) : flat (l.map sposV) = l.map sposV := flat_one fun _ => rfl
@[simp] theorem sposV.sl (l : List Spo) (L : List V → Bool → Prop) (O : Nat → Nat → Nat → Nat → Prop) : wSl (sposV l) L O = L (l.map spoV) false := (rfl)
@[simp] theorem sposV.el (l : List Spo) (H : List Ob) (n : Nat) (K : List V → Nat → Prop) : xElems H n (sposV l) K = xElems H n (.list (l.map spoV) false) K := (rfl)
@[simp] theorem sposV.xs (l : List Spo) (H : List Ob) (n : Nat) (lo hi mx : Option V) (K : V → Prop) : xSlice H (.sl n) (sposV l) lo hi mx K = xSlice H (.sl n) (.list (l.map spoV) false) lo hi mx K := (rfl)
def runsV (l : List Rn) : V := .list (l.map runV) false
@[simp] theorem runsV.gd (l : List Rn) : ground (runsV l) = true := by simp [runsV]
@[simp] theorem runsV.gk (l : List Rn) (k : Nat) : gk (k + 1) (runsV l) = true := by simp [runsV]
@[simp] theorem runsV.nr (l : List Rn) : nrm (runsV l) = runsV l := by simp [runsV]
@[simp] theorem runsV.nrc : nrm ∘ runsV = runsV := funext fun x => runsV.nr x
@[simp] theorem runsV.nm (l : List Rn) : nm (runsV l) = true := by simp [runsV]
@[simp] theorem runsV.any (l : List Rn) : isAny (runsV l) = false := rfl
@[simp] theorem runsV.cells (l : List Rn) : cellsOf (runsV l) = [runsV l] := rfl
@[simp] theorem runsV.st (l : List Rn) : storable (runsV l) = true := rfl
@[simp] theorem runsV.lf (l : List Rn) : leafy (runsV l) = true := rfl
@[simp] theorem runsV.uni (l : List (List Rn)) : uni 1 (l.map runsV) = true := uni_map fun _ => rfl
@[simp] theorem runsV.flat (l : List (List Rn)) : flat (l.map runsV) = l.map runsV := flat_one fun _ => rfl
@[simp] theorem runsV.sl (l : List Rn) (L : List V → Bool → Prop) (O : Nat → Nat → Nat → Nat → Prop) : wSl (runsV l) L O = L (l.map runV) false := (rfl)
@[simp] theorem runsV.el (l : List Rn) (H : List Ob) (n : Nat) (K : List V → Nat → Prop) : xElems H n (runsV l) K = xElems H n (.list (l.map runV) false) K := (rfl)
@[simp] theorem runsV.xs (l : List Rn) (H : List Ob) (n : Nat) (lo hi mx : Option V) (K : V → Prop) : xSlice H (.sl n) (runsV l) lo hi mx K = xSlice H (.sl n) (.list (l.map runV) false) lo hi mx K := (rfl)
structure St where
  mem : List Int
  data : List Int
  ret : List Slo
  ctl : List Int
  words : List Wor
  spots : List Spo
  out : List Int
  ip : Int
  here : Int
  at_ : Int
  tok : Int
  in_ : Int
  err : Int
  comp : Bool
  halt : Bool
deriving Inhabited
structure De where
  mem : List Rn
  dk : Int
  dt : List Int
  rk : Int
  rt : List Slo
  ck : Int
  ct : List Int
  wk : Int
  wt : List Wor
  sk : Int
  st : List Spo
  out : Int
  r0 : Int
  r1 : Int
  r2 : Int
  r3 : Int
  r4 : Int
  r5 : Int
  comp : Bool
  halt : Bool
deriving Inhabited
def stV (s : St) : V := .agg [byV s.mem, inV s.data, slosV s.ret, inV s.ctl, worsV s.words, sposV s.spots, byV s.out, .int .i64 s.ip, .int .i64 s.here, .int .i64 s.at_, .int .i64 s.tok, .int .i64 s.in_, .int .i64 s.err, .bool s.comp, .bool s.halt]
@[simp] theorem stV.gd (s : St) : ground (stV s) = true := by simp [stV]
@[simp] theorem stV.gk (s : St) (k : Nat) : gk (k + 2) (stV s) = true := by simp [stV]
@[simp] theorem stV.nr (s : St) : nrm (stV s) = stV s := by simp [stV]
@[simp] theorem stV.nrc : nrm ∘ stV = stV := funext fun x => stV.nr x
@[simp] theorem stV.nm (s : St) : nm (stV s) = true := by simp [stV]
@[simp] theorem stV.any (s : St) : isAny (stV s) = false := rfl
@[simp] theorem stV.cells (s : St) : cellsOf (stV s) = [byV s.mem, inV s.data, slosV s.ret, inV s.ctl, worsV s.words, sposV s.spots, byV s.out, .int .i64 s.ip, .int .i64 s.here, .int .i64 s.at_, .int .i64 s.tok, .int .i64 s.in_, .int .i64 s.err, .bool s.comp, .bool s.halt] := rfl
@[simp] theorem stV.uni (l : List (St)) : uni 15 (l.map stV) = true := uni_map fun _ => rfl
@[simp] theorem stV.flat (l : List (St)) : flat (l.map stV) = l.flatMap fun s => [byV s.mem, inV s.data, slosV s.ret, inV s.ctl, worsV s.words, sposV s.spots, byV s.out, .int .i64 s.ip, .int .i64 s.here, .int .i64 s.at_, .int .i64 s.tok, .int .i64 s.in_, .int .i64 s.err, .bool s.comp, .bool s.halt] := by rw [flat_map]; rfl
def deV (d : De) : V := .agg [runsV d.mem, .int .i64 d.dk, inV d.dt, .int .i64 d.rk, slosV d.rt, .int .i64 d.ck, inV d.ct, .int .i64 d.wk, worsV d.wt, .int .i64 d.sk, sposV d.st, .int .i64 d.out, .int .i64 d.r0, .int .i64 d.r1, .int .i64 d.r2, .int .i64 d.r3, .int .i64 d.r4, .int .i64 d.r5, .bool d.comp, .bool d.halt]
@[simp] theorem deV.gd (d : De) : ground (deV d) = true := by simp [deV]
@[simp] theorem deV.gk (d : De) (k : Nat) : gk (k + 2) (deV d) = true := by simp [deV]
@[simp] theorem deV.nr (d : De) : nrm (deV d) = deV d := by simp [deV]
@[simp] theorem deV.nrc : nrm ∘ deV = deV := funext fun x => deV.nr x
@[simp] theorem deV.nm (d : De) : nm (deV d) = true := by simp [deV]
@[simp] theorem deV.any (d : De) : isAny (deV d) = false := rfl
@[simp] theorem deV.cells (d : De) : cellsOf (deV d) = [runsV d.mem, .int .i64 d.dk, inV d.dt, .int .i64 d.rk, slosV d.rt, .int .i64 d.ck, inV d.ct, .int .i64 d.wk, worsV d.wt, .int .i64 d.sk, sposV d.st, .int .i64 d.out, .int .i64 d.r0, .int .i64 d.r1, .int .i64 d.r2, .int .i64 d.r3, .int .i64 d.r4, .int .i64 d.r5, .bool d.comp, .bool d.halt] := rfl
@[simp] theorem deV.uni (l : List (De)) : uni 20 (l.map deV) = true := uni_map fun _ => rfl
@[simp] theorem deV.flat (l : List (De)) : flat (l.map deV) = l.flatMap fun d => [runsV d.mem, .int .i64 d.dk, inV d.dt, .int .i64 d.rk, slosV d.rt, .int .i64 d.ck, inV d.ct, .int .i64 d.wk, worsV d.wt, .int .i64 d.sk, sposV d.st, .int .i64 d.out, .int .i64 d.r0, .int .i64 d.r1, .int .i64 d.r2, .int .i64 d.r3, .int .i64 d.r4, .int .i64 d.r5, .bool d.comp, .bool d.halt] := by rw [flat_map]; rfl
end Fz.D
set_option maxRecDepth 100000
namespace Fz.D
open Go
def i64 (a : Int) : Prop := -9223372036854775808 ≤ a ∧ a ≤ 9223372036854775807
def nmB (s : ByteArray) : List Int := s.data.toList.map fun b => (b.toNat : Int)
theorem int_beq (a b : Int) : (a == b) = decide (a = b) := rfl
def inQ (a b : Int) : Bool := decide (a = b)
def sloQ (a b : Slo) : Bool := decide (a.v = b.v) && (a.call == b.call)
def worQ (a b : Wor) : Bool := decide (a.name = b.name) && (decide (a.code = b.code) && ((a.now == b.now) && (a.hid == b.hid)))
def spoQ (a b : Spo) : Bool := decide (a.addr = b.addr) && decide (a.at_ = b.at_)
theorem slo_leaves (a b : Slo) : eqLeaves [.int .i64 a.v, .bool a.call] [.int .i64 b.v, .bool b.call] [(0, .int), (1, .bool)] = some (sloQ a b) := by
  unfold sloQ
  simp only [eqLeaves, leafEq, List.getElem?_cons_zero, List.getElem?_cons_succ, if_true, int_beq]
  cases decide (a.v = b.v) <;> cases (a.call == b.call) <;> rfl
theorem wor_leaves (a b : Wor) : eqLeaves [.str a.name, .int .i64 a.code, .bool a.now, .bool a.hid] [.str b.name, .int .i64 b.code, .bool b.now, .bool b.hid] [(0, .str), (1, .int), (2, .bool), (3, .bool)] = some (worQ a b) := by
  unfold worQ
  simp only [eqLeaves, leafEq, List.getElem?_cons_zero, List.getElem?_cons_succ, if_true, int_beq, bytes_beq]
  cases decide (a.name = b.name) <;> cases decide (a.code = b.code) <;> cases (a.now == b.now) <;> cases (a.hid == b.hid) <;> rfl
theorem spo_leaves (a b : Spo) : eqLeaves [.int .i64 a.addr, .int .i64 a.at_] [.int .i64 b.addr, .int .i64 b.at_] [(0, .int), (1, .int)] = some (spoQ a b) := by
  unfold spoQ
  simp only [eqLeaves, leafEq, List.getElem?_cons_zero, List.getElem?_cons_succ, if_true, int_beq]
  cases decide (a.addr = b.addr) <;> cases decide (a.at_ = b.at_) <;> rfl
structure StLen (s : St) : Prop where
  mem : s.mem.length ≤ 100000
  data : s.data.length ≤ 100000
  ret : s.ret.length ≤ 100000
  ctl : s.ctl.length ≤ 100000
  words : s.words.length ≤ 100000
  spots : s.spots.length ≤ 100000
  out : s.out.length ≤ 100000000
def by8 (b : List Int) : Prop := ∀ x ∈ b, 0 ≤ x ∧ x < 256
def bstr (b : List Int) : ByteArray := bytesV (b.map (V.int .u8))
theorem all8 {b : List Int} (h : by8 b) : allU8 (b.map (V.int .u8)) = true := by
  unfold allU8
  rw [List.all_map, List.all_eq_true]
  intro x hx
  have := h x hx
  simp [this.1, this.2]
def u8f (x : Int) : UInt8 := x.toNat.toUInt8
def fewB (s : St) : Bool := (s.words.take 41).all (fun w => decide (w.name.size ≤ 60)) && (decide (s.mem.length ≤ 600) && (decide (s.data.length ≤ 40) && (decide (s.ret.length ≤ 40) && (decide (s.ctl.length ≤ 200) && (decide (s.words.length ≤ 40) && (decide (s.spots.length ≤ 100) && decide (s.out.length ≤ 200)))))))
theorem all_take {α : Type} {f : α → Bool} {l : List α} {i : Nat} (h : i < l.length) : (l.take (i + 1)).all f = ((l.take i).all f && f l[i]) := by
  rw [List.take_succ_eq_append_getElem h, List.all_append, List.all_cons, List.all_nil, Bool.and_true]
theorem all_false {α : Type} {f : α → Bool} {l : List α} {i n : Nat} (h : i < l.length) (hn : i < n) (hf : f l[i] = false) : (l.take n).all f = false := by
  rw [List.all_eq_false]
  exact ⟨l[i], List.mem_take_iff_getElem.2 ⟨i, by omega, rfl⟩, by simp [hf]⟩
theorem few_s (s : St) : Comes p 43 [stV s] (.bool (fewB s)) := by
  refine Comes_of w43 rfl rfl k43 ?_ ?_ ?_ ?_
  · simp
  · simp
  · simp
  · simp -dsimp [w43, wFix_by, isInl]
    refine xL_by (by kernel_rfl) (fun k e H => ∃ i : Nat, i ≤ 41 ∧ k = 41 - i ∧ e 1 = .ptr 0 0 ∧ e 3 = .int .i64 i ∧ H = [.live (cellsOf (stV s))] ∧ (s.words.take i).all (fun w => decide (w.name.size ≤ 60)) = true) 41 ?_ ?_
    · refine ⟨0, by omega, rfl, ?_⟩
      simp -dsimp
    rintro k e H ⟨i, hi, hk, h1, h3, rfl, hall⟩
    by_cases c1 : i < s.words.length
    · by_cases c2 : i < 41
      · have w2 : IntKind.i64.wrap ((i : Int) + 1) = ((i + 1 : Nat) : Int) := by rw [Fz.w64 (by omega) (by omega)]; omega
        have c2' : (i : Int) < 41 := by omega
        have q := all_take (f := (fun w => decide (w.name.size ≤ 60))) c1
        by_cases c3 : s.words[i].name.size ≤ 60
        · have c3' : ¬ ((s.words[i].name.size : Nat) : Int) > 60 := by omega
          have c3'' : ¬ (60 < ((s.words[i].name.size : Nat) : Int)) := by omega
          simp -dsimp [h1, h3, c1, c2, c2', c3', c3'', w2]
          refine ⟨41 - (i + 1), by omega, i + 1, by omega, rfl, ?_⟩
          rw [q, hall]
          simp -dsimp [h1, h3, c3]
        · have c3' : ((s.words[i].name.size : Nat) : Int) > 60 := by omega
          have c3'' : 60 < ((s.words[i].name.size : Nat) : Int) := by omega
          have z : fewB s = false := by
            have := all_false (f := (fun w => decide (w.name.size ≤ 60))) (n := 41) c1 c2 (by simp; omega)
            unfold fewB
            rw [this]; simp
          simp -dsimp [h1, h3, c1, c2, c2', c3', c3'', wFix_by, isInl, z]
      have hi' : i = 41 := by omega
      have c2' : ¬ (i : Int) < 41 := by omega
      have a0 : (s.words.take 41).all (fun w => decide (w.name.size ≤ 60)) = true := by rw [← hi']; exact hall
      have f0 : ¬ (i < s.words.length ∧ i < 41) := by omega
      by_cases d0 : ¬ s.mem.length ≤ 600
      · have d0' : ¬ (((s.mem.length : Nat) : Int) ≤ 600) := by omega
        simp -dsimp [h1, h3, wFix_by, isInl, c1, c2, c2', d0, d0', fewB]
      rw [Classical.not_not] at d0
      have d0' : (((s.mem.length : Nat) : Int) ≤ 600) := by omega
      by_cases d1 : ¬ s.data.length ≤ 40
      · have d1' : ¬ (((s.data.length : Nat) : Int) ≤ 40) := by omega
        simp -dsimp [h1, h3, wFix_by, isInl, c1, c2, c2', d0, d0', d1, d1', fewB]
      rw [Classical.not_not] at d1
      have d1' : (((s.data.length : Nat) : Int) ≤ 40) := by omega
      by_cases d2 : ¬ s.ret.length ≤ 40
      · have d2' : ¬ (((s.ret.length : Nat) : Int) ≤ 40) := by omega
        simp -dsimp [h1, h3, wFix_by, isInl, c1, c2, c2', d0, d0', d1, d1', d2, d2', fewB]
      rw [Classical.not_not] at d2
      have d2' : (((s.ret.length : Nat) : Int) ≤ 40) := by omega
      by_cases d3 : ¬ s.ctl.length ≤ 200
      · have d3' : ¬ (((s.ctl.length : Nat) : Int) ≤ 200) := by omega
        simp -dsimp [h1, h3, wFix_by, isInl, c1, c2, c2', d0, d0', d1, d1', d2, d2', d3, d3', fewB]
      rw [Classical.not_not] at d3
      have d3' : (((s.ctl.length : Nat) : Int) ≤ 200) := by omega
      by_cases d4 : ¬ s.words.length ≤ 40
      · have d4' : ¬ (((s.words.length : Nat) : Int) ≤ 40) := by omega
        simp -dsimp [h1, h3, wFix_by, isInl, c1, c2, c2', d0, d0', d1, d1', d2, d2', d3, d3', d4, d4', fewB]
      rw [Classical.not_not] at d4
      have d4' : (((s.words.length : Nat) : Int) ≤ 40) := by omega
      by_cases d5 : ¬ s.spots.length ≤ 100
      · have d5' : ¬ (((s.spots.length : Nat) : Int) ≤ 100) := by omega
        simp -dsimp [h1, h3, wFix_by, isInl, c1, c2, c2', d0, d0', d1, d1', d2, d2', d3, d3', d4, d4', d5, d5', fewB]
      rw [Classical.not_not] at d5
      have d5' : (((s.spots.length : Nat) : Int) ≤ 100) := by omega
      by_cases d6 : ¬ s.out.length ≤ 200
      · have d6' : ¬ (((s.out.length : Nat) : Int) ≤ 200) := by omega
        simp -dsimp [h1, h3, wFix_by, isInl, c1, c2, c2', d0, d0', d1, d1', d2, d2', d3, d3', d4, d4', d5, d5', d6, d6', fewB]
      rw [Classical.not_not] at d6
      have d6' : (((s.out.length : Nat) : Int) ≤ 200) := by omega
      simp -dsimp [h1, h3, wFix_by, isInl, c1, c2, c2', d0, d0', d1, d1', d2, d2', d3, d3', d4, d4', d5, d5', d6, d6', a0, fewB]
    have a0 : (s.words.take 41).all (fun w => decide (w.name.size ≤ 60)) = true := by
      rw [List.take_of_length_le (by omega)]
      rw [List.take_of_length_le (by omega)] at hall
      exact hall
    by_cases d0 : ¬ s.mem.length ≤ 600
    · have d0' : ¬ (((s.mem.length : Nat) : Int) ≤ 600) := by omega
      simp -dsimp [h1, h3, wFix_by, isInl, c1, d0, d0', fewB]
    rw [Classical.not_not] at d0
    have d0' : (((s.mem.length : Nat) : Int) ≤ 600) := by omega
    by_cases d1 : ¬ s.data.length ≤ 40
    · have d1' : ¬ (((s.data.length : Nat) : Int) ≤ 40) := by omega
      simp -dsimp [h1, h3, wFix_by, isInl, c1, d0, d0', d1, d1', fewB]
    rw [Classical.not_not] at d1
    have d1' : (((s.data.length : Nat) : Int) ≤ 40) := by omega
    by_cases d2 : ¬ s.ret.length ≤ 40
    · have d2' : ¬ (((s.ret.length : Nat) : Int) ≤ 40) := by omega
      simp -dsimp [h1, h3, wFix_by, isInl, c1, d0, d0', d1, d1', d2, d2', fewB]
    rw [Classical.not_not] at d2
    have d2' : (((s.ret.length : Nat) : Int) ≤ 40) := by omega
    by_cases d3 : ¬ s.ctl.length ≤ 200
    · have d3' : ¬ (((s.ctl.length : Nat) : Int) ≤ 200) := by omega
      simp -dsimp [h1, h3, wFix_by, isInl, c1, d0, d0', d1, d1', d2, d2', d3, d3', fewB]
    rw [Classical.not_not] at d3
    have d3' : (((s.ctl.length : Nat) : Int) ≤ 200) := by omega
    by_cases d4 : ¬ s.words.length ≤ 40
    · have d4' : ¬ (((s.words.length : Nat) : Int) ≤ 40) := by omega
      simp -dsimp [h1, h3, wFix_by, isInl, c1, d0, d0', d1, d1', d2, d2', d3, d3', d4, d4', fewB]
    rw [Classical.not_not] at d4
    have d4' : (((s.words.length : Nat) : Int) ≤ 40) := by omega
    by_cases d5 : ¬ s.spots.length ≤ 100
    · have d5' : ¬ (((s.spots.length : Nat) : Int) ≤ 100) := by omega
      simp -dsimp [h1, h3, wFix_by, isInl, c1, d0, d0', d1, d1', d2, d2', d3, d3', d4, d4', d5, d5', fewB]
    rw [Classical.not_not] at d5
    have d5' : (((s.spots.length : Nat) : Int) ≤ 100) := by omega
    by_cases d6 : ¬ s.out.length ≤ 200
    · have d6' : ¬ (((s.out.length : Nat) : Int) ≤ 200) := by omega
      simp -dsimp [h1, h3, wFix_by, isInl, c1, d0, d0', d1, d1', d2, d2', d3, d3', d4, d4', d5, d5', d6, d6', fewB]
    rw [Classical.not_not] at d6
    have d6' : (((s.out.length : Nat) : Int) ≤ 200) := by omega
    simp -dsimp [h1, h3, wFix_by, isInl, c1, d0, d0', d1, d1', d2, d2', d3, d3', d4, d4', d5, d5', d6, d6', a0, fewB]
theorem ints_self {a : List Int} (ha : a.length ≤ 1000000) : Comes p 49 [inV a, inV a] (.bool true) := by
  refine Comes_of w49 rfl rfl k49 ?_ ?_ ?_ ?_
  · simp
  · simp
  · simp
  · simp -dsimp [w49, wFix_by, isInl]
    refine xL_by (by kernel_rfl) (fun k e H => ∃ i : Nat, i ≤ a.length ∧ k = a.length - i ∧ e 0 = inV a ∧ e 1 = inV a ∧ e 5 = .int .i64 i) a.length ?_ ?_
    · refine ⟨0, by omega, rfl, ?_⟩
      simp -dsimp
    · rintro k e H ⟨i, hi, hk, h0, h1, h5⟩
      by_cases c1 : i < a.length
      · have g1 : a[i]?.getD default = a[i] := by simp [c1]
        have w2 : IntKind.i64.wrap ((i : Int) + 1) = ((i + 1 : Nat) : Int) := by rw [Fz.w64 (by omega) (by omega)]; omega
        have z : inQ a[i] a[i] = true := by simp [inQ]
        simp -dsimp [h0, h1, h5, wFix_by, isInl, inV, c1, g1, wOpt, w2, z]
        refine ⟨a.length - (i + 1), by omega, i + 1, by omega, rfl, ?_⟩
        simp -dsimp [h0, h1, inV]
      · simp -dsimp [h0, h1, h5, wFix_by, isInl, c1]
theorem slots_self {a : List Slo} (ha : a.length ≤ 1000000) : Comes p 50 [slosV a, slosV a] (.bool true) := by
  refine Comes_of w50 rfl rfl k50 ?_ ?_ ?_ ?_
  · simp
  · simp
  · simp
  · simp -dsimp [w50, wFix_by, isInl]
    refine xL_by (by kernel_rfl) (fun k e H => ∃ i : Nat, i ≤ a.length ∧ k = a.length - i ∧ e 0 = slosV a ∧ e 1 = slosV a ∧ e 5 = .int .i64 i) a.length ?_ ?_
    · refine ⟨0, by omega, rfl, ?_⟩
      simp -dsimp
    · rintro k e H ⟨i, hi, hk, h0, h1, h5⟩
      by_cases c1 : i < a.length
      · have g1 : a[i]?.getD default = a[i] := by simp [c1]
        have w2 : IntKind.i64.wrap ((i : Int) + 1) = ((i + 1 : Nat) : Int) := by rw [Fz.w64 (by omega) (by omega)]; omega
        have z : sloQ a[i] a[i] = true := by simp [sloQ]
        simp -dsimp [h0, h1, h5, wFix_by, isInl, slosV, c1, g1, wOpt, w2, slo_leaves, z]
        refine ⟨a.length - (i + 1), by omega, i + 1, by omega, rfl, ?_⟩
        simp -dsimp [h0, h1, slosV]
      · simp -dsimp [h0, h1, h5, wFix_by, isInl, c1]
theorem words_self {a : List Wor} (ha : a.length ≤ 1000000) : Comes p 51 [worsV a, worsV a] (.bool true) := by
  refine Comes_of w51 rfl rfl k51 ?_ ?_ ?_ ?_
  · simp
  · simp
  · simp
  · simp -dsimp [w51, wFix_by, isInl]
    refine xL_by (by kernel_rfl) (fun k e H => ∃ i : Nat, i ≤ a.length ∧ k = a.length - i ∧ e 0 = worsV a ∧ e 1 = worsV a ∧ e 5 = .int .i64 i) a.length ?_ ?_
    · refine ⟨0, by omega, rfl, ?_⟩
      simp -dsimp
    · rintro k e H ⟨i, hi, hk, h0, h1, h5⟩
      by_cases c1 : i < a.length
      · have g1 : a[i]?.getD default = a[i] := by simp [c1]
        have w2 : IntKind.i64.wrap ((i : Int) + 1) = ((i + 1 : Nat) : Int) := by rw [Fz.w64 (by omega) (by omega)]; omega
        have z : worQ a[i] a[i] = true := by simp [worQ]
        simp -dsimp [h0, h1, h5, wFix_by, isInl, worsV, c1, g1, wOpt, w2, wor_leaves, z]
        refine ⟨a.length - (i + 1), by omega, i + 1, by omega, rfl, ?_⟩
        simp -dsimp [h0, h1, worsV]
      · simp -dsimp [h0, h1, h5, wFix_by, isInl, c1]
theorem spots_self {a : List Spo} (ha : a.length ≤ 1000000) : Comes p 52 [sposV a, sposV a] (.bool true) := by
  refine Comes_of w52 rfl rfl k52 ?_ ?_ ?_ ?_
  · simp
  · simp
  · simp
  · simp -dsimp [w52, wFix_by, isInl]
    refine xL_by (by kernel_rfl) (fun k e H => ∃ i : Nat, i ≤ a.length ∧ k = a.length - i ∧ e 0 = sposV a ∧ e 1 = sposV a ∧ e 5 = .int .i64 i) a.length ?_ ?_
    · refine ⟨0, by omega, rfl, ?_⟩
      simp -dsimp
    · rintro k e H ⟨i, hi, hk, h0, h1, h5⟩
      by_cases c1 : i < a.length
      · have g1 : a[i]?.getD default = a[i] := by simp [c1]
        have w2 : IntKind.i64.wrap ((i : Int) + 1) = ((i + 1 : Nat) : Int) := by rw [Fz.w64 (by omega) (by omega)]; omega
        have z : spoQ a[i] a[i] = true := by simp [spoQ]
        simp -dsimp [h0, h1, h5, wFix_by, isInl, sposV, c1, g1, wOpt, w2, spo_leaves, z]
        refine ⟨a.length - (i + 1), by omega, i + 1, by omega, rfl, ?_⟩
        simp -dsimp [h0, h1, sposV]
      · simp -dsimp [h0, h1, h5, wFix_by, isInl, c1]
theorem same_self {s : St} (hs : StLen s) (hm : by8 s.mem) (ho : by8 s.out) : Comes p 26 [stV s, stV s] (.bool true) := by
  have c1 := ints_self (a := s.data) (by have := hs.data; omega)
  have c2 := slots_self (a := s.ret) (by have := hs.ret; omega)
  have c3 := ints_self (a := s.ctl) (by have := hs.ctl; omega)
  have c4 := words_self (a := s.words) (by have := hs.words; omega)
  have c5 := spots_self (a := s.spots) (by have := hs.spots; omega)
  refine Comes_of w26 rfl rfl k26 ?_ ?_ ?_ ?_
  · simp
  · simp
  · simp
  · simp -dsimp [w26, wFix_by, isInl, call_by c1, call_by c2, call_by c3, call_by c4, call_by c5]
    simp -dsimp [byV, all8 hm, all8 ho]
structure StTy (s : St) : Prop where
  mem : by8 s.mem
  data : ∀ n ∈ s.data, i64 n
  ret : ∀ x ∈ s.ret, i64 x.v
  ctl : ∀ n ∈ s.ctl, i64 n
  words : ∀ x ∈ s.words, i64 x.code
  spots : ∀ x ∈ s.spots, i64 x.addr ∧ i64 x.at_
  out : by8 s.out
  regs : ∀ n ∈ [s.ip, s.here, s.at_, s.tok, s.in_, s.err], i64 n
def SloT : Ty := .agg [.int .i64, .bool]
def WorT : Ty := .agg [.str, .int .i64, .bool, .bool]
def SpoT : Ty := .agg [.int .i64, .int .i64]
def RnT : Ty := .agg [.int .i64, .sl (.int .u8)]
def StT : Ty := .agg [.sl (.int .u8), .sl (.int .i64), .sl SloT, .sl (.int .i64), .sl WorT, .sl SpoT, .sl (.int .u8), .int .i64, .int .i64, .int .i64, .int .i64, .int .i64, .int .i64, .bool, .bool]
theorem list_of {α : Type} {T : Ty} {f : α → V} {P : α → Prop} (h : ∀ v, HasT T v → ∃ a, v = f a ∧ P a) {v : V} (hv : HasT (.sl T) v) : ∃ l : List α, v = .list (l.map f) false ∧ ∀ a ∈ l, P a := by
  obtain ⟨vs, rfl, hh⟩ := hv
  have : ∃ l : List α, vs = l.map f ∧ ∀ a ∈ l, P a := by
    induction vs with
    | nil => exact ⟨[], rfl, fun a h => by cases h⟩
    | cons v vs ih =>
      obtain ⟨l, rfl, hl⟩ := ih fun x hx => hh x (List.mem_cons_of_mem _ hx)
      obtain ⟨a, rfl, ha⟩ := h v (hh v (List.mem_cons_self ..))
      refine ⟨a :: l, rfl, fun x hx => ?_⟩
      rcases List.mem_cons.1 hx with rfl | hx
      · exact ha
      · exact hl x hx
  obtain ⟨l, rfl, hl⟩ := this
  exact ⟨l, rfl, hl⟩
theorem u8_of {v : V} (h : HasT (.int .u8) v) : ∃ n, v = V.int .u8 n ∧ (0 ≤ n ∧ n < 256) := by
  obtain ⟨n, rfl, h1, h2⟩ := h
  have h1 : 0 ≤ n := h1
  have h2 : n ≤ 255 := h2
  exact ⟨n, rfl, by omega⟩
theorem i64_of {v : V} (h : HasT (.int .i64) v) : ∃ n, v = V.int .i64 n ∧ i64 n := by
  obtain ⟨n, rfl, h1, h2⟩ := h
  exact ⟨n, rfl, h1, h2⟩
theorem slo_of {v : V} (h : HasT SloT v) : ∃ s, v = sloV s ∧ i64 s.v := by
  obtain ⟨l, rfl, v1, r1, rfl, h1, v2, r2, rfl, ⟨b, rfl⟩, rfl⟩ := h
  obtain ⟨n, rfl, h1'⟩ := i64_of h1
  exact ⟨⟨n, b⟩, rfl, h1'⟩
theorem wor_of {v : V} (h : HasT WorT v) : ∃ s, v = worV s ∧ i64 s.code := by
  obtain ⟨l, rfl, v0, r0, rfl, ⟨s, rfl⟩, v1, r1, rfl, h1, v2, r2, rfl, ⟨b, rfl⟩, v3, r3, rfl, ⟨c, rfl⟩, rfl⟩ := h
  obtain ⟨n, rfl, h1'⟩ := i64_of h1
  exact ⟨⟨s, n, b, c⟩, rfl, h1'⟩
theorem spo_of {v : V} (h : HasT SpoT v) : ∃ s, v = spoV s ∧ (i64 s.addr ∧ i64 s.at_) := by
  obtain ⟨l, rfl, v1, r1, rfl, h1, v2, r2, rfl, h2, rfl⟩ := h
  obtain ⟨n, rfl, h1'⟩ := i64_of h1
  obtain ⟨m, rfl, h2'⟩ := i64_of h2
  exact ⟨⟨n, m⟩, rfl, h1', h2'⟩
theorem by_of {v : V} (h : HasT (.sl (.int .u8)) v) : ∃ b, v = byV b ∧ by8 b := list_of (fun _ h => u8_of h) h
theorem in_of {v : V} (h : HasT (.sl (.int .i64)) v) : ∃ b, v = inV b ∧ ∀ n ∈ b, i64 n := list_of (fun _ h => i64_of h) h
theorem st_of {v : V} (h : HasT StT v) : ∃ s, v = stV s ∧ StTy s := by
  obtain ⟨l, rfl, v1, r1, rfl, h1, v2, r2, rfl, h2, v3, r3, rfl, h3, v4, r4, rfl, h4, v5, r5, rfl, h5, v6, r6, rfl, h6, v7, r7, rfl, h7, v8, r8, rfl, h8, v9, r9, rfl, h9, v10, r10, rfl, h10, v11, r11, rfl, h11, v12, r12, rfl, h12, v13, r13, rfl, h13, v14, r14, rfl, ⟨b1, rfl⟩, v15, r15, rfl, ⟨b2, rfl⟩, rfl⟩ := h
  obtain ⟨a1, rfl, h1'⟩ := by_of h1
  obtain ⟨a2, rfl, h2'⟩ := in_of h2
  obtain ⟨a3, rfl, h3'⟩ := list_of (fun _ h => slo_of h) h3
  obtain ⟨a4, rfl, h4'⟩ := in_of h4
  obtain ⟨a5, rfl, h5'⟩ := list_of (fun _ h => wor_of h) h5
  obtain ⟨a6, rfl, h6'⟩ := list_of (fun _ h => spo_of h) h6
  obtain ⟨a7, rfl, h7'⟩ := by_of h7
  obtain ⟨n8, rfl, h8'⟩ := i64_of h8
  obtain ⟨n9, rfl, h9'⟩ := i64_of h9
  obtain ⟨n10, rfl, h10'⟩ := i64_of h10
  obtain ⟨n11, rfl, h11'⟩ := i64_of h11
  obtain ⟨n12, rfl, h12'⟩ := i64_of h12
  obtain ⟨n13, rfl, h13'⟩ := i64_of h13
  refine ⟨⟨a1, a2, a3, a4, a5, a6, a7, n8, n9, n10, n11, n12, n13, b1, b2⟩, rfl, ⟨h1', h2', h3', h4', h5', h6', h7', ?_⟩⟩
  intro n hn
  simp only [List.mem_cons, List.not_mem_nil, or_false] at hn
  rcases hn with rfl | rfl | rfl | rfl | rfl | rfl <;> assumption
theorem few_len {s : St} (h : fewB s = true) : s.mem.length ≤ 600 ∧ s.data.length ≤ 40 ∧ s.ret.length ≤ 40 ∧ s.ctl.length ≤ 200 ∧ s.words.length ≤ 40 ∧ s.spots.length ≤ 100 ∧ s.out.length ≤ 200 ∧ ∀ w ∈ s.words, w.name.size ≤ 60 := by
  unfold fewB at h
  simp only [Bool.and_eq_true, decide_eq_true_eq, List.all_eq_true] at h
  obtain ⟨h0, h1, h2, h3, h4, h5, h6, h7⟩ := h
  exact ⟨h1, h2, h3, h4, h5, h6, h7, fun w hw => h0 w (by rw [List.take_of_length_le (by omega)]; exact hw)⟩
theorem few_st {s : St} (h : fewB s = true) : StLen s := by
  obtain ⟨h1, h2, h3, h4, h5, h6, h7, _⟩ := few_len h
  constructor <;> omega
theorem stF (s : St) : V.agg (cellsOf (stV s)) = stV s := rfl
end Fz.D
set_option maxRecDepth 100000
namespace Go.Proofs
open Go Go.Shelf Go.RowKit
open Fz (upB upS)
theorem Tryz.blSize : (Tryz.prog.info? 129).map (·.size) = some 2 := by kernel_rfl
theorem Tryz.blLies : liesAt Tryz.prog Tryz.prog.depth 129 (2 / Tryz.prog.cellsOf 129) 0 129 1 = true := by kernel_rfl
theorem Tryz.blByte : (Tryz.prog.info? 5).map (fun i => (i.zero, i.size, i.bytes)) = some (some (.int .u8 0), 1, 1) := by kernel_rfl
set_option maxHeartbeats 1000000 in
theorem Tryz.bl_used (b : Nat) (w : World) (h0 : w.cell? ⟨b, 0, none⟩ = some (.pointer (some ⟨b, 0, none⟩))) :
    Calls Tryz.prog 195 #[.pointer (some ⟨b, 0, none⟩)] w fun e w' => e = .returned (.tuple #[]) ∧ w' = w := by
  obtain ⟨j, hj, _⟩ := Option.map_eq_some_iff.1 Tryz.blSize
  go_enter Tryz.func195, Tryz.ntmps195
  go_wp2
  rw [Lib.run_neq_ptr_same w _ Tryz.underlying127 hj]
  go_wp2
  go_end0
  exact ⟨rfl, rfl⟩
set_option maxHeartbeats 1000000 in
theorem Tryz.bl_fresh (b : Nat) (w : World) (h0 : w.cell? ⟨b, 0, none⟩ = some (.pointer none)) (hsh : w.shape? b = some (129, 2)) (hfz : w.frozen? ⟨b, 0, none⟩ = false) :
    Calls Tryz.prog 195 #[.pointer (some ⟨b, 0, none⟩)] w fun e w' => e = .returned (.tuple #[]) ∧ w' = w.setCell ⟨b, 0, none⟩ (.pointer (some ⟨b, 0, none⟩)) := by
  obtain ⟨j, hj, hjs⟩ := Option.map_eq_some_iff.1 Tryz.blSize
  go_enter Tryz.func195, Tryz.ntmps195
  go_wp2
  rw [Lib.run_to_unsafe w ⟨b, 0, none⟩ Tryz.underlying127 Tryz.underlying210 hj (by rw [hjs]; decide) hsh (Nat.zero_lt_succ 1)]
  simp only [Result.andThen]
  rw [Oper.upon_value]
  go_wp2
  rw [run_callFunc_extern Tryz.func336 (by kernel_rfl) (by kernel_rfl) (by kernel_rfl) (e := Extern.AbiNoEscape.same) (by kernel_rfl)]
  rw [Lib.run_noEscape]
  simp only [Result.andThen]
  rw [Oper.upon_value]
  go_wp2
  rw [Lib.run_from_unsafe w ⟨b, 0, none⟩ Tryz.underlying210 Tryz.underlying127 hj hsh Tryz.blLies]
  simp only [Result.andThen]
  rw [Oper.upon_value]
  go_wp2
  go_end0
  exact ⟨rfl, rfl⟩
theorem Tryz.bl_check (B b : Nat) (bs : List Value) (w : World) (h : Lib.IsBuilder 129 5 B b bs w) :
    Calls Tryz.prog 195 #[.pointer (some ⟨b, 0, none⟩)] w fun e w' => e = .returned (.tuple #[]) ∧ (Lib.BuilderAt 129 5 B b (.pointer (some ⟨b, 0, none⟩)) bs w' ∧ Below B w w') := by
  rcases h with h | h
  · refine (Tryz.bl_fresh b w h.cell0 h.shape h.frozen0).mono ?_
    rintro e w' ⟨rfl, rfl⟩
    exact ⟨rfl, h.used _, (Below.refl B w).setCell (p := ⟨b, 0, none⟩) h.1 _⟩
  · refine (Tryz.bl_used b w h.cell0).mono ?_
    rintro e w' ⟨rfl, rfl⟩
    exact ⟨rfl, h, Below.refl B _⟩
set_option maxHeartbeats 2000000 in
theorem Tryz.bl_write (B b : Nat) (bs : List Value) (c : Int) (w : World) (h : Lib.IsBuilder 129 5 B b bs w) (hlen : bs.length + 1 ≤ 140737488355328) (hBw : B ≤ w.heap.size) :
    Calls Tryz.prog 145 #[.pointer (some ⟨b, 0, none⟩), .int .u8 c] w fun e w' => e = .returned .nilIface ∧ (Lib.BuilderAt 129 5 B b (.pointer (some ⟨b, 0, none⟩)) (bs ++ [.int .u8 c]) w' ∧ Below B w w') := by
  obtain ⟨i0, hi, hz0, hz1, hz2⟩ := info_parts Tryz.blByte
  go_enter Tryz.func145, Tryz.ntmps145
  go_wp2_with (go_at_call 195; refine (Tryz.bl_check B b bs _ h).mono ?_)
  rintro e w1 ⟨rfl, h1, hb1⟩
  obtain ⟨hB, v, hbk, hown, hne⟩ := h1
  have c0 : w1.cell? ⟨b, 0, none⟩ = some (.pointer (some ⟨b, 0, none⟩)) := by rw [Lib.cell_of_heap hbk]; rfl
  have c1 : w1.cell? ⟨b, 1, none⟩ = some v := by rw [Lib.cell_of_heap hbk]; rfl
  go_wp2_with (at_builtin; refine wpList_append_own _ rfl _ _ 38 rfl B 5 i0 (.int .u8 0) 1 1 Tryz.underlying38 hi hz0 hz1 hz2 rfl (by decide) _ _ _ rfl (hown.alloc _) ⟨w1.heap.size, 0, none⟩ 1 1 [.int .u8 c] rfl rfl ?c1 ?c2 ?c3 ?c4 ?c5 ?_)
  case c1 =>
    intro j u hj
    match j, hj with
    | 0, hj => simp at hj; subst hj; simp [Addr.add]
  case c2 => intro u hu; simp at hu; subst hu; rfl
  case c3 => unfold maxLen; omega
  case c4 => omega
  case c5 => have := hb1.size; simp; omega
  intro v' w2 hown' hgrow _
  have hlt : b < w1.heap.size := by
    rcases Nat.lt_or_ge b w1.heap.size with h' | h'
    · exact h'
    · simp [Array.getElem?_eq_none h'] at hbk
  have hb2 : w2.heap[b]? = some (.cells #[.pointer (some ⟨b, 0, none⟩), v] 129 (0, 0)) := by
    rw [hgrow.block b (by simp; omega) (fun e => hne e.symm), Lib.alloc_old w1 _ b hlt]
    exact hbk
  have d0 : w2.cell? ⟨b, 0, none⟩ = some (.pointer (some ⟨b, 0, none⟩)) := by rw [Lib.cell_of_heap hb2]; rfl
  have d1 : w2.cell? ⟨b, 1, none⟩ = some v := by rw [Lib.cell_of_heap hb2]; rfl
  have f1 : w2.frozen? ⟨b, 1, none⟩ = false := Lib.frozen_of_heap hb2 1
  obtain ⟨g, cap, rfl⟩ : ∃ g cap, v' = .slice (some ⟨g, 0, none⟩) (bs.length + 1) cap := by
    rcases hown'.2 with ⟨_, h0⟩ | ⟨g, cap, cur, hv, _⟩
    · omega
    · exact ⟨g, cap, hv⟩
  go_wp2
  go_ret
  refine ⟨rfl, ?_, ?_⟩
  · exact Lib.BuilderAt.put (T := 129) (e := 5) hB hb2 (bs' := bs ++ [.int .u8 c]) (by simpa using hown') (by decide)
  · exact ((hb1.alloc (by have := hb1.size; omega) _).grown hgrow (by have := hb1.size; simp; omega) (fun k hk => (hown.lt k hk).1)).setCell (p := ⟨b, 1, none⟩) hB _
def Tryz.blRen : Go.Shelf.Ren := ⟨fun | 169 => 146 | n => n, fun | 70 => 127 | 9 => 9 | 0 => 0 | 72 => 129 | 37 => 38 | 127 => 173 | 3 => 3 | 5 => 5 | n => n, fun | n => n⟩
theorem Tryz.blLays : Go.Proofs.Lays.n169 Tryz.prog Tryz.blRen := {
  mixed := by kernel_rfl
  f169 := Tryz.func146.trans (congrArg some (by kernel_rfl))
  t0 := Tryz.underlying0
  a0 := Tryz.isAgg0
  z0 := Tryz.sizeOf0
  v0 := Tryz.zeroValue0
  t3 := Tryz.underlying3
  a3 := Tryz.isAgg3
  z3 := Tryz.sizeOf3
  v3 := Tryz.zeroValue3
  t9 := Tryz.underlying9
  a9 := Tryz.isAgg9
  z9 := Tryz.sizeOf9
  v9 := Tryz.zeroValue9
  t37 := Tryz.underlying38
  a37 := Tryz.isAgg38
  z37 := Tryz.sizeOf38
  v37 := Tryz.zeroValue38
  t70 := Tryz.underlying127
  a70 := Tryz.isAgg127
  z70 := Tryz.sizeOf127
  v70 := Tryz.zeroValue127
  t72 := Tryz.underlying129
  a72 := Tryz.isAgg129
  z72 := Tryz.sizeOf129
  v72 := Tryz.zeroValue129
  t127 := Tryz.underlying173
  a127 := Tryz.isAgg173
  z127 := Tryz.sizeOf173
  v127 := Tryz.zeroValue173 }
theorem Tryz.blExtra : Builder.Extra Tryz.prog Tryz.blRen := {
  sizeBuilder := by kernel_rfl
  liesBuilder := by kernel_rfl
  t5 := Tryz.underlying5
  a5 := Tryz.isAgg5
  z5 := Tryz.sizeOf5
  v5 := Tryz.zeroValue5
  infoByte := by kernel_rfl
  cellsByte := by kernel_rfl
  sizeByte := by kernel_rfl
  neB5 := by decide }
theorem Tryz.bl_string (B b : Nat) (l : List UInt8) (w : World) (h : Lib.IsBuilder 129 5 B b (Lib.byteCells l) w) (hBw : B ≤ w.heap.size) :
    Calls Tryz.prog 146 #[.pointer (some ⟨b, 0, none⟩)] w fun e w' => e = .returned (.string ⟨l.toArray⟩) ∧ Below B w w' := Any.Builder_String_any Tryz.blLays Tryz.blExtra B b l w h hBw
set_option maxHeartbeats 4000000 in
theorem Tryz.bl_cap (s : ByteArray) (B k : Nat) (hk : k < s.size) (w : World) (hc : w.cell? ⟨B, 0, none⟩ = some (.string s)) :
    Calls Tryz.prog 144 #[.int .i64 k, .pointer (some ⟨B, 0, none⟩)] w fun e w' => e = .returned (.int .u8 (upB s[k]).toNat) ∧ w' = w := by
  go_enter Tryz.func144, Tryz.ntmps144
  go_wp2
  · rename_i h1 h2
    go_ret
    refine ⟨?_, rfl⟩
    show Ending.returned (Value.int .u8 ((s[k].toNat : Int) - 97 + 65)) = _
    unfold upB
    rw [if_pos ⟨by omega, by omega⟩, UInt8.toNat_sub_of_le _ _ (by rw [UInt8.le_iff_toNat_le]; show 32 ≤ _; omega)]
    rw [show ((s[k].toNat - UInt8.toNat 32 : Nat) : Int) = (s[k].toNat : Int) - 97 + 65 from by show ((s[k].toNat - 32 : Nat) : Int) = _; omega]
  · rename_i h1 h2
    go_ret
    refine ⟨?_, rfl⟩
    show Ending.returned (Value.int .u8 (s[k].toNat : Int)) = _
    unfold upB
    rw [if_neg (by omega)]
  · rename_i h1
    go_ret
    refine ⟨?_, rfl⟩
    show Ending.returned (Value.int .u8 (s[k].toNat : Int)) = _
    unfold upB
    rw [if_neg (by omega)]
set_option maxHeartbeats 4000000 in
theorem Tryz.bl_fold (s : ByteArray) (w : World) (hs : s.size ≤ 35184372088832) :
    Calls Tryz.prog 41 #[.string s] w fun e w' => e = .returned (.string (upS s)) ∧ Below w.heap.size w w' := by
  go_enter Tryz.func41, Tryz.ntmps41
  go_wp2
  go_loopw [9] (fun i wr => ∃ k : Nat, k ≤ s.size ∧ i = .int .i64 k ∧ Lib.IsBuilder 129 5 (w.heap.size + 1) (w.heap.size + 1) (Lib.byteCells ((s.data.toList.take k).map upB)) wr ∧ wr.heap[w.heap.size]? = some (.cells #[.string s] 9 (0, 0)) ∧ Below w.heap.size w wr ∧ w.heap.size + 1 < wr.heap.size) (fun i _ => s.size - (intOf i).toNat)
  case atStart =>
    have e0 : (w.alloc (Obj.cells #[Value.string s] 9)).heap.size = w.heap.size + 1 := by simp
    have hf := Lib.fresh_isBuilder 129 5 (w.alloc (Obj.cells #[Value.string s] 9))
    rw [e0] at hf
    refine ⟨0, by omega, rfl, hf, ?_, ((Below.refl _ w).alloc (Nat.le_refl _) _).alloc (by simp) _, by simp⟩
    rw [Lib.alloc_old _ _ _ (by simp)]
    exact heap_alloc_new w _
  case round =>
    obtain ⟨k, hk, rfl, hI, hb, hbw, hsz⟩ := hrel
    have c0 : wr.cell? ⟨w.heap.size, 0, none⟩ = some (.string s) := by rw [Lib.cell_of_heap hb]; rfl
    have sz : s.data.toList.length = s.size := by rw [Array.length_toList]; rfl
    have hlen : (Lib.byteCells ((s.data.toList.take k).map upB)).length + 1 ≤ 140737488355328 := by
      rw [Lib.byteCells_length, List.length_map, List.length_take, sz]; omega
    by_cases hp : k < s.size
    · go_wp2_with (first
        | (go_at_call 144; refine (Tryz.bl_cap s w.heap.size k hp _ c0).mono ?_; rintro e w1 ⟨rfl, rfl⟩)
        | (go_at_call 145; refine (Tryz.bl_write (w.heap.size + 1) (w.heap.size + 1) _ _ _ hI hlen (by omega)).mono ?_; rintro e w2 ⟨rfl, h1, b1⟩))
      go_roundw
      case rel =>
        refine ⟨k + 1, by omega, by go_num, ?_, by rw [b1.block _ (by omega)]; exact hb, hbw.trans (b1.mono (by omega)), ?_⟩
        · have e1 : (s.data.toList.take (k + 1)).map upB = (s.data.toList.take k).map upB ++ [upB s[k]] := by
            rw [List.take_add_one, List.map_append]
            have : s.data.toList[k]? = some s[k] := by rw [Array.getElem?_toList]; exact Array.getElem?_eq_getElem hp
            rw [this]; rfl
          rw [e1, Lib.byteCells_append]; exact .inr h1
        · have := b1.size; omega
      case measure =>
        show s.size - ((k : Int) + 1).toNat < s.size - (k : Int).toNat
        omega
    · obtain rfl : k = s.size := by omega
      go_wp2_with (go_at_call 146; refine (Tryz.bl_string (w.heap.size + 1) (w.heap.size + 1) _ _ hI (by omega)).mono ?_; rintro e w1 ⟨rfl, b1⟩)
      go_ret
      refine ⟨?_, hbw.trans (b1.mono (by omega))⟩
      rw [List.take_of_length_le (by first | (rw [List.length_map, sz]; exact Nat.le_refl _) | (rw [sz]; exact Nat.le_refl _))]
      rfl
end Go.Proofs
set_option maxRecDepth 100000
namespace Fz.D
open Go Go.Proofs Go.Proofs.YtagdmfgnnhlakaaGreatDoor Go.ChangeShapes Go.WideShapes Go.ChangeAt Go.RowKit
def nr (af : AFun) : Bool := !hasR af.code && match af.dfr with
  | some (pre, _, _, r) => pre.all (fun c => !hasR c) && !hasR r
  | none => true
theorem rOkF_of {q : AP} {af : AFun} (h : nr af = true) : rOkF q af := by
  unfold nr at h
  rw [Bool.and_eq_true, Bool.not_eq_true'] at h
  refine ⟨rOk_of _ h.1, fun x hx => ?_⟩
  obtain ⟨pre, a, b, r⟩ := x
  rw [hx] at h
  simp only [Bool.and_eq_true, List.all_eq_true, Bool.not_eq_true'] at h
  exact ⟨fun c hc => rOk_of _ (h.2.1 c hc), rOk_of _ h.2.2⟩
theorem tab_nr : tab.all (fun x => nr x.2) = true := by kernel_rfl
theorem rng_ok {q : AP} (f : FuncId) (af : AFun) (h : lk tab f = some af) : rOkF q af := rOkF_of (List.all_eq_true.1 tab_nr _ (lk_mem _ _ _ h))
theorem lift_ok {P : Program} {f : FuncId} {g : List V → Option V} (hg : ∀ args v, g args = some v → ∀ (K : Kn) (β : Bi) (H : List Ob) (w : World) (cargs : Array Value), Inv K β H w → LR K β args cargs.toList → DoesOk P f cargs w (CallPost K β H w (.ret v) H))
    (args : List V) (H : List Ob) (v : V) (H' : List Ob) (h : liftP g args H = some (v, H')) (K : Kn) (β : Bi) (w : World) (cargs : Array Value) (hI : Inv K β H w) (ha : LR K β args cargs.toList) : DoesOk P f cargs w (CallPost K β H w (.ret v) H') := by
  obtain ⟨u, hu, h⟩ := Option.map_eq_some_iff.1 h
  cases h
  exact hg _ _ hu K β H w cargs hI ha
theorem fold_ok (args : List V) (v : V) (h : foldP args = some v) (K : Kn) (β : Bi) (H : List Ob) (w : World) (cargs : Array Value) (hI : Inv K β H w) (ha : LR K β args cargs.toList) : DoesOk Tryz.prog 41 cargs w (CallPost K β H w (.ret v) H) := by
  unfold foldP at h
  split at h
  · rename_i s
    split at h
    · rename_i hs
      cases h
      obtain ⟨cs⟩ := cargs
      obtain ⟨c, r, e, h1, h2⟩ := ha.head
      obtain rfl : r = [] := List.eq_nil_of_length_eq_zero h2.1.symm
      have e : cs = [c] := e
      subst e
      cases h1
      exact walked_ok Tryz.func41 (by kernel_rfl) rfl (by decide) hI (Tryz.bl_fold s w hs) (.str _)
    · cases h
  · cases h
theorem prim0_ok (f : FuncId) (g : List V → List Ob → Option (V × List Ob)) (h : prim0 f = some g) (args : List V) (H : List Ob) (v : V) (H' : List Ob) (hv : g args H = some (v, H')) (K : Kn) (β : Bi) (w : World) (cargs : Array Value) (hI : Inv K β H w) (ha : LR K β args cargs.toList) :
    DoesOk Tryz.prog f cargs w (CallPost K β H w (.ret v) H') := by
  unfold prim0 at h
  split at h
  · rename_i e; subst e; cases h; exact lift_ok fold_ok _ _ _ _ hv K β w cargs hI ha
  split at h
  · rename_i e; subst e; cases h; exact lift_ok (fun a v h K β H w c => idx_ok Tryz.func378 (by kernel_rfl) (by kernel_rfl) (by kernel_rfl) (fun a => by kernel_rfl) (by decide) a v h K β H w c) _ _ _ _ hv K β w cargs hI ha
  split at h
  · rename_i e; subst e; cases h; exact lift_ok (fun a v h K β H w c hI ha => prim_ok Tryz.func321 (by kernel_rfl) (by kernel_rfl) (by kernel_rfl) (fun a => by kernel_rfl) a v h K β H w c hI ha) _ _ _ _ hv K β w cargs hI ha
  split at h
  · rename_i e; subst e; cases h; exact lift_ok (fun a v h K β H w c hI ha => prim_ok Tryz.func184 (by kernel_rfl) (by kernel_rfl) (by kernel_rfl) (fun a => by kernel_rfl) a v h K β H w c hI ha) _ _ _ _ hv K β w cargs hI ha
  split at h
  · rename_i e; subst e; cases h; exact lift_ok (fun a v h K β H w c hI ha => prim_ok Tryz.func322 (by kernel_rfl) (by kernel_rfl) (by kernel_rfl) (fun a => by kernel_rfl) a v h K β H w c hI ha) _ _ _ _ hv K β w cargs hI ha
  split at h
  · rename_i e; subst e; cases h; exact lift_ok (fun a v h K β H w c hI ha => prim_ok Tryz.func323 (by kernel_rfl) (by kernel_rfl) (by kernel_rfl) (fun a => by kernel_rfl) a v h K β H w c hI ha) _ _ _ _ hv K β w cargs hI ha
  split at h
  · rename_i e; subst e; cases h; exact lift_ok (fun a v h K β H w c hI ha => prim_ok Tryz.func328 (by kernel_rfl) (by kernel_rfl) (by kernel_rfl) (fun a => by kernel_rfl) a v h K β H w c hI ha) _ _ _ _ hv K β w cargs hI ha
  cases h
theorem apOk0 : APOk Tryz.prog p0 where
  mixed := by kernel_rfl
  fn f af h := fn_ok f af h
  prim f g h args H v H' hv K β w cargs _ hI ha := prim0_ok f g h args H v H' hv K β w cargs hI ha
  rng f af h := rng_ok f af h
  bods := bods_ok
theorem laid_ok {l : List (List UInt8)} {f : FuncId} {n : Nat} (hn : l.length = n) (h : WFun p0 f [] [] fun r H => r = .ret (.own 0 0 n 1) ∧ H = [.live (l.map wV)]) (args : List V) (H : List Ob) (v : V) (H' : List Ob) (hv : laidP l args H = some (v, H')) : H = [] ∧ ∃ k, acall p0 k f args [] = some (.ret v, H') := by
  unfold laidP at hv
  split at hv
  · cases hv
    obtain ⟨k, r, G, h1, rfl, rfl⟩ := h
    exact ⟨rfl, k, by rw [h1, hn]⟩
  · cases hv
theorem apOk1 : APOk Tryz.prog p1 where
  mixed := by kernel_rfl
  fn f af h := fn_ok f af h
  prim f g h args H v H' hv K β w cargs hL hI ha := by
    have h : prim1 f = some g := h
    unfold prim1 at h
    split at h
    · rename_i e; subst e; cases h; exact proved_own apOk0 (laid_ok (by kernel_rfl) list_run) args H v H' hv K β w cargs hL hI ha
    exact prim0_ok f g h args H v H' hv K β w cargs hI ha
  rng f af h := rng_ok f af h
  bods := bods_ok
theorem apOk : APOk Tryz.prog p := apOk1
theorem bulkOk : Bulk (fun {_} => Rows.uptoBulk) (fun {_} => Rows.uptoBulkAll) where
  lit b := by simp [Rows.uptoBulk]
  pos d := by
    cases d with
    | lit l => cases l <;> simp [Rows.uptoBulk]
    | _ => simp [Rows.uptoBulk]
  agg l := by simp [Rows.uptoBulk]
  slice l m := by simp [Rows.uptoBulk]
  nil := by simp [Rows.uptoBulkAll]
  cons d l := by simp [Rows.uptoBulkAll]
theorem own : ownKnob Tryz.prog.godebug = none := by kernel_rfl
theorem laidOut : laidOutB Tryz.prog = true := by kernel_rfl
theorem frz_bool {k : Nat} {u u' : V} {b : Bool} {H H' : List Ob} (h : freezeV k u H = some (u', H')) (hn : nrm u' = .bool b) : u = .bool b := by
  cases k with
  | zero => cases h
  | succ k =>
    have hu : ∀ x, nrm x = .bool b → x = .bool b := by
      intro x hx
      cases x <;> first | (rw [nr_bool] at hx; exact hx) | (simp [nrm] at hx)
    have := hu u' hn
    subst this
    cases u with
    | bool c => simp [freezeV] at h; rw [h.1]
    | own a b c d => exfalso; simp only [freezeV] at h; repeat' split at h
                     all_goals first | (cases h; done) | simp at h
    | mref a => exfalso; simp only [freezeV] at h; repeat' split at h
                all_goals first | (cases h; done) | simp at h
    | agg l => simp only [freezeV] at h; obtain ⟨x, _, h⟩ := Option.map_eq_some_iff.1 h; simp at h
    | tuple l => simp only [freezeV] at h; obtain ⟨x, _, h⟩ := Option.map_eq_some_iff.1 h; simp at h
    | _ => simp [freezeV] at h
theorem done {f : FuncId} {args : List V} (h : Comes p f args (.bool true)) (hi : p.inlY f = false) : ∃ n H', acall p n f args [] = some (.ret (.bool true), H') := by
  obtain ⟨_, _, _, n, u, H', h3, h4⟩ := h
  rcases h4 with ⟨h4, rfl⟩ | ⟨_, u', H'', h5, h6⟩
  · rw [hi] at h4; cases h4
  · exact ⟨n, H', by rw [h3, frz_bool h5 h6]⟩
end Fz.D
set_option maxRecDepth 100000
namespace Go.Proofs.YtagdmfgnnhlakaaGreatDoor
open Fz Fz.D Go.ChangeShapes Go.WideShapes Go.ChangeAt Go.RowKit
theorem gTab : Tryz.prog.globalNamed "strings.asciiSpace" = some 0 := by kernel_rfl
theorem gTabType : (Tryz.prog.globals[0]?).map (·.type) = some 170 := by kernel_rfl
theorem cellsTab : Tryz.prog.cellsOf 170 = 256 := by kernel_rfl
theorem cells8 : Tryz.prog.cellsOf 5 = 1 := by kernel_rfl
theorem tab_data : (Rows.laid_strings_asciiSpace : DataW Unit) = Lib.tabData .u8 asciiN := by kernel_rfl
theorem glob_ok {W : World} (hL : laidMet Tryz.prog (("strings.asciiSpace", Lib.tabData .u8 asciiN) :: []) W) : GlobW W := by
  have t : Lib.TabIs Tryz.prog W "strings.asciiSpace" .u8 asciiN := Lib.tabIs_of_head (rest := []) gTab gTabType Tryz.underlying170 Tryz.underlying5 cells8 cellsTab hL
  intro g l hg
  unfold globs at hg
  split at hg
  · rename_i e
    subst e
    cases hg
    have hc : ∀ i, i < 256 → W.cell? ⟨0, i, none⟩ = some (.int .u8 (asciiN.getD i 0)) := fun i hi => t.cell gTab i (by rw [show asciiN.length = 256 from by kernel_rfl]; exact hi)
    obtain ⟨_, cs, e, fr, h1, h2⟩ := cell_block (hc 255 (by omega))
    have h1 : W.heap[0]? = some (.cells cs e fr) := h1
    have hsz : 255 < cs.size := (Array.getElem?_eq_some_iff.1 (show cs[255]? = _ from h2)).1
    refine ⟨cs, e, fr, h1, by rw [List.length_map, show asciiN.length = 256 from by kernel_rfl]; omega, fun i v hv => ?_⟩
    rw [List.getElem?_map, Option.map_eq_some_iff] at hv
    obtain ⟨n, hn, rfl⟩ := hv
    refine ⟨.u8, n, rfl, ?_⟩
    have hi : i < 256 := by rw [← show asciiN.length = 256 from by kernel_rfl]; exact (List.getElem?_eq_some_iff.1 hn).1
    obtain ⟨_, cs', e', fr', h3, h4⟩ := cell_block (hc i hi)
    have h3 : W.heap[0]? = some (.cells cs' e' fr') := h3
    rw [h1] at h3
    cases h3
    have h4 : cs[i]? = some (.int .u8 (asciiN.getD i 0)) := h4
    rw [Array.getD_eq_getD_getElem?, h4, List.getD_eq_getElem?_getD, hn]
    rfl
  · cases hg
def seatLaid : List (String × DataW Unit) := [("unicode.White_Space", Rows.laid_unicode_White_Space), ("strings.asciiSpace", Rows.laid_strings_asciiSpace)]
theorem glob_seat {W : World} (hL : laidMetH Tryz.prog seatLaid W) : GlobW W := by
  rw [MakeChecks.laidMetH_plain _ _ _ (by kernel_rfl)] at hL
  have h := hL.filter fun x => x.1 == "strings.asciiSpace"
  refine glob_ok ?_
  rw [← tab_data]
  exact h
theorem door_met (os : Os) (args : Array Value) : laidMetH Tryz.prog seatLaid ((World.doorLaid Tryz.prog 400 os).forCall (fun _ _ => 0) ⟨#[], args, []⟩).memory :=
  laidMetH_of_parts3 (fuel := 8) (laidMet_of_run' 8 (by kernel_rfl) (by kernel_rfl)) (by kernel_rfl) (by kernel_rfl)
end Go.Proofs.YtagdmfgnnhlakaaGreatDoor
set_option maxRecDepth 100000
namespace Fz.D
open Go
def nameF (op : Int) : ByteArray := if 1 ≤ op ∧ op ≤ 137 then ⟨(opsL[op.toNat - 1]?.getD []).toArray⟩ else ⟨#[]⟩
end Fz.D
set_option maxRecDepth 100000
namespace Fz.D
open Go
def madeF (f : FuncId) (args : List V) : Option V := (acall p 1000 f args []).bind fun x => match x.1 with
  | .ret u => (freezeV depthF u x.2).map fun y => nrm y.1
  | .panic _ => none
theorem Comes_made {f : FuncId} {args : List V} {v : V} (h : madeF f args = some v) (ha : args.all gr = true) (hv : gr v = true) (hn : args.all nm = true) (hi : p.inlY f = false) : Comes p f args v := by
  unfold madeF at h
  obtain ⟨⟨r, H⟩, h1, h2⟩ := Option.bind_eq_some_iff.1 h
  cases r with
  | ret u =>
    obtain ⟨⟨u', H'⟩, h3, h4⟩ := Option.map_eq_some_iff.1 h2
    exact ⟨ha, hv, by rw [hn, Bool.or_true], 1000, u, H, h1, .inr ⟨hi, u', H', h3, h4⟩⟩
  | panic u => cases h2
end Fz.D
set_option maxRecDepth 100000
namespace Fz.D
open Go
def thrown (e : Int) : V := .iface 67 (.int .i64 e)
theorem aPop_s {l : List Int} (hl : l.length ≤ 100000) : Comes p 167 [inV l, .int .i64 1] (if l = [] then .tuple [inV [], inV [], .int .i64 (-4)] else .tuple [inV (l.take (l.length - 1)), inV (l.drop (l.length - 1)), .int .i64 0]) := by
  refine Comes_of w167 rfl rfl k167 ?_ ?_ ?_ ?_
  · simp
  · simp
  · split <;> simp
  · by_cases h : l = []
    · subst h
      have w1 : IntKind.i64.wrap (0 - 1) = -1 := by decide
      have w2 : IntKind.i64.wrap (-1) = -1 := by decide
      simp -dsimp [w167, wFix_by, isInl, inV, w1, w2]
    · have hp : 0 < l.length := List.length_pos_iff.2 h
      have w1 : IntKind.i64.wrap ((l.length : Int) - 1) = ((l.length - 1 : Nat) : Int) := by rw [Fz.w64 (by omega) (by omega)]; omega
      rw [if_neg h]
      simp -dsimp [w167, wFix_by, isInl, inV, w1]
      have e1 : List.take (l.length - 1) (l.map (V.int .i64)) = (l.take (l.length - 1)).map (V.int .i64) := List.map_take.symm
      have e2 : List.take (l.length - (l.length - 1)) (List.drop (l.length - 1) (l.map (V.int .i64))) = (l.drop (l.length - 1)).map (V.int .i64) := by
        rw [← List.map_drop, ← List.map_take, List.take_of_length_le (by simp)]
      have e3 : List.drop (l.length - 1) (l.map (V.int .i64)) = (l.drop (l.length - 1)).map (V.int .i64) := List.map_drop.symm
      rw [e1, e2, e3]
      generalize List.take (l.length - 1) l = A
      generalize List.drop (l.length - 1) l = B
      simp -dsimp []
theorem doesQ_of {p : AP} {f : FuncId} {l gs : List V} {v : V} {l' : List V} (hi : p.inlY f = true) (h1 : groundL l = true) (h2 : groundL gs = true) (h3 : ground v = true) (h4 : groundL l' = true)
    (h : WFun p f (.ptr 0 0 :: gs) [.live l] fun r H => r = .ret v ∧ ∃ Hx, H = .live l' :: Hx) : Does p f l gs v l' := by
  obtain ⟨n, r, H, e, rfl, Hx, rfl⟩ := h
  exact ⟨hi, h1, h2, h3, h4, n, Hx, e⟩
theorem doesQ_go {p : AP} {f : FuncId} {l gs : List V} {v : V} {l' : List V} {H : List Ob} {i : Nat} {Q : CR → List Ob → Prop} (h : Does p f l gs v l') (hi : H[i]? = some (.live l)) (hq : Q (.ret v) (H.set i (.live l'))) : xCall p f (.ptr i 0 :: gs) H Q := by
  show WCall p f (.ptr i 0 :: gs) H Q
  rw [WCall_does h hi]; exact hq
theorem reachQ {H : List Ob} {i : Nat} {l : List V} (hi : H[i]? = some (.live l)) (hl : refsL l = []) : reach H 1000 [i] [] = some [i] := by
  refine (reach_go (k := 999) rfl hi).trans ?_
  rw [show refsOb (.live l) = [] from hl]
  exact reach_end (k := 998)
theorem setQ {α : Type} {H : List α} {i : Nat} {x : α} (h : H[i]? = some x) : H.set i x = H := by
  apply List.ext_getElem?
  intro j
  rw [List.getElem?_set]
  split
  · rename_i e; subst e; rw [h]; simp [(List.getElem?_eq_some_iff.1 h).1]
  · rfl
def PV (b : Nat) (J : List Ob) (v : V) (l : List Int) : Prop := (∃ c, v = .list (l.map (V.int .i64)) c) ∨ ∃ j, v = .own (b + j) 0 l.length 1 ∧ J[j]? = some (.live (l.map (V.int .i64)))
end Fz.D
set_option maxRecDepth 100000
namespace Fz.D
open Go
def leN : List Int → Nat
  | [] => 0
  | c :: r => c.toNat + 256 * leN r
def cellE (m : List Int) (i : Int) : Int := if i < 0 ∨ (m.length : Int) - 8 < i then -9 else if i % 8 = 0 then 0 else -23
def cellN (m : List Int) (i : Int) : Int := if cellE m i = 0 then IntKind.i64.wrap (leN ((m.drop i.toNat).take 8) : Nat) else 0
def spanE (m : List Int) (i n : Int) : Int := if i < 0 ∨ n < 0 ∨ (m.length : Int) < n ∨ (m.length : Int) - n < i then -9 else 0
def spanB (m : List Int) (i n : Int) : List Int := if spanE m i n = 0 then (m.drop i.toNat).take n.toNat else []
end Fz.D
set_option maxRecDepth 100000
namespace Fz.D
open Go
structure Stp where
  source : ByteArray
  input : List Int
  size : Int
  depth : Int
  room : Int
def stpV (x : Stp) : V := .agg [.str x.source, byV x.input, .int .i64 x.size, .int .i64 x.depth, .int .i64 x.room]
@[simp] theorem stpV.gd (x : Stp) : ground (stpV x) = true := by simp [stpV]
@[simp] theorem stpV.gk (x : Stp) (k : Nat) : gk (k + 2) (stpV x) = true := by simp [stpV]
@[simp] theorem stpV.nr (x : Stp) : nrm (stpV x) = stpV x := by simp [stpV]
@[simp] theorem stpV.nm (x : Stp) : nm (stpV x) = true := by simp [stpV]
@[simp] theorem stpV.any (x : Stp) : isAny (stpV x) = false := rfl
@[simp] theorem stpV.cells (x : Stp) : cellsOf (stpV x) = [.str x.source, byV x.input, .int .i64 x.size, .int .i64 x.depth, .int .i64 x.room] := rfl
structure StpTy (x : Stp) : Prop where
  input : by8 x.input
  size : i64 x.size
  depth : i64 x.depth
  room : i64 x.room
theorem setup_of {v : V} (h : HasT (.agg [.str, .sl (.int .u8), .int .i64, .int .i64, .int .i64]) v) : ∃ x, v = stpV x ∧ StpTy x := by
  obtain ⟨l, rfl, v1, r1, rfl, ⟨s, rfl⟩, v2, r2, rfl, h2, v3, r3, rfl, h3, v4, r4, rfl, h4, v5, r5, rfl, h5, rfl⟩ := h
  obtain ⟨a2, rfl, h2'⟩ := by_of h2
  obtain ⟨n3, rfl, h3'⟩ := i64_of h3
  obtain ⟨n4, rfl, h4'⟩ := i64_of h4
  obtain ⟨n5, rfl, h5'⟩ := i64_of h5
  exact ⟨⟨s, a2, n3, n4, n5⟩, rfl, h2', h3', h4', h5'⟩
def winB (a b c : Int) : Bool := decide (b ≤ a) && decide (a ≤ c)
def mayB (x : Stp) : Bool := winB x.size 512 65536 && (decide (Int.tmod x.size 8 = 0) && (winB x.depth 4 256 && (winB x.room 0 65536 && (decide ((x.source.size : Int) ≤ 4096) && decide ((x.input.length : Int) ≤ 4096)))))
def mayE (x : Stp) : Int := if mayB x then 0 else 1
end Fz.D
set_option maxRecDepth 100000
namespace Fz.D
open Go
def wk (x : Stp) (w : Int) (c : Bool) (q : St × Int) : List V := [byV q.1.mem, inV q.1.data, .list (q.1.ret.map sloV) c, inV q.1.ctl, worsV q.1.words, sposV q.1.spots, byV q.1.out, .int .i64 q.1.ip, .int .i64 q.1.here, .int .i64 q.1.at_, .int .i64 q.1.tok, .int .i64 q.1.in_, .int .i64 q.1.err, .bool q.1.comp, .bool q.1.halt,
  .str x.source, byV x.input, .int .i64 x.size, .int .i64 x.depth, .int .i64 x.room, .int .i64 w, .int .i64 q.2]
theorem wk_g {x : Stp} {w : Int} {c : Bool} {q : St × Int} : groundL (wk x w c q) = true := by simp [wk]
theorem wk_e (x : Stp) (w : Int) (c : Bool) (s : St) (e : Int) : wk x w c (s, e) = [byV s.mem, inV s.data, .list (s.ret.map sloV) c, inV s.ctl, worsV s.words, sposV s.spots, byV s.out, .int .i64 s.ip, .int .i64 s.here, .int .i64 s.at_, .int .i64 s.tok, .int .i64 s.in_, .int .i64 s.err, .bool s.comp, .bool s.halt,
  .str x.source, byV x.input, .int .i64 x.size, .int .i64 x.depth, .int .i64 x.room, .int .i64 w, .int .i64 e] := rfl
def mustM (b : Bool) (e' : Int) (q : St × Int) : St × Int := (q.1, if q.2 = 0 then (if b then 0 else e') else q.2)
def takeM (q : St × Int) : Int × (St × Int) := if q.2 = 0 then (q.1.data.getLast?.getD 0, ({ q.1 with data := q.1.data.dropLast }, if q.1.data = [] then -4 else 0)) else (0, q)
def giveM (x : Stp) (v : Int) (q : St × Int) : St × Int := if q.2 = 0 then (if (q.1.data.length : Int) + 1 ≤ x.depth then ({ q.1 with data := q.1.data ++ [v] }, 0) else (q.1, -3)) else q
def jumpM (a : Int) (q : St × Int) : St × Int := if q.2 = 0 then ({ q.1 with ip := a }, 0) else q
def backM (x : Stp) (m : List Slo) (q : St × Int) : St × Int := if q.2 = 0 then (if (q.1.ret.length : Int) + m.length ≤ x.depth then ({ q.1 with ret := q.1.ret ++ m }, 0) else (q.1, -5)) else q
def backsM (n : Nat) (q : St × Int) : List Int × (St × Int) := if q.2 = 0 then (if n ≤ q.1.ret.length then ((q.1.ret.drop (q.1.ret.length - n)).map Slo.v, ({ q.1 with ret := q.1.ret.take (q.1.ret.length - n) }, 0)) else (List.replicate n 0, (q.1, -6))) else (List.replicate n 0, q)
def backC (x : Stp) (m : List Slo) (c : Bool) (q : St × Int) : Bool := if q.2 = 0 ∧ (q.1.ret.length : Int) + m.length ≤ x.depth then false else c
def backsC (n : Nat) (c : Bool) (q : St × Int) : Bool := if q.2 = 0 ∧ n ≤ q.1.ret.length then true else c
def peekM (x : Stp) (n : Nat) (q : St × Int) : St × Int := if q.2 = 0 then (if n < q.1.ret.length then giveM x ((q.1.ret.getD (q.1.ret.length - 1 - n) ⟨0, false⟩).v) q else (q.1, -6)) else q
theorem ok_W {x : Stp} {w : Int} {c : Bool} {q : St × Int} : Does p 48 (wk x w c q) [] (.bool (decide (q.2 = 0))) (wk x w c q) := by
  obtain ⟨s, e⟩ := q
  refine doesQ_of (by kernel_rfl) wk_g rfl rfl wk_g ?_
  refine WFun_of w48 rfl rfl k48 ?_
  simp -dsimp [w48, wk_e]
theorem ok_0 {x : Stp} {w : Int} {c : Bool} {s : St} : Does p 48 (wk x w c (s, 0)) [] (.bool true) (wk x w c (s, 0)) := ok_W (q := (s, 0))
theorem ok_n {x : Stp} {w : Int} {c : Bool} {s : St} {e : Int} (h : ¬ e = 0) : Does p 48 (wk x w c (s, e)) [] (.bool false) (wk x w c (s, e)) := by
  have o := ok_W (x := x) (w := w) (c := c) (q := (s, e))
  rwa [decide_eq_false h] at o
theorem must_W {x : Stp} {w : Int} {c : Bool} {q : St × Int} (b : Bool) (e' : Int) : Does p 157 (wk x w c q) [.bool b, .int .i64 e'] (.tuple []) (wk x w c (mustM b e' q)) := by
  obtain ⟨s, e⟩ := q
  refine doesQ_of (by kernel_rfl) wk_g rfl rfl wk_g ?_
  refine WFun_of w157 rfl rfl k157 ?_
  simp -dsimp [w157]
  by_cases he : e = 0
  · subst he
    refine doesQ_go ok_0 rfl ?_
    cases b
    · simp -dsimp [mustM, wk_e]
    · simp -dsimp [mustM]
  · refine doesQ_go (ok_n he) rfl ?_
    simp -dsimp [mustM, he]
theorem must_t {x : Stp} {w : Int} {c : Bool} {q : St × Int} {e' : Int} : Does p 157 (wk x w c q) [.bool true, .int .i64 e'] (.tuple []) (wk x w c q) := by
  have m := must_W (x := x) (w := w) (c := c) (q := q) true e'
  obtain ⟨s, e⟩ := q
  have : mustM true e' (s, e) = (s, e) := by unfold mustM; by_cases h : e = 0 <;> simp [h]
  rwa [this] at m
theorem must_n {x : Stp} {w : Int} {c : Bool} {s : St} {e e' : Int} (b : Bool) (h : ¬ e = 0) : Does p 157 (wk x w c (s, e)) [.bool b, .int .i64 e'] (.tuple []) (wk x w c (s, e)) := by
  have m := must_W (x := x) (w := w) (c := c) (q := (s, e)) b e'
  have : mustM b e' (s, e) = (s, e) := by unfold mustM; simp [h]
  rwa [this] at m
theorem must_f {x : Stp} {w : Int} {c : Bool} {s : St} {e' : Int} : Does p 157 (wk x w c (s, 0)) [.bool false, .int .i64 e'] (.tuple []) (wk x w c (s, e')) := must_W (q := (s, 0)) false e'
theorem take_W {x : Stp} {w : Int} {c : Bool} {q : St × Int} (hl : q.1.data.length ≤ 100000) : Does p 255 (wk x w c q) [] (.int .i64 (takeM q).1) (wk x w c (takeM q).2) := by
  obtain ⟨s, e⟩ := q
  have hl : s.data.length ≤ 100000 := hl
  have cc := aPop_s (l := s.data) hl
  refine doesQ_of (by kernel_rfl) wk_g rfl rfl wk_g ?_
  refine WFun_of w255 rfl rfl k255 ?_
  rw [wk_e]
  by_cases hd : s.data = []
  · rw [if_pos hd] at cc
    simp -dsimp [w255, call_by cc]
    rw [← wk_e]
    by_cases he : e = 0
    · subst he
      refine doesQ_go must_f rfl ?_
      simp -dsimp []
      refine doesQ_go (ok_n (by decide)) rfl ?_
      simp -dsimp [takeM, hd]
      simp [wk_e, hd]
    · refine doesQ_go (must_n _ he) rfl ?_
      simp -dsimp []
      refine doesQ_go (ok_n he) rfl ?_
      simp -dsimp [takeM, he]
  · rw [if_neg hd] at cc
    obtain ⟨D, n, hD⟩ : ∃ D n, s.data = D ++ [n] := by
      rcases List.eq_nil_or_concat s.data with h | ⟨D, n, h⟩
      · exact absurd h hd
      · exact ⟨D, n, by rw [h, List.concat_eq_append]⟩
    rw [hD] at cc
    simp only [List.length_append, List.length_singleton, Nat.add_sub_cancel, List.take_left, List.drop_left] at cc
    simp -dsimp [w255, hD, call_by cc]
    rw [← hD, ← wk_e]
    refine doesQ_go must_t rfl ?_
    simp -dsimp []
    by_cases he : e = 0
    · subst he
      refine doesQ_go ok_0 rfl ?_
      rw [wk_e]
      simp -dsimp [inV]
      simp [wk_e, takeM, hD, inV]
    · refine doesQ_go (ok_n he) rfl ?_
      simp -dsimp [takeM, he]
theorem jump_W {x : Stp} {w : Int} {c : Bool} {q : St × Int} (a : Int) : Does p 160 (wk x w c q) [.int .i64 a] (.tuple []) (wk x w c (jumpM a q)) := by
  obtain ⟨s, e⟩ := q
  refine doesQ_of (by kernel_rfl) wk_g rfl rfl wk_g ?_
  refine WFun_of w160 rfl rfl k160 ?_
  simp -dsimp [w160]
  by_cases he : e = 0
  · subst he
    refine doesQ_go ok_0 rfl ?_
    simp -dsimp [jumpM, wk_e]
  · refine doesQ_go (ok_n he) rfl ?_
    simp -dsimp [jumpM, he]
end Fz.D
set_option maxRecDepth 100000
namespace Fz.D
open Go
theorem zeros_gd {z : List V} (h : groundL z = true) : ∀ k, groundL (zeros z k) = true
  | 0 => rfl
  | k + 1 => by
    rw [zeros, groundL_eq, List.all_append, ← groundL_eq, ← groundL_eq, h, zeros_gd h k]; rfl
theorem zeros_len {z : List V} : ∀ k, (zeros z k).length = k * z.length
  | 0 => by simp [zeros]
  | k + 1 => by rw [zeros, List.length_append, zeros_len k, Nat.succ_mul]; omega
def totA {α : Type} (ls : List (List α)) : Nat := (ls.map List.length).sum
theorem totA_take {α : Type} (ls : List (List α)) (i : Nat) : totA (ls.take i) ≤ totA ls := by
  unfold totA
  conv => rhs; rw [← List.take_append_drop i ls]
  rw [List.map_append, List.sum_append]; omega
theorem totA_succ {α : Type} (ls : List (List α)) (i : Nat) (h : i < ls.length) : totA (ls.take (i + 1)) = totA (ls.take i) + ls[i].length := by
  unfold totA
  rw [List.take_succ_eq_append_getElem h, List.map_append, List.sum_append]; simp
def catA {α : Type} (ls : List (List α)) : List α := ls.flatten
@[simp] theorem catA_nil {α : Type} : catA ([] : List (List α)) = [] := rfl
theorem catA_len {α : Type} (ls : List (List α)) : (catA ls).length = totA ls := by
  unfold totA catA; rw [List.length_flatten]
theorem catA_succ {α : Type} (ls : List (List α)) (i : Nat) (h : i < ls.length) : catA (ls.take (i + 1)) = catA (ls.take i) ++ ls[i] := by
  unfold catA
  rw [List.take_succ_eq_append_getElem h, List.flatten_append]; simp
theorem grow_int {n : Int} {H : List Ob} {Q : CR → List Ob → Prop} (h0 : 0 ≤ n) (h1 : n ≤ 10000000) (hq : ∀ v J, Ac 1 H.length J v [] → Q (.ret v) (H ++ J)) : WCall p 309 [.list [] true, .int .i64 n] H Q := by
  have hr : reach H 1000 (refsL [.list [] true, .int .i64 n]) [] = some [] := rfl
  refine WCall_inl (by kernel_rfl) hr ?_
  refine WFun_of w309 rfl rfl k309 ?_
  have e0 : IntKind.i64.wrap n = n := Fz.w64 (by omega) (by omega)
  have z0 : IntKind.i64.wrap 0 = 0 := Fz.w64 (by omega) (by omega)
  have none : Q (renR (backK [] H.length) (CR.ret (V.list [] true))) (backH [] (CR.ret (V.list [] true)) [] H) := by
    have := hq (.list [] true) [] (ac_nil (by decide))
    simpa [renR, ren, renL, backH, crV, refs, refsL, setAll] using this
  by_cases hn : n = 0
  · subst hn
    simp -dsimp [w309, renL, ren]
    have e1 : IntKind.i64.wrap (-IntKind.i64.wrap 0) = 0 := by rw [z0]; exact z0
    rw [e1, if_neg (by omega)]
    exact none
  · have hp : 0 < n := by omega
    have hz : ¬ n < 0 := by omega
    simp -dsimp [w309, renL, ren, e0, hp, hz]
    have e1 : IntKind.i64.wrap (n - IntKind.i64.wrap 0) = n := by rw [z0, Int.sub_zero]; exact e0
    rw [e1, if_pos hp]
    have hl : (zeros [V.int .i64 0] n.toNat).length = n.toNat * 1 := zeros_len _
    first
    | (refine ⟨⟨h0, by omega, by omega⟩, ?_⟩
       rw [if_neg (by omega)]
       refine ⟨⟨hl, by simp [capOk]; omega⟩, ?_⟩)
    | (rw [if_neg (by omega)]
       refine ⟨⟨h0, by omega, by omega⟩, by simp [capOk]; omega, ?_⟩)
    | (refine ⟨⟨h0, by omega, by omega⟩, ?_⟩
       rw [if_neg (by omega)]
       refine ⟨by simp [capOk]; omega, ?_⟩)
    have := hq (.own H.length 0 0 1) [.live (zeros [V.int .i64 0] n.toNat)] ⟨rfl, by decide, .inr ⟨0, _, rfl, rfl, by simp, by simp [flat]⟩⟩
    have e2 : renOb (backK [] H.length) (.live (zeros [V.int .i64 0] n.toNat)) = .live (zeros [V.int .i64 0] n.toNat) := by
      rw [renOb, groundL_ren _ _ (zeros_gd (by simp) _)]
    try rw [show List.replicate n.toNat (V.int .i64 0) = zeros [V.int .i64 0] n.toNat from by simp]
    simp only [renR, ren, renL, backH, crV, refs, refsL, setAll, List.take_zero, List.flatMap_nil, List.append_nil, List.length_nil, List.any_cons, List.map_nil, List.drop_zero, List.map_cons, e2, List.any_nil]
    simpa [backK] using this
theorem concat_int {ls : List (List Int)} (ht : totA ls ≤ 10000000) (hl : ls.length ≤ 1000000) : Comes p 169 [.list (ls.map inV) false] (inV (catA ls)) := by
  refine Comes_of w169 rfl rfl k169 ?_ ?_ ?_ ?_
  · simp
  · simp
  · simp
  simp -dsimp [w169]
  refine xL_by (by kernel_rfl) (fun k e H => ∃ i : Nat, i ≤ ls.length ∧ k = ls.length - i ∧ e 0 = .list (ls.map inV) false ∧ e 9 = .list (ls.map inV) false ∧ e 10 = .int .i64 ls.length ∧ e 11 = .int .i64 i ∧ e 3 = .int .i64 (totA (ls.take i)) ∧ H = []) ls.length ?_ ?_
  · exact ⟨0, by simp [totA]⟩
  · rintro k e H ⟨i, hi, hk, h0, h9, h10, h11, h3, rfl⟩
    have t1 := totA_take ls i
    simp -dsimp [h0, h9, h10, h11, h3]
    split
    · rename_i hlt
      have t2 := totA_succ ls i hlt
      have t3 := totA_take ls (i + 1)
      have w1 : IntKind.i64.wrap (((totA (ls.take i) : Nat) : Int) + ((ls[i].length : Nat) : Int)) = ((totA (ls.take (i + 1)) : Nat) : Int) := by rw [Fz.w64 (by omega) (by omega)]; omega
      have w2 : IntKind.i64.wrap ((i : Int) + 1) = ((i + 1 : Nat) : Int) := by rw [Fz.w64 (by omega) (by omega)]; omega
      have g : ls[i]?.getD default = ls[i] := by simp [hlt]
      refine ⟨hlt, ?_⟩
      rw [g, w1]
      refine ⟨by omega, ?_⟩
      refine ⟨ls.length - (i + 1), by omega, i + 1, by omega, rfl, ?_⟩
      simp -dsimp [h0, h9, h10]
      rw [w2]; omega
    · rename_i hge
      have hii : i = ls.length := by omega
      subst hii
      rw [List.take_length] at h3 ⊢
      refine grow_int (by omega) (by omega) fun v J hac => ?_
      simp -dsimp [h0, h9, h10, h11, h3]
      refine xL_by (by kernel_rfl) (fun k e H => ∃ (i : Nat) (v : V) (J : List Ob), i ≤ ls.length ∧ k = ls.length - i ∧ e 25 = .list (ls.map inV) false ∧ e 26 = .int .i64 ls.length ∧ e 27 = .int .i64 i ∧ e 6 = v ∧ Ac 1 0 J v ((catA (ls.take i)).map (V.int .i64)) ∧ H = J) ls.length ?_ ?_
      · exact ⟨0, v, J, by simp [h0]; exact hac⟩
      · rintro k e H ⟨i, v, J, hi, hk, h25, h26, h27, h6, hac, rfl⟩
        simp -dsimp [h25, h26, h27, h6]
        split
        · rename_i hlt
          have g : ls[i]?.getD default = ls[i] := by simp [hlt]
          refine ⟨hlt, ?_⟩
          rw [g]
          have t2 := totA_succ ls i hlt
          have t3 := totA_take ls (i + 1)
          have t4 : (catA (ls.take i)).length = totA (ls.take i) := catA_len _
          have e1 := catA_succ ls i hlt
          refine app_ac 0 (m := ls[i].map (V.int .i64)) (by simpa using hac) (by simp) (by simp) (by simp) (by simp) (by simp) (by rw [List.length_map, List.length_map, t4]; simp [capOk]; omega) fun v' J' hac' => ?_
          have w2 : IntKind.i64.wrap ((i : Int) + 1) = ((i + 1 : Nat) : Int) := by rw [Fz.w64 (by omega) (by omega)]; omega
          simp -dsimp [h25, h26, h27, w2]
          refine ⟨ls.length - (i + 1), by omega, i + 1, v', J', by omega, rfl, ?_⟩
          simp -dsimp [h25, h26]
          rw [e1, List.map_append]
          exact hac'
        · rename_i hge
          have hii : i = ls.length := by omega
          subst hii
          rw [List.take_length] at hac
          have ac2 := hac
          obtain ⟨u1, u2, u3⟩ := hac
          rcases u3 with ⟨u3, rfl⟩ | ⟨j, cells, rfl, u4, u5, u6⟩
          · have e0 : inV (catA ls) = .list [] false := by unfold inV; rw [u3]
            rw [e0]
            simp -dsimp [wFix_by, isInl]
          · simp -dsimp [-frz_own, wFix_by, isInl]
            refine frz_acgQ 0 (k := 11) (by simpa using ac2) (by simp) (.inl ⟨rfl, by simp⟩) fun H' _ _ => ?_
            simp -dsimp [inV]
theorem cat_int {a b : List Int} (ht : a.length + b.length ≤ 10000000) : Comes p 169 [.list [inV a, inV b] false] (inV (a ++ b)) := by
  have h := concat_int (ls := [a, b]) (by simp [totA]; omega) (by simp)
  simpa [catA] using h
theorem grow_slo {n : Int} {H : List Ob} {Q : CR → List Ob → Prop} (h0 : 0 ≤ n) (h1 : n ≤ 10000000) (hq : ∀ v J, Ac 2 H.length J v [] → Q (.ret v) (H ++ J)) : WCall p 354 [.list [] true, .int .i64 n] H Q := by
  have hr : reach H 1000 (refsL [.list [] true, .int .i64 n]) [] = some [] := rfl
  refine WCall_inl (by kernel_rfl) hr ?_
  refine WFun_of w354 rfl rfl k354 ?_
  have e0 : IntKind.i64.wrap n = n := Fz.w64 (by omega) (by omega)
  have z0 : IntKind.i64.wrap 0 = 0 := Fz.w64 (by omega) (by omega)
  have none : Q (renR (backK [] H.length) (CR.ret (V.list [] true))) (backH [] (CR.ret (V.list [] true)) [] H) := by
    have := hq (.list [] true) [] (ac_nil (by decide))
    simpa [renR, ren, renL, backH, crV, refs, refsL, setAll] using this
  by_cases hn : n = 0
  · subst hn
    simp -dsimp [w354, renL, ren]
    have e1 : IntKind.i64.wrap (-IntKind.i64.wrap 0) = 0 := by rw [z0]; exact z0
    rw [e1, if_neg (by omega)]
    exact none
  · have hp : 0 < n := by omega
    have hz : ¬ n < 0 := by omega
    simp -dsimp [w354, renL, ren, e0, hp, hz]
    have e1 : IntKind.i64.wrap (n - IntKind.i64.wrap 0) = n := by rw [z0, Int.sub_zero]; exact e0
    rw [e1, if_pos hp]
    have hl : (zeros [V.int .i64 0, V.bool false] n.toNat).length = n.toNat * 2 := zeros_len _
    first
    | (refine ⟨⟨h0, by omega, by omega⟩, ?_⟩
       rw [if_neg (by omega)]
       refine ⟨⟨hl, by simp [capOk]; omega⟩, ?_⟩)
    | (rw [if_neg (by omega)]
       refine ⟨⟨h0, by omega, by omega⟩, by simp [capOk]; omega, ?_⟩)
    | (refine ⟨⟨h0, by omega, by omega⟩, ?_⟩
       rw [if_neg (by omega)]
       refine ⟨by simp [capOk]; omega, ?_⟩)
    have := hq (.own H.length 0 0 2) [.live (zeros [V.int .i64 0, V.bool false] n.toNat)] ⟨rfl, by decide, .inr ⟨0, _, rfl, rfl, by simp, by simp [flat]⟩⟩
    have e2 : renOb (backK [] H.length) (.live (zeros [V.int .i64 0, V.bool false] n.toNat)) = .live (zeros [V.int .i64 0, V.bool false] n.toNat) := by
      rw [renOb, groundL_ren _ _ (zeros_gd (by simp) _)]
    try rw [show List.replicate n.toNat (V.int .i64 0) = zeros [V.int .i64 0, V.bool false] n.toNat from by simp]
    simp only [renR, ren, renL, backH, crV, refs, refsL, setAll, List.take_zero, List.flatMap_nil, List.append_nil, List.length_nil, List.any_cons, List.map_nil, List.drop_zero, List.map_cons, e2, List.any_nil]
    simpa [backK] using this
theorem concat_slo {ls : List (List Slo)} (ht : totA ls ≤ 10000000) (hl : ls.length ≤ 1000000) : Comes p 307 [.list (ls.map slosV) false] (slosV (catA ls)) := by
  refine Comes_of w307 rfl rfl k307 ?_ ?_ ?_ ?_
  · simp
  · simp
  · simp
  simp -dsimp [w307]
  refine xL_by (by kernel_rfl) (fun k e H => ∃ i : Nat, i ≤ ls.length ∧ k = ls.length - i ∧ e 0 = .list (ls.map slosV) false ∧ e 9 = .list (ls.map slosV) false ∧ e 10 = .int .i64 ls.length ∧ e 11 = .int .i64 i ∧ e 3 = .int .i64 (totA (ls.take i)) ∧ H = []) ls.length ?_ ?_
  · exact ⟨0, by simp [totA]⟩
  · rintro k e H ⟨i, hi, hk, h0, h9, h10, h11, h3, rfl⟩
    have t1 := totA_take ls i
    simp -dsimp [h0, h9, h10, h11, h3]
    split
    · rename_i hlt
      have t2 := totA_succ ls i hlt
      have t3 := totA_take ls (i + 1)
      have w1 : IntKind.i64.wrap (((totA (ls.take i) : Nat) : Int) + ((ls[i].length : Nat) : Int)) = ((totA (ls.take (i + 1)) : Nat) : Int) := by rw [Fz.w64 (by omega) (by omega)]; omega
      have w2 : IntKind.i64.wrap ((i : Int) + 1) = ((i + 1 : Nat) : Int) := by rw [Fz.w64 (by omega) (by omega)]; omega
      have g : ls[i]?.getD default = ls[i] := by simp [hlt]
      refine ⟨hlt, ?_⟩
      rw [g, w1]
      refine ⟨by omega, ?_⟩
      refine ⟨ls.length - (i + 1), by omega, i + 1, by omega, rfl, ?_⟩
      simp -dsimp [h0, h9, h10]
      rw [w2]; omega
    · rename_i hge
      have hii : i = ls.length := by omega
      subst hii
      rw [List.take_length] at h3 ⊢
      refine grow_slo (by omega) (by omega) fun v J hac => ?_
      simp -dsimp [h0, h9, h10, h11, h3]
      refine xL_by (by kernel_rfl) (fun k e H => ∃ (i : Nat) (v : V) (J : List Ob), i ≤ ls.length ∧ k = ls.length - i ∧ e 25 = .list (ls.map slosV) false ∧ e 26 = .int .i64 ls.length ∧ e 27 = .int .i64 i ∧ e 6 = v ∧ Ac 2 0 J v ((catA (ls.take i)).map sloV) ∧ H = J) ls.length ?_ ?_
      · exact ⟨0, v, J, by simp [h0]; exact hac⟩
      · rintro k e H ⟨i, v, J, hi, hk, h25, h26, h27, h6, hac, rfl⟩
        simp -dsimp [h25, h26, h27, h6]
        split
        · rename_i hlt
          have g : ls[i]?.getD default = ls[i] := by simp [hlt]
          refine ⟨hlt, ?_⟩
          rw [g]
          have t2 := totA_succ ls i hlt
          have t3 := totA_take ls (i + 1)
          have t4 : (catA (ls.take i)).length = totA (ls.take i) := catA_len _
          have e1 := catA_succ ls i hlt
          refine app_ac 0 (m := ls[i].map sloV) (by simpa using hac) (by simp) (by simp) (by simp) (by simp) (by simp) (by rw [List.length_map, List.length_map, t4]; simp [capOk]; omega) fun v' J' hac' => ?_
          have w2 : IntKind.i64.wrap ((i : Int) + 1) = ((i + 1 : Nat) : Int) := by rw [Fz.w64 (by omega) (by omega)]; omega
          simp -dsimp [h25, h26, h27, w2]
          refine ⟨ls.length - (i + 1), by omega, i + 1, v', J', by omega, rfl, ?_⟩
          simp -dsimp [h25, h26]
          rw [e1, List.map_append]
          exact hac'
        · rename_i hge
          have hii : i = ls.length := by omega
          subst hii
          rw [List.take_length] at hac
          have ac2 := hac
          obtain ⟨u1, u2, u3⟩ := hac
          rcases u3 with ⟨u3, rfl⟩ | ⟨j, cells, rfl, u4, u5, u6⟩
          · have e0 : slosV (catA ls) = .list [] false := by unfold slosV; rw [u3]
            rw [e0]
            simp -dsimp [wFix_by, isInl]
          · simp -dsimp [-frz_own, wFix_by, isInl]
            refine frz_acgQ 0 (k := 11) (by simpa using ac2) (by simp) (.inr ⟨by decide, by simp; exact fun x _ => ⟨_, rfl⟩⟩) fun H' _ _ => ?_
            simp -dsimp [slosV]
theorem cat_slo {a b : List Slo} (ht : a.length + b.length ≤ 10000000) : Comes p 307 [.list [slosV a, slosV b] false] (slosV (a ++ b)) := by
  have h := concat_slo (ls := [a, b]) (by simp [totA]; omega) (by simp)
  simpa [catA] using h
theorem aPush_s {l : List Int} {d v : Int} (hl : l.length ≤ 100000) : Comes p 346 [inV l, .int .i64 d, inV [v]] (if (l.length : Int) + 1 ≤ d then .tuple [inV (l ++ [v]), .int .i64 0] else .tuple [inV [], .int .i64 (-3)]) := by
  have c := cat_int (a := l) (b := [v]) (by simp; omega)
  have w1 : IntKind.i64.wrap ((l.length : Int) + 1) = (l.length : Int) + 1 := Fz.w64 (by omega) (by omega)
  refine Comes_of w346 rfl rfl k346 ?_ ?_ ?_ ?_
  · simp
  · simp
  · split <;> simp
  · by_cases h : (l.length : Int) + 1 ≤ d
    · rw [if_pos h]
      have h' : ¬ d < (l.length : Int) + 1 := by omega
      have e1 : inV [v] = .list [.int .i64 v] false := rfl
      rw [e1] at c ⊢
      simp -dsimp [w346, w1, h']
      refine call_frz rfl ?_
      simp -dsimp []
      refine Eq.mpr (callN_by (show Comes p 169 [.list [inV l, .list [.int .i64 v] false] false] (inV (l ++ [v])) from c)) ?_
      simp -dsimp [wFix_by, isInl]
    · rw [if_neg h]
      have h' : d < (l.length : Int) + 1 := by omega
      have e1 : inV [v] = .list [.int .i64 v] false := rfl
      rw [e1]
      simp -dsimp [w346, w1, h', wFix_by, isInl, inV]
end Fz.D
set_option maxRecDepth 100000
namespace Fz.D
open Go
theorem give_W {x : Stp} {w : Int} {c : Bool} {q : St × Int} (v : Int) (hl : q.1.data.length ≤ 100000) : Does p 252 (wk x w c q) [.int .i64 v] (.tuple []) (wk x w c (giveM x v q)) := by
  obtain ⟨s, e⟩ := q
  have hl : s.data.length ≤ 100000 := hl
  have cc := aPush_s (l := s.data) (d := x.depth) (v := v) hl
  have ev : inV [v] = .list [.int .i64 v] false := rfl
  rw [ev] at cc
  refine doesQ_of (by kernel_rfl) wk_g rfl rfl wk_g ?_
  refine WFun_of w252 rfl rfl k252 ?_
  rw [wk_e x w c s e]
  by_cases hd : (s.data.length : Int) + 1 ≤ x.depth
  · rw [if_pos hd] at cc
    have cq := fun (H : List Ob) (K : V → Prop) => quiet_nrm (p := p) (f := 346) (args := [inV s.data, .int .i64 x.depth, .list [.int .i64 v] true]) (H := H) (K := K) rfl (by simp) (by simp) cc
    simp -dsimp [w252, cq, fillV, splice, chunk, wOpt, chunks]
    rw [← wk_e x w c s e]
    refine doesQ_go must_t rfl ?_
    simp -dsimp []
    by_cases he : e = 0
    · subst he
      refine doesQ_go ok_0 rfl ?_
      simp -dsimp [giveM, hd, wk_e]
    · refine doesQ_go (ok_n he) rfl ?_
      simp -dsimp [giveM, he]
  · rw [if_neg hd] at cc
    have cq := fun (H : List Ob) (K : V → Prop) => quiet_nrm (p := p) (f := 346) (args := [inV s.data, .int .i64 x.depth, .list [.int .i64 v] true]) (H := H) (K := K) rfl (by simp) (by simp) cc
    simp -dsimp [w252, cq, fillV, splice, chunk, wOpt, chunks]
    rw [← wk_e x w c s e]
    by_cases he : e = 0
    · subst he
      refine doesQ_go must_f rfl ?_
      simp -dsimp []
      refine doesQ_go (ok_n (by decide)) rfl ?_
      simp -dsimp [giveM, hd]
    · refine doesQ_go (must_n _ he) rfl ?_
      simp -dsimp []
      refine doesQ_go (ok_n he) rfl ?_
      simp -dsimp [giveM, he]
theorem back_L {x : Stp} {w : Int} {c : Bool} {q : St × Int} {c2 : Bool} (m : List Slo) (hl : q.1.ret.length ≤ 100000) (hm : m.length ≤ 10) : Does p 159 (wk x w c q) [.list (m.map sloV) c2] (.tuple []) (wk x w (backC x m c q) (backM x m q)) := by
  obtain ⟨s, e⟩ := q
  have hl : s.ret.length ≤ 100000 := hl
  have w1 : IntKind.i64.wrap ((s.ret.length : Int) + m.length) = (s.ret.length : Int) + m.length := Fz.w64 (by omega) (by omega)
  have cc := cat_slo (a := s.ret) (b := m) (by omega)
  refine doesQ_of (by kernel_rfl) wk_g (by simp) rfl wk_g ?_
  refine WFun_of w159 rfl rfl k159 ?_
  rw [wk_e x w c s e]
  by_cases hd : (s.ret.length : Int) + m.length ≤ x.depth
  · simp -dsimp [w159, w1, decide_eq_true hd]
    rw [← wk_e x w c s e]
    refine doesQ_go must_t rfl ?_
    simp -dsimp []
    by_cases he : e = 0
    · subst he
      refine doesQ_go ok_0 rfl ?_
      rw [wk_e x w c s 0]
      simp -dsimp [fillV, splice, chunk]
      refine call_frz rfl ?_
      simp -dsimp []
      refine Eq.mpr (callN_by (show Comes p 307 [.list [slosV s.ret, .list (m.map sloV) false] false] (slosV (s.ret ++ m)) from cc)) ?_
      simp -dsimp [backM, backC, hd, wk_e]
      simp [slosV]
    · refine doesQ_go (ok_n he) rfl ?_
      simp -dsimp [backM, backC, he]
  · simp -dsimp [w159, w1, decide_eq_false hd]
    rw [← wk_e x w c s e]
    by_cases he : e = 0
    · subst he
      refine doesQ_go must_f rfl ?_
      simp -dsimp []
      refine doesQ_go (ok_n (by decide)) rfl ?_
      simp -dsimp [backM, backC, hd]
    · refine doesQ_go (must_n _ he) rfl ?_
      simp -dsimp []
      refine doesQ_go (ok_n he) rfl ?_
      simp -dsimp [backM, backC, he]
end Fz.D
set_option maxRecDepth 100000
namespace Fz.D
open Go
theorem wk_ne {x : Stp} {w : Int} {c0 : Bool} {q : St × Int} {l : List V} (h : l.length ≤ 21) : ¬ wk x w c0 q = l := by
  intro e
  have := congrArg List.length e
  simp [wk] at this
  omega
theorem backs3_W {H : List Ob} {i : Nat} {x : Stp} {w : Int} {c0 : Bool} {q : St × Int} (hi : H[i]? = some (.live (wk x w c0 q))) (hl : q.1.ret.length ≤ 100000)
    {Q : CR → List Ob → Prop} (hq : ∀ J, J[0]? = some (.live ((backsM 3 q).1.map (V.int .i64))) → Q (.ret (.own H.length 0 3 1)) (H.set i (.live (wk x w (backsC 3 c0 q) (backsM 3 q).2)) ++ J)) : xCall p 258 [.ptr i 0, .int .i64 3] H Q := by
  obtain ⟨s, e⟩ := q
  have hl : s.ret.length ≤ 100000 := hl
  have hre : reach H 1000 (refsL [.ptr i 0, .int .i64 3]) [] = some [i] := reachQ hi (groundL_refs _ wk_g)
  refine WCall_inl (by kernel_rfl) hre ?_
  have e1 : ([i] : List Nat).idxOf i = 0 := by simp
  have hi' : H[i]?.getD .dead = .live (wk x w c0 (s, e)) := by rw [hi]; rfl
  have rb : ∀ g c0 q, renL g (wk x w c0 q) = wk x w c0 q := fun g c0 q => groundL_ren g _ wk_g
  have k1 : backK [i] H.length 1 = H.length := by simp [backK]
  have back : ∀ (cz : Bool) (s' : St × Int) (l : List V) (T : List Ob), groundL l = true → backH [i] (.ret (.own 1 0 3 1)) (.live (wk x w cz s') :: .live l :: T) H = H.set i (.live (wk x w cz s')) ++ (.live l :: T.map (renOb (backK [i] H.length))) := by
    intro cz s' l T hl
    unfold backH
    rw [if_pos (by simp [crV, refs])]
    simp [setAll, renOb, rb, groundL_ren _ _ hl]
  simp -dsimp [renL, ren, renOb, e1, hi', rb]
  refine WFun_of w258 rfl rfl k258 ?_
  rw [wk_e x w c0 s e]
  by_cases hd : 3 ≤ s.ret.length
  · obtain ⟨R, a, b, c, hR⟩ : ∃ (R : List Slo) (a b c : Slo), s.ret = R ++ [a, b, c] := by
      refine ⟨s.ret.take (s.ret.length - 3), s.ret[s.ret.length - 3], s.ret[s.ret.length - 2], s.ret[s.ret.length - 1], ?_⟩
      conv => lhs; rw [← List.take_append_drop (s.ret.length - 3) s.ret]
      congr 1
      rw [List.drop_eq_getElem_cons (by omega), List.drop_eq_getElem_cons (by omega), List.drop_eq_getElem_cons (by omega), List.drop_of_length_le (by omega)]
      simp only [show s.ret.length - 3 + 1 = s.ret.length - 2 from by omega, show s.ret.length - 2 + 1 = s.ret.length - 1 from by omega]
    have hlen : s.ret.length = R.length + 3 := by rw [hR]; simp
    have hm : s.ret.map sloV = R.map sloV ++ [sloV a, sloV b, sloV c] := by rw [hR]; simp
    have hR1 : R.length ≤ 100000 := by omega
    have w1 : IntKind.i64.wrap (((R.length : Int) + 1 + 1 + 1) - 3) = (R.length : Int) := by rw [Fz.w64 (by omega) (by omega)]; omega
    have w2 : IntKind.i64.wrap (((R.length : Int) + 3) - 3) = (R.length : Int) := by rw [Fz.w64 (by omega) (by omega)]; omega
    have hc0 : (0 : Int) ≤ R.length := by omega
    have w3 : IntKind.i64.wrap (R.length : Int) = (R.length : Int) := Fz.w64 (by omega) (by omega)
    have bk : e = 0 → backsM 3 (s, e) = ([a.v, b.v, c.v], ({ s with ret := R }, 0)) := by
      rintro rfl
      unfold backsM
      rw [if_pos rfl, if_pos hd, hR]
      simp
    have bkc : e = 0 → backsC 3 c0 (s, e) = true := by
      rintro rfl
      unfold backsC
      simp [hd]
    have bnc : ¬ e = 0 → backsC 3 c0 (s, e) = c0 := by
      intro h
      unfold backsC
      simp [h]
    have bn : ¬ e = 0 → backsM 3 (s, e) = ([0, 0, 0], (s, e)) := by
      intro h
      unfold backsM
      rw [if_neg h]
      rfl
    rw [hm]
    simp -dsimp [w258, w1, w2, w3, hc0]
    rw [← hm, ← wk_e x w c0 s e]
    refine doesQ_go must_t rfl ?_
    simp -dsimp []
    by_cases he : e = 0
    · subst he
      refine doesQ_go ok_0 rfl ?_
      rw [wk_e x w c0 s 0, hm]
      simp -dsimp [w1, w2, w3, hc0]
      have wa : IntKind.i64.wrap 1 = 1 := Fz.w64 (by omega) (by omega)
      have wb : IntKind.i64.wrap 2 = 2 := Fz.w64 (by omega) (by omega)
      have wc : IntKind.i64.wrap 3 = 3 := Fz.w64 (by omega) (by omega)
      refine xL_one (by kernel_rfl) ?_
      simp -dsimp [wa, wb, wc, roundL]
      refine xL_one (by kernel_rfl) ?_
      simp -dsimp [wa, wb, wc, roundL]
      refine xL_one (by kernel_rfl) ?_
      simp -dsimp [wa, wb, wc, roundL]
      refine xL_one (by kernel_rfl) ?_
      simp -dsimp [wa, wb, wc, roundL]
      have q := hq [.live [.int .i64 a.v, .int .i64 b.v, .int .i64 c.v], .live [.int .i64 a.v, .bool a.call], .live [.int .i64 b.v, .bool b.call], .live [.int .i64 c.v, .bool c.call]] (by rw [bk rfl]; rfl)
      rw [bk rfl, bkc rfl] at q
      have e4 := back true ({ s with ret := R }, 0) [.int .i64 a.v, .int .i64 b.v, .int .i64 c.v] ([.live [.int .i64 a.v, .bool a.call], .live [.int .i64 b.v, .bool b.call], .live [.int .i64 c.v, .bool c.call]]) rfl
      rw [wk_e] at e4
      rw [e4]
      simpa [renR, ren, renOb, renL, k1, wk_e] using q
    · refine doesQ_go (ok_n he) rfl ?_
      have q := hq [.live [.int .i64 0, .int .i64 0, .int .i64 0]] (by rw [bn he]; rfl)
      rw [bn he, bnc he] at q
      have e4 := back c0 (s, e) [.int .i64 0, .int .i64 0, .int .i64 0] [] rfl
      simp -dsimp []
      rw [e4]
      simpa [renR, ren, renOb, renL, k1] using q
  · have w1 : IntKind.i64.wrap ((s.ret.length : Int) - 3) = (s.ret.length : Int) - 3 := Fz.w64 (by omega) (by omega)
    have hc0 : ¬ (0 : Int) ≤ (s.ret.length : Int) - 3 := by omega
    have c1 : ¬ (3 : Int) ≤ (s.ret.length : Int) := by omega
    have bk : e = 0 → backsM 3 (s, e) = ([0, 0, 0], (s, -6)) := by
      rintro rfl
      unfold backsM
      rw [if_pos rfl, if_neg hd]
      rfl
    have bkc : e = 0 → backsC 3 c0 (s, e) = c0 := by
      rintro rfl
      unfold backsC
      simp [hd]
    have bnc : ¬ e = 0 → backsC 3 c0 (s, e) = c0 := by
      intro h
      unfold backsC
      simp [h]
    have bn : ¬ e = 0 → backsM 3 (s, e) = ([0, 0, 0], (s, e)) := by
      intro h
      unfold backsM
      rw [if_neg h]
      rfl
    simp -dsimp [w258, w1, hc0, c1]
    rw [← wk_e x w c0 s e]
    by_cases he : e = 0
    · subst he
      refine doesQ_go must_f rfl ?_
      simp -dsimp []
      refine doesQ_go (ok_n (by decide)) rfl ?_
      have q := hq [.live [.int .i64 0, .int .i64 0, .int .i64 0]] (by rw [bk rfl]; rfl)
      rw [bk rfl, bkc rfl] at q
      have e4 := back c0 (s, -6) [.int .i64 0, .int .i64 0, .int .i64 0] [] rfl
      simp -dsimp []
      rw [e4]
      simpa [renR, ren, renOb, renL, k1] using q
    · refine doesQ_go (must_n _ he) rfl ?_
      simp -dsimp []
      refine doesQ_go (ok_n he) rfl ?_
      have q := hq [.live [.int .i64 0, .int .i64 0, .int .i64 0]] (by rw [bn he]; rfl)
      rw [bn he, bnc he] at q
      have e4 := back c0 (s, e) [.int .i64 0, .int .i64 0, .int .i64 0] [] rfl
      simp -dsimp []
      rw [e4]
      simpa [renR, ren, renOb, renL, k1] using q
theorem back3_O {H : List Ob} {i j : Nat} {x : Stp} {w a b c : Int} {fl c0 : Bool} {q : St × Int} (hi : H[i]? = some (.live (wk x w c0 q))) (hj : H[j]? = some (.live [.int .i64 a, .bool fl, .int .i64 b, .bool fl, .int .i64 c, .bool fl])) (hl : q.1.ret.length ≤ 100000)
    {Q : CR → List Ob → Prop} (hq : ∀ o, Q (.ret (.tuple [])) ((H.set i (.live (wk x w (backC x ([⟨a, fl⟩, ⟨b, fl⟩, ⟨c, fl⟩] : List Slo) c0 q) (backM x ([⟨a, fl⟩, ⟨b, fl⟩, ⟨c, fl⟩] : List Slo) q)))).set j o)) : xCall p 159 [.ptr i 0, .own j 0 3 2] H Q := by
  obtain ⟨s, e⟩ := q
  have hl : s.ret.length ≤ 100000 := hl
  have hij : i ≠ j := by
    rintro rfl
    rw [hi] at hj
    exact wk_ne (by simp) (Ob.live.inj (Option.some.inj hj))
  have hre : reach H 1000 (refsL [.ptr i 0, .own j 0 3 2]) [] = some [i, j] := by
    rw [show refsL [.ptr i 0, .own j 0 3 2] = [i, j] from by simp [refsL, refs]]
    refine (reach_go (k := 999) rfl hi).trans ?_
    rw [show refsOb (.live (wk x w c0 (s, e))) = [] from groundL_refs _ wk_g]
    refine (reach_go (k := 998) (by simp; omega) hj).trans ?_
    exact reach_end (k := 997)
  refine WCall_inl (by kernel_rfl) hre ?_
  have e1 : ([i, j] : List Nat).idxOf i = 0 := by simp
  have e2 : ([i, j] : List Nat).idxOf j = 1 := by
    have e0 : (i == j) = false := by rw [beq_eq_false_iff_ne]; exact hij
    simp [List.idxOf_cons, e0]
  have hi' : H[i]?.getD .dead = .live (wk x w c0 (s, e)) := by rw [hi]; rfl
  have hj' : H[j]?.getD .dead = .live [.int .i64 a, .bool fl, .int .i64 b, .bool fl, .int .i64 c, .bool fl] := by rw [hj]; rfl
  have rb : ∀ g c0 q, renL g (wk x w c0 q) = wk x w c0 q := fun g c0 q => groundL_ren g _ wk_g
  have back : ∀ (cz : Bool) (s' : St × Int) (o : Ob) (T : List Ob), refsOb o = [] → (∀ g, renOb g o = o) → Q (renR (backK [i, j] H.length) (.ret (.tuple []))) (backH [i, j] (.ret (.tuple [])) (.live (wk x w cz s') :: o :: T) H) = Q (.ret (.tuple [])) ((H.set i (.live (wk x w cz s'))).set j o) := by
    intro cz s' o T h1 h2
    unfold backH
    rw [if_neg (by simp [crV, refs, refsL, h1, show refsOb (.live (wk x w cz s')) = [] from groundL_refs _ wk_g])]
    have r1 : ∀ g c0 q, renOb g (.live (wk x w c0 q)) = .live (wk x w c0 q) := fun g c0 q => by rw [renOb, rb]
    simp [setAll, r1, h2, renR, ren, renL]
  simp -dsimp [renL, ren, renOb, e1, e2, hi', hj', rb]
  refine WFun_of w159 rfl rfl k159 ?_
  have w1 : IntKind.i64.wrap ((s.ret.length : Int) + 3) = (s.ret.length : Int) + 3 := Fz.w64 (by omega) (by omega)
  have cc := cat_slo (a := s.ret) (b := ([⟨a, fl⟩, ⟨b, fl⟩, ⟨c, fl⟩] : List Slo)) (by simp; omega)
  rw [wk_e x w c0 s e]
  by_cases hd : (s.ret.length : Int) + 3 ≤ x.depth
  · have bk : e = 0 → backM x ([⟨a, fl⟩, ⟨b, fl⟩, ⟨c, fl⟩] : List Slo) (s, e) = ({ s with ret := s.ret ++ [⟨a, fl⟩, ⟨b, fl⟩, ⟨c, fl⟩] }, 0) := by
      rintro rfl
      unfold backM
      rw [if_pos rfl, if_pos (by simpa using hd)]
    have bkc : e = 0 → backC x ([⟨a, fl⟩, ⟨b, fl⟩, ⟨c, fl⟩] : List Slo) c0 (s, e) = false := by
      rintro rfl
      unfold backC
      simp [hd]
    have bnc : ¬ e = 0 → backC x ([⟨a, fl⟩, ⟨b, fl⟩, ⟨c, fl⟩] : List Slo) c0 (s, e) = c0 := by
      intro h
      unfold backC
      simp [h]
    have bn : ¬ e = 0 → backM x ([⟨a, fl⟩, ⟨b, fl⟩, ⟨c, fl⟩] : List Slo) (s, e) = (s, e) := by
      intro h
      unfold backM
      rw [if_neg h]
    simp -dsimp [w159, w1, decide_eq_true hd]
    rw [← wk_e x w c0 s e]
    refine doesQ_go must_t rfl ?_
    simp -dsimp []
    by_cases he : e = 0
    · subst he
      refine doesQ_go ok_0 rfl ?_
      rw [wk_e x w c0 s 0]
      simp -dsimp [fillV, splice, chunk]
      refine call_frz rfl ?_
      simp -dsimp []
      refine ⟨.inl (by decide), ?_⟩
      rw [show chunk 2 3 [.int .i64 a, .bool fl, .int .i64 b, .bool fl, .int .i64 c, .bool fl] = [sloV ⟨a, fl⟩, sloV ⟨b, fl⟩, sloV ⟨c, fl⟩] from rfl]
      simp -dsimp []
      refine Eq.mpr (callN_by (show Comes p 307 [.list [slosV s.ret, .list [sloV ⟨a, fl⟩, sloV ⟨b, fl⟩, sloV ⟨c, fl⟩] false] false] (slosV (s.ret ++ [⟨a, fl⟩, ⟨b, fl⟩, ⟨c, fl⟩])) from cc)) ?_
      simp -dsimp []
      have q := hq (.fixed [.int .i64 a, .bool fl, .int .i64 b, .bool fl, .int .i64 c, .bool fl])
      rw [bk rfl, bkc rfl] at q
      exact Eq.mpr (back false ({ s with ret := s.ret ++ [⟨a, fl⟩, ⟨b, fl⟩, ⟨c, fl⟩] }, 0) (.fixed [.int .i64 a, .bool fl, .int .i64 b, .bool fl, .int .i64 c, .bool fl]) _ rfl (fun _ => rfl)) q
    · refine doesQ_go (ok_n he) rfl ?_
      have q := hq (.live [.int .i64 a, .bool fl, .int .i64 b, .bool fl, .int .i64 c, .bool fl])
      rw [bn he, bnc he] at q
      simp -dsimp []
      rw [back _ _ _ _ rfl (fun _ => rfl)]
      exact q
  · have bk : e = 0 → backM x ([⟨a, fl⟩, ⟨b, fl⟩, ⟨c, fl⟩] : List Slo) (s, e) = (s, -5) := by
      rintro rfl
      unfold backM
      rw [if_pos rfl, if_neg (by simpa using hd)]
    have bkc : e = 0 → backC x ([⟨a, fl⟩, ⟨b, fl⟩, ⟨c, fl⟩] : List Slo) c0 (s, e) = c0 := by
      rintro rfl
      unfold backC
      simp [hd]
    have bnc : ¬ e = 0 → backC x ([⟨a, fl⟩, ⟨b, fl⟩, ⟨c, fl⟩] : List Slo) c0 (s, e) = c0 := by
      intro h
      unfold backC
      simp [h]
    have bn : ¬ e = 0 → backM x ([⟨a, fl⟩, ⟨b, fl⟩, ⟨c, fl⟩] : List Slo) (s, e) = (s, e) := by
      intro h
      unfold backM
      rw [if_neg h]
    simp -dsimp [w159, w1, decide_eq_false hd]
    rw [← wk_e x w c0 s e]
    have q := hq (.live [.int .i64 a, .bool fl, .int .i64 b, .bool fl, .int .i64 c, .bool fl])
    by_cases he : e = 0
    · subst he
      refine doesQ_go must_f rfl ?_
      simp -dsimp []
      refine doesQ_go (ok_n (by decide)) rfl ?_
      rw [bk rfl, bkc rfl] at q
      simp -dsimp []
      rw [back _ _ _ _ rfl (fun _ => rfl)]
      exact q
    · refine doesQ_go (must_n _ he) rfl ?_
      simp -dsimp []
      refine doesQ_go (ok_n he) rfl ?_
      rw [bn he, bnc he] at q
      simp -dsimp []
      rw [back _ _ _ _ rfl (fun _ => rfl)]
      exact q
end Fz.D
set_option maxRecDepth 100000
namespace Fz.D
open Go
theorem backs3_eq (q : St × Int) : ∃ a b c, (backsM 3 q).1 = [a, b, c] := by
  have h : (backsM 3 q).1.length = 3 := by
    unfold backsM
    split
    · split
      · simp; omega
      · rfl
    · rfl
  match (backsM 3 q).1, h with
  | [a, b, c], _ => exact ⟨a, b, c, rfl⟩
def lenOk (n : Nat) (q : St × Int) : Prop := q.1.data.length ≤ n ∧ q.1.ret.length ≤ n
theorem lenOk_mono {n m : Nat} {q : St × Int} (h : lenOk n q) (hm : n ≤ m) : lenOk m q := ⟨by have := h.1; omega, by have := h.2; omega⟩
theorem lenOk_take {n : Nat} {q : St × Int} (h : lenOk n q) : lenOk n (takeM q).2 := by
  obtain ⟨h1, h2⟩ := h
  unfold takeM
  split
  · exact ⟨by simp; omega, h2⟩
  · exact ⟨h1, h2⟩
theorem lenOk_give {n : Nat} {x : Stp} {v : Int} {q : St × Int} (h : lenOk n q) : lenOk (n + 1) (giveM x v q) := by
  obtain ⟨h1, h2⟩ := h
  unfold giveM
  split
  · split
    · exact ⟨by simp; omega, by show q.1.ret.length ≤ n + 1; omega⟩
    · exact ⟨by show q.1.data.length ≤ n + 1; omega, by show q.1.ret.length ≤ n + 1; omega⟩
  · exact ⟨by omega, by omega⟩
theorem lenOk_backs {n k : Nat} {q : St × Int} (h : lenOk n q) : lenOk n (backsM k q).2 := by
  obtain ⟨h1, h2⟩ := h
  unfold backsM
  split
  · split
    · exact ⟨h1, by simp; omega⟩
    · exact ⟨h1, h2⟩
  · exact ⟨h1, h2⟩
def litM (x : Stp) (w : Int) (q : St × Int) : St × Int := giveM x w q
def doM (x : Stp) (w : Int) (q : St × Int) : St × Int := backM x [⟨w, false⟩, ⟨(takeM (takeM q).2).1, false⟩, ⟨(takeM q).1, false⟩] (takeM (takeM q).2).2
def g3 (l : List Int) (i : Nat) : Int := l.getD i 0
def againM (x : Stp) (w : Int) (l : List Int) (n : Int) (q : St × Int) : St × Int := jumpM w (backM x [⟨g3 l 0, false⟩, ⟨g3 l 1, false⟩, ⟨n, false⟩] q)
def loopM (x : Stp) (w : Int) (q : St × Int) : St × Int := if IntKind.i64.wrap (g3 (backsM 3 q).1 2 + 1) = g3 (backsM 3 q).1 1 then (backsM 3 q).2 else againM x w (backsM 3 q).1 (IntKind.i64.wrap (g3 (backsM 3 q).1 2 + 1)) (backsM 3 q).2
def toRM (x : Stp) (q : St × Int) : St × Int := backM x [⟨(takeM q).1, false⟩] (takeM q).2
def fromRM (x : Stp) (q : St × Int) : St × Int := giveM x (g3 (backsM 1 q).1 0) (backsM 1 q).2
def unloopM (q : St × Int) : St × Int := (backsM 3 q).2
def leaveM (q : St × Int) : St × Int := jumpM (g3 (backsM 3 q).1 0) (backsM 3 q).2
def exitM (q : St × Int) : St × Int := jumpM (g3 (backsM 1 q).1 0) (backsM 1 q).2
theorem lit_W {x : Stp} {w : Int} {c0 : Bool} {q : St × Int} (h : lenOk 50000 q) : ∃ c', Does p 251 (wk x w c0 q) [] (.tuple []) (wk x w c' (litM x w q)) := by
  have g := give_W (x := x) (w := w) (c := c0) (q := q) w (by have := h.1; omega)
  obtain ⟨s, e⟩ := q
  refine ⟨c0, ?_⟩
  refine doesQ_of (by kernel_rfl) wk_g rfl rfl wk_g ?_
  refine WFun_of w251 rfl rfl k251 ?_
  rw [wk_e x w c0 s e]
  simp -dsimp [w251]
  rw [← wk_e x w c0 s e]
  refine doesQ_go g rfl ?_
  simp -dsimp [litM]
theorem doW_W {x : Stp} {w : Int} {c0 : Bool} {q : St × Int} (h : lenOk 50000 q) : ∃ c', Does p 256 (wk x w c0 q) [] (.tuple []) (wk x w c' (doM x w q)) := by
  have t1 := take_W (x := x) (w := w) (c := c0) (q := q) (by have := h.1; omega)
  have h2 := lenOk_take h
  have t2 := take_W (x := x) (w := w) (c := c0) (q := (takeM q).2) (by have := h2.1; omega)
  have h3 := lenOk_take h2
  refine ⟨backC x [⟨w, false⟩, ⟨(takeM (takeM q).2).1, false⟩, ⟨(takeM q).1, false⟩] c0 (takeM (takeM q).2).2, ?_⟩
  refine doesQ_of (by kernel_rfl) wk_g rfl rfl wk_g ?_
  refine WFun_of w256 rfl rfl k256 ?_
  simp -dsimp [w256]
  refine doesQ_go t1 rfl ?_
  simp -dsimp []
  refine doesQ_go t2 rfl ?_
  unfold doM
  generalize hq2 : (takeM (takeM q).2).2 = q2 at *
  obtain ⟨s2, e2⟩ := q2
  rw [wk_e x w c0 s2 e2]
  have hz3 : zeros [V.int .i64 0, V.bool false] 3 = [.int .i64 0, .bool false, .int .i64 0, .bool false, .int .i64 0, .bool false] := rfl
  simp -dsimp [fillV, splice, chunk, hz3]
  rw [← wk_e x w c0 s2 e2]
  refine back3_O (i := 0) (j := 1) (q := (s2, e2)) (fl := false) (a := w) (b := (takeM (takeM q).2).1) (c := (takeM q).1) rfl rfl (by have := h3.2; omega) fun o => ?_
  simp -dsimp []
theorem again_W {H : List Ob} {i j : Nat} {x : Stp} {w a b c n : Int} {c0 : Bool} {q : St × Int} (hi : H[i]? = some (.live (wk x w c0 q))) (hj : H[j]? = some (.live [.int .i64 a, .int .i64 b, .int .i64 c])) (hl : q.1.ret.length ≤ 100000)
    {Q : CR → List Ob → Prop} (hq : Q (.ret (.tuple [])) (H.set i (.live (wk x w (backC x ([⟨a, false⟩, ⟨b, false⟩, ⟨n, false⟩] : List Slo) c0 q) (againM x w [a, b, c] n q))))) : xCall p 259 [.ptr i 0, .own j 0 3 1, .int .i64 n] H Q := by
  have hij : i ≠ j := by
    rintro rfl
    rw [hi] at hj
    exact wk_ne (by simp) (Ob.live.inj (Option.some.inj hj))
  have hre : reach H 1000 (refsL [.ptr i 0, .own j 0 3 1, .int .i64 n]) [] = some [i, j] := by
    rw [show refsL [.ptr i 0, .own j 0 3 1, .int .i64 n] = [i, j] from by simp [refsL, refs]]
    refine (reach_go (k := 999) rfl hi).trans ?_
    rw [show refsOb (.live (wk x w c0 q)) = [] from groundL_refs _ wk_g]
    refine (reach_go (k := 998) (by simp; omega) hj).trans ?_
    exact reach_end (k := 997)
  refine WCall_inl (by kernel_rfl) hre ?_
  have e1 : ([i, j] : List Nat).idxOf i = 0 := by simp
  have e2 : ([i, j] : List Nat).idxOf j = 1 := by
    have e0 : (i == j) = false := by rw [beq_eq_false_iff_ne]; exact hij
    simp [List.idxOf_cons, e0]
  have hi' : H[i]?.getD .dead = .live (wk x w c0 q) := by rw [hi]; rfl
  have hj' : H[j]?.getD .dead = .live [.int .i64 a, .int .i64 b, .int .i64 c] := by rw [hj]; rfl
  have rb : ∀ g c0 q, renL g (wk x w c0 q) = wk x w c0 q := fun g c0 q => groundL_ren g _ wk_g
  simp -dsimp [renL, ren, renOb, e1, e2, hi', hj', rb]
  refine WFun_of w259 rfl rfl k259 ?_
  have hz3 : zeros [V.int .i64 0, V.bool false] 3 = [.int .i64 0, .bool false, .int .i64 0, .bool false, .int .i64 0, .bool false] := rfl
  simp -dsimp [w259, fillV, splice, chunk, hz3, wOpt, chunks]
  refine doesQ_go (back_L (q := q) (c2 := true) ([⟨a, false⟩, ⟨b, false⟩, ⟨n, false⟩] : List Slo) hl (by simp)) rfl ?_
  simp -dsimp []
  have jw := jump_W (x := x) (w := w) (c := backC x ([⟨a, false⟩, ⟨b, false⟩, ⟨n, false⟩] : List Slo) c0 q) (q := backM x ([⟨a, false⟩, ⟨b, false⟩, ⟨n, false⟩] : List Slo) q) w
  generalize backC x ([⟨a, false⟩, ⟨b, false⟩, ⟨n, false⟩] : List Slo) c0 q = c1 at *
  generalize hq2 : backM x ([⟨a, false⟩, ⟨b, false⟩, ⟨n, false⟩] : List Slo) q = q2 at *
  have hag : againM x w [a, b, c] n q = jumpM w q2 := by unfold againM; rw [← hq2]; rfl
  rw [hag] at hq
  obtain ⟨s2, e2⟩ := q2
  rw [wk_e x w c1 s2 e2] at jw ⊢
  simp -dsimp []
  refine doesQ_go jw rfl ?_
  simp -dsimp []
  have e4 : backH [i, j] (.ret (.tuple [])) [.live (wk x w c1 (jumpM w (s2, e2))), .live [.int .i64 a, .int .i64 b, .int .i64 c]] H = H.set i (.live (wk x w c1 (jumpM w (s2, e2)))) := by
    unfold backH
    have hs : ∀ o, (H.set i o).set j (.live [.int .i64 a, .int .i64 b, .int .i64 c]) = H.set i o := fun o => setQ (by rw [List.getElem?_set_ne hij]; exact hj)
    simp [setAll, renOb, rb, renL, ren, hs]
  show Q (renR (backK [i, j] H.length) (.ret (.tuple []))) (backH [i, j] (.ret (.tuple [])) [.live (wk x w c1 (jumpM w (s2, e2))), .live [.int .i64 a, .int .i64 b, .int .i64 c]] H)
  rw [e4]
  simpa [renR, ren, renL] using hq
theorem loop_W {x : Stp} {w : Int} {c0 : Bool} {q : St × Int} (h : lenOk 50000 q) : ∃ c', Does p 257 (wk x w c0 q) [] (.tuple []) (wk x w c' (loopM x w q)) := by
  have h2 := lenOk_backs (k := 3) h
  refine ⟨if IntKind.i64.wrap (g3 (backsM 3 q).1 2 + 1) = g3 (backsM 3 q).1 1 then backsC 3 c0 q else backC x ([⟨g3 (backsM 3 q).1 0, false⟩, ⟨g3 (backsM 3 q).1 1, false⟩, ⟨IntKind.i64.wrap (g3 (backsM 3 q).1 2 + 1), false⟩] : List Slo) (backsC 3 c0 q) (backsM 3 q).2, ?_⟩
  refine doesQ_of (by kernel_rfl) wk_g rfl rfl wk_g ?_
  refine WFun_of w257 rfl rfl k257 ?_
  simp -dsimp [w257]
  refine backs3_W (i := 0) rfl (by have := h.2; omega) fun J pj => ?_
  have w1 : IntKind.i64.wrap 1 = 1 := Fz.w64 (by omega) (by omega)
  have w2 : IntKind.i64.wrap 2 = 2 := Fz.w64 (by omega) (by omega)
  obtain ⟨a, b, c, hl⟩ := backs3_eq q
  unfold loopM
  rw [hl] at pj ⊢
  generalize hq2 : (backsM 3 q).2 = q2 at *
  obtain ⟨J', rfl⟩ : ∃ J', J = .live [.int .i64 a, .int .i64 b, .int .i64 c] :: J' := by
    cases J with
    | nil => cases pj
    | cons o J' => exact ⟨J', by simpa using pj⟩
  have e2 : g3 [a, b, c] 2 = c := rfl
  have e1 : g3 [a, b, c] 1 = b := rfl
  rw [e1, e2]
  by_cases hc : IntKind.i64.wrap (c + 1) = b
  · rw [if_pos hc, if_pos hc]
    simp -dsimp [w1, w2, hc]
  · rw [if_neg hc, if_neg hc]
    simp -dsimp [w1, w2, hc]
    refine again_W (i := 0) (j := 1) (q := q2) (a := a) (b := b) (c := c) rfl rfl (by have := h2.2; omega) ?_
    simp -dsimp []
    rfl
theorem unloop_W {x : Stp} {w : Int} {c0 : Bool} {q : St × Int} (h : lenOk 50000 q) : ∃ c', Does p 295 (wk x w c0 q) [] (.tuple []) (wk x w c' (unloopM q)) := by
  refine ⟨backsC 3 c0 q, ?_⟩
  refine doesQ_of (by kernel_rfl) wk_g rfl rfl wk_g ?_
  refine WFun_of w295 rfl rfl k295 ?_
  simp -dsimp [w295]
  refine backs3_W (i := 0) rfl (by have := h.2; omega) fun J pj => ?_
  simp -dsimp [unloopM]
theorem leaveL_W {x : Stp} {w : Int} {c0 : Bool} {q : St × Int} (h : lenOk 50000 q) : ∃ c', Does p 296 (wk x w c0 q) [] (.tuple []) (wk x w c' (leaveM q)) := by
  refine ⟨backsC 3 c0 q, ?_⟩
  refine doesQ_of (by kernel_rfl) wk_g rfl rfl wk_g ?_
  refine WFun_of w296 rfl rfl k296 ?_
  simp -dsimp [w296]
  refine backs3_W (i := 0) rfl (by have := h.2; omega) fun J pj => ?_
  obtain ⟨a, b, c, hl⟩ := backs3_eq q
  have jw := jump_W (x := x) (w := w) (c := backsC 3 c0 q) (q := (backsM 3 q).2) a
  have e : leaveM q = jumpM a (backsM 3 q).2 := by unfold leaveM; rw [hl]; rfl
  rw [e]
  rw [hl] at pj
  obtain ⟨J', rfl⟩ : ∃ J', J = .live [.int .i64 a, .int .i64 b, .int .i64 c] :: J' := by
    cases J with
    | nil => cases pj
    | cons o J' => exact ⟨J', by simpa using pj⟩
  simp -dsimp []
  refine doesQ_go jw rfl ?_
  simp -dsimp []
end Fz.D
set_option maxRecDepth 100000
namespace Fz.D
open Go
theorem Comes_gk {f : FuncId} {args : List V} {u w : V} (h : (acall p 1000 f args []).map (·.1) = some (.ret u)) (hw : nrm u = w) (ha : args.all gr = true) (hn : args.all nm = true) (hi : p.inlY f = false) (hg : gk depthF u = true) (hv : gr w = true) : Comes p f args w := by
  obtain ⟨⟨r, H⟩, h1, h2⟩ := Option.map_eq_some_iff.1 h
  have h2 : r = .ret u := h2
  subst h2
  exact ⟨ha, hv, by rw [hn, Bool.or_true], 1000, u, H, h1, .inr ⟨hi, u, H, gk_freeze hg H, hw⟩⟩
def z0 : St := { mem := [], data := [], ret := [], ctl := [], words := [], spots := [], out := [], ip := 0, here := 0, at_ := 0, tok := 0, in_ := 0, err := 0, comp := false, halt := false }
def zS : V := .agg [.list [] true, .list [] true, .list [] true, .list [] true, .list [] true, .list [] true, .list [] true, .int .i64 0, .int .i64 0, .int .i64 0, .int .i64 0, .int .i64 0, .int .i64 0, .bool false, .bool false]
def resS (q : St × Int) : St := if q.2 = 0 then q.1 else z0
def hpE (s : St) (x : Stp) (c : Bool) (q : St × Int) (w : Int) : List Ob := [.live [byV s.mem, inV s.data, slosV s.ret, inV s.ctl, worsV s.words, sposV s.spots, byV s.out, .int .i64 s.ip, .int .i64 s.here, .int .i64 s.at_, .int .i64 s.tok, .int .i64 s.in_, .int .i64 s.err, .bool s.comp, .bool s.halt],
  .live [.str x.source, byV x.input, .int .i64 x.size, .int .i64 x.depth, .int .i64 x.room], .live [.list [] true, .list [] true, .list [] true, .list [] true, .list [] true, .list [] true, .list [] true, .int .i64 0, .int .i64 0, .int .i64 0, .int .i64 0, .int .i64 0, .int .i64 0, .bool false, .bool false],
  .live [.list [] false, .list [] false, .list [] false, .list [] false, .list [] false, .list [] false, .list [] false, .int .i64 0, .int .i64 0, .int .i64 0, .int .i64 0, .int .i64 0, .int .i64 0, .bool false, .bool false],
  .live [.list [] false, .list [] false, .list [] false, .list [] false, .list [] false, .list [] false, .list [] false, .int .i64 0, .int .i64 0, .int .i64 0, .int .i64 0, .int .i64 0, .int .i64 0, .bool false, .bool false],
  .live (wk x w c q)]
theorem do_W {s : St} {x : Stp} {k w : Int} {g : FuncId} {q : St × Int} (hg : g ≠ 4000000000) (ca : Comes p 14 [.int .i64 k, inV s.data, .int .i64 x.depth] (.tuple [inV [], .int .i64 0, .bool false])) (cf : Comes p 44 [stV s, .int .i64 k] (.tuple [nrm zS, .int .i64 0, .bool false]))
    (cd : Comes p 45 [stV s, stpV x, .int .i64 k] (.tuple [nrm zS, .int .i64 0, .bool false])) (co : Comes p 46 [.int .i64 k] (.fn (.func g) [] [])) (hD : ∃ c', Does p g (wk x w false (s, 0)) [] (.tuple []) (wk x w c' q)) :
    Comes p 25 [stV s, stpV x, .int .i64 k, .int .i64 w] (.tuple [stV (resS q), .int .i64 q.2]) := by
  refine Comes_of w25 rfl rfl k25 ?_ ?_ ?_ ?_
  · simp
  · simp
  · simp
  · simp only [stV, stpV] at cf cd
    simp -dsimp [w25, wFix_by, isInl, stV, stpV, zS, nrm, nrmL_eq, call_by ca, call_by cf, call_by cd, call_by co]
    refine ⟨hg, ?_⟩
    obtain ⟨c', hD⟩ := hD
    have go : ∀ {Q : CR → List Ob → Prop}, Q (.ret (.tuple [])) (hpE s x c' q w) → xCall p g [.ptr 5 0] (hpE s x false (s, 0) w) Q := fun {Q} hq => doesQ_go hD (H := hpE s x false (s, 0) w) (i := 5) (gs := []) rfl hq
    refine go ?_
    simp -dsimp [hpE]
    refine doesQ_go ok_W rfl ?_
    obtain ⟨s', e⟩ := q
    by_cases he : e = 0
    · subst he
      simp -dsimp [hpE, wk_e]
      simp -dsimp [resS, wFix_by, isInl, stV]
      rfl
    · have e1 : resS (s', e) = z0 := if_neg he
      rw [e1]
      simp -dsimp [he]
      refine WDraw_see (R := [.dead, .dead, .dead, .dead, .dead, .live (wk x w c' (s', e))]) (by kernel_rfl) (by simp [hpE]) ?_
      rw [wk_e x w c' s' e]
      simp -dsimp [hpE, wFix_by, isInl]
      simp -dsimp [stV, z0, inV, byV, slosV, worsV, sposV]
end Fz.D
set_option maxRecDepth 100000
namespace Fz.D
open Go
theorem alu_LIT (l : List Int) (d : Int) : Comes p 14 [.int .i64 2, inV l, .int .i64 d] (.tuple [inV [], .int .i64 0, .bool false]) :=
  Comes_gk (u := .tuple [.list [] true, .int .i64 0, .bool false]) (by kernel_rfl) (by simp [nrm, nrmL_eq, inV]) (by simp) (by simp) rfl (by rfl) (by simp)
theorem flow_LIT (s : St) : Comes p 44 [stV s, .int .i64 2] (.tuple [nrm zS, .int .i64 0, .bool false]) :=
  Comes_gk (u := .tuple [zS, .int .i64 0, .bool false]) (by kernel_rfl) (by simp [nrm, nrmL_eq, zS]) (by simp) (by simp) rfl (by rfl) (by rfl)
theorem defs_LIT (s : St) (x : Stp) : Comes p 45 [stV s, stpV x, .int .i64 2] (.tuple [nrm zS, .int .i64 0, .bool false]) :=
  Comes_gk (u := .tuple [zS, .int .i64 0, .bool false]) (by kernel_rfl) (by simp [nrm, nrmL_eq, zS]) (by simp) (by simp) rfl (by rfl) (by rfl)
theorem own_LIT : Comes p 46 [.int .i64 2] (.fn (.func 251) [] []) := Comes_made (by kernel_rfl) rfl (by kernel_rfl) rfl rfl
theorem alu_UNLOOP (l : List Int) (d : Int) : Comes p 14 [.int .i64 96, inV l, .int .i64 d] (.tuple [inV [], .int .i64 0, .bool false]) :=
  Comes_gk (u := .tuple [.list [] true, .int .i64 0, .bool false]) (by kernel_rfl) (by simp [nrm, nrmL_eq, inV]) (by simp) (by simp) rfl (by rfl) (by simp)
theorem flow_UNLOOP (s : St) : Comes p 44 [stV s, .int .i64 96] (.tuple [nrm zS, .int .i64 0, .bool false]) :=
  Comes_gk (u := .tuple [zS, .int .i64 0, .bool false]) (by kernel_rfl) (by simp [nrm, nrmL_eq, zS]) (by simp) (by simp) rfl (by rfl) (by rfl)
theorem defs_UNLOOP (s : St) (x : Stp) : Comes p 45 [stV s, stpV x, .int .i64 96] (.tuple [nrm zS, .int .i64 0, .bool false]) :=
  Comes_gk (u := .tuple [zS, .int .i64 0, .bool false]) (by kernel_rfl) (by simp [nrm, nrmL_eq, zS]) (by simp) (by simp) rfl (by rfl) (by rfl)
theorem own_UNLOOP : Comes p 46 [.int .i64 96] (.fn (.func 295) [] []) := Comes_made (by kernel_rfl) rfl (by kernel_rfl) rfl rfl
end Fz.D
set_option maxRecDepth 100000
namespace Fz.D
open Go
theorem alu_DO (l : List Int) (d : Int) : Comes p 14 [.int .i64 5, inV l, .int .i64 d] (.tuple [inV [], .int .i64 0, .bool false]) :=
  Comes_gk (u := .tuple [.list [] true, .int .i64 0, .bool false]) (by kernel_rfl) (by simp [nrm, nrmL_eq, inV]) (by simp) (by simp) rfl (by rfl) (by simp)
theorem flow_DO (s : St) : Comes p 44 [stV s, .int .i64 5] (.tuple [nrm zS, .int .i64 0, .bool false]) :=
  Comes_gk (u := .tuple [zS, .int .i64 0, .bool false]) (by kernel_rfl) (by simp [nrm, nrmL_eq, zS]) (by simp) (by simp) rfl (by rfl) (by rfl)
theorem defs_DO (s : St) (x : Stp) : Comes p 45 [stV s, stpV x, .int .i64 5] (.tuple [nrm zS, .int .i64 0, .bool false]) :=
  Comes_gk (u := .tuple [zS, .int .i64 0, .bool false]) (by kernel_rfl) (by simp [nrm, nrmL_eq, zS]) (by simp) (by simp) rfl (by rfl) (by rfl)
theorem own_DO : Comes p 46 [.int .i64 5] (.fn (.func 256) [] []) := Comes_made (by kernel_rfl) rfl (by kernel_rfl) rfl rfl
theorem alu_LEAVE (l : List Int) (d : Int) : Comes p 14 [.int .i64 97, inV l, .int .i64 d] (.tuple [inV [], .int .i64 0, .bool false]) :=
  Comes_gk (u := .tuple [.list [] true, .int .i64 0, .bool false]) (by kernel_rfl) (by simp [nrm, nrmL_eq, inV]) (by simp) (by simp) rfl (by rfl) (by simp)
theorem flow_LEAVE (s : St) : Comes p 44 [stV s, .int .i64 97] (.tuple [nrm zS, .int .i64 0, .bool false]) :=
  Comes_gk (u := .tuple [zS, .int .i64 0, .bool false]) (by kernel_rfl) (by simp [nrm, nrmL_eq, zS]) (by simp) (by simp) rfl (by rfl) (by rfl)
theorem defs_LEAVE (s : St) (x : Stp) : Comes p 45 [stV s, stpV x, .int .i64 97] (.tuple [nrm zS, .int .i64 0, .bool false]) :=
  Comes_gk (u := .tuple [zS, .int .i64 0, .bool false]) (by kernel_rfl) (by simp [nrm, nrmL_eq, zS]) (by simp) (by simp) rfl (by rfl) (by rfl)
theorem own_LEAVE : Comes p 46 [.int .i64 97] (.fn (.func 296) [] []) := Comes_made (by kernel_rfl) rfl (by kernel_rfl) rfl rfl
theorem xfind_LEAVE : Comes p 21 [.str ⟨#[76, 69, 65, 86, 69]⟩] (.int .i64 97) := Comes_made (by kernel_rfl) rfl (by kernel_rfl) rfl rfl
end Fz.D
set_option maxRecDepth 100000
namespace Fz.D
open Go
theorem alu_LOOP (l : List Int) (d : Int) : Comes p 14 [.int .i64 6, inV l, .int .i64 d] (.tuple [inV [], .int .i64 0, .bool false]) :=
  Comes_gk (u := .tuple [.list [] true, .int .i64 0, .bool false]) (by kernel_rfl) (by simp [nrm, nrmL_eq, inV]) (by simp) (by simp) rfl (by rfl) (by simp)
theorem flow_LOOP (s : St) : Comes p 44 [stV s, .int .i64 6] (.tuple [nrm zS, .int .i64 0, .bool false]) :=
  Comes_gk (u := .tuple [zS, .int .i64 0, .bool false]) (by kernel_rfl) (by simp [nrm, nrmL_eq, zS]) (by simp) (by simp) rfl (by rfl) (by rfl)
theorem defs_LOOP (s : St) (x : Stp) : Comes p 45 [stV s, stpV x, .int .i64 6] (.tuple [nrm zS, .int .i64 0, .bool false]) :=
  Comes_gk (u := .tuple [zS, .int .i64 0, .bool false]) (by kernel_rfl) (by simp [nrm, nrmL_eq, zS]) (by simp) (by simp) rfl (by rfl) (by rfl)
theorem own_LOOP : Comes p 46 [.int .i64 6] (.fn (.func 257) [] []) := Comes_made (by kernel_rfl) rfl (by kernel_rfl) rfl rfl
theorem xfind_UNLOOP : Comes p 21 [.str ⟨#[85, 78, 76, 79, 79, 80]⟩] (.int .i64 96) := Comes_made (by kernel_rfl) rfl (by kernel_rfl) rfl rfl
end Fz.D
set_option maxRecDepth 100000
namespace Fz.D
open Go
theorem x_LIT {s : St} {x : Stp} {w : Int} (h : lenOk 50000 (s, 0)) : Comes p 25 [stV s, stpV x, .int .i64 2, .int .i64 w] (.tuple [stV (resS (litM x w (s, 0))), .int .i64 (litM x w (s, 0)).2]) :=
  do_W (by decide) (alu_LIT _ _) (flow_LIT s) (defs_LIT s x) own_LIT (lit_W h)
theorem x_DO {s : St} {x : Stp} {w : Int} (h : lenOk 50000 (s, 0)) : Comes p 25 [stV s, stpV x, .int .i64 5, .int .i64 w] (.tuple [stV (resS (doM x w (s, 0))), .int .i64 (doM x w (s, 0)).2]) :=
  do_W (by decide) (alu_DO _ _) (flow_DO s) (defs_DO s x) own_DO (doW_W h)
theorem x_LOOP {s : St} {x : Stp} {w : Int} (h : lenOk 50000 (s, 0)) : Comes p 25 [stV s, stpV x, .int .i64 6, .int .i64 w] (.tuple [stV (resS (loopM x w (s, 0))), .int .i64 (loopM x w (s, 0)).2]) :=
  do_W (by decide) (alu_LOOP _ _) (flow_LOOP s) (defs_LOOP s x) own_LOOP (loop_W h)
theorem x_UNLOOP {s : St} {x : Stp} {w : Int} (h : lenOk 50000 (s, 0)) : Comes p 25 [stV s, stpV x, .int .i64 96, .int .i64 w] (.tuple [stV (resS (unloopM (s, 0))), .int .i64 (unloopM (s, 0)).2]) :=
  do_W (by decide) (alu_UNLOOP _ _) (flow_UNLOOP s) (defs_UNLOOP s x) own_UNLOOP (unloop_W h)
theorem x_LEAVE {s : St} {x : Stp} {w : Int} (h : lenOk 50000 (s, 0)) : Comes p 25 [stV s, stpV x, .int .i64 97, .int .i64 w] (.tuple [stV (resS (leaveM (s, 0))), .int .i64 (leaveM (s, 0)).2]) :=
  do_W (by decide) (alu_LEAVE _ _) (flow_LEAVE s) (defs_LEAVE s x) own_LEAVE (leaveL_W h)
end Fz.D
set_option maxRecDepth 100000
namespace Fz.D
open Go
def woneD : WF := { nt := 9, results := [], code :=
(.draw [mv 3 0,
ao 4 (.load false 1 (.t 1)),
mv 5 0,
⟨(some 6), .call 72 [(.t 5)], none, [2], true⟩,
⟨(some 7), .callv (.t 4) [(.t 6)], none, [1, 3, 3], true⟩,
⟨(some 8), .call 75 [(.t 3), (.t 7)], none, [0, 4, 4], true⟩]) }
def wtwoD : WF := { nt := 15, results := [], code :=
(.seq (.reg [mv 4 0,
ao 5 (.call 164 [(.t 4), (.c (.int .i64 2))])])
(.seq (.reg [mv 6 0,
ao 7 (.call 72 [(.t 6)]),
mv 3 7])
(.draw [mv 8 0,
ao 9 (.load false 1 (.t 1)),
mv 10 0,
⟨(some 11), .call 72 [(.t 10)], none, [2], true⟩,
mv 12 3,
⟨(some 13), .callv (.t 9) [(.t 11), (.t 12)], none, [1, 3, 4, 3], true⟩,
⟨(some 14), .call 75 [(.t 8), (.t 13)], none, [0, 5, 5], true⟩]))) }
def wthreeD : WF := { nt := 19, results := [], code :=
(.seq (.reg [mv 5 0,
ao 6 (.call 164 [(.t 5), (.c (.int .i64 3))])])
(.seq (.reg [mv 7 0,
ao 8 (.call 72 [(.t 7)]),
mv 9 0,
ao 10 (.call 72 [(.t 9)]),
mv 3 8,
mv 4 10])
(.draw [mv 11 0,
ao 12 (.load false 1 (.t 1)),
mv 13 0,
⟨(some 14), .call 72 [(.t 13)], none, [2], true⟩,
mv 15 4,
mv 16 3,
⟨(some 17), .callv (.t 12) [(.t 14), (.t 15), (.t 16)], none, [1, 3, 4, 5, 3], true⟩,
⟨(some 18), .call 75 [(.t 11), (.t 17)], none, [0, 6, 6], true⟩]))) }
def wfourD : WF := { nt := 23, results := [], code :=
(.seq (.reg [mv 6 0,
ao 7 (.call 164 [(.t 6), (.c (.int .i64 4))])])
(.seq (.reg [mv 8 0,
ao 9 (.call 72 [(.t 8)]),
mv 10 0,
ao 11 (.call 72 [(.t 10)]),
mv 12 0,
ao 13 (.call 72 [(.t 12)]),
mv 3 9,
mv 4 11,
mv 5 13])
(.draw [mv 14 0,
ao 15 (.load false 1 (.t 1)),
mv 16 0,
⟨(some 17), .call 72 [(.t 16)], none, [2], true⟩,
mv 18 5,
mv 19 4,
mv 20 3,
⟨(some 21), .callv (.t 15) [(.t 17), (.t 18), (.t 19), (.t 20)], none, [1, 3, 4, 5, 6, 3], true⟩,
⟨(some 22), .call 75 [(.t 14), (.t 21)], none, [0, 7, 7], true⟩]))) }
def aluPre : List WC := match w14.dfr with
  | some x => x.1
  | none => []
def AluPre (op : Int) (d dep : V) (g f : FuncId) : Prop := ∃ n e1 H1 k, runL (exec p n) (aluPre.map toA) (env0 [.int .i64 op, d, dep]) [] = some (.normal, e1, H1) ∧ e1 1 = d ∧ e1 2 = dep ∧ e1 6 = .ptr 0 0 ∧ e1 7 = .ptr 1 0 ∧ e1 10 = .fn (.func g) [] [.ptr k 0] ∧
  H1[0]? = some (.live [.list [] true]) ∧ H1[1]? = some (.live [.int .i64 0]) ∧ H1[k]? = some (.live [.fn (.func f) [] []])
end Fz.D
set_option maxRecDepth 100000
namespace Fz.D
open Go
def chainF (H : List Ob) : Nat → V → Option (List FuncId × V)
  | 0, _ => none
  | n + 1, v => if ground v then some ([], v) else match v with
    | .fn (.func g) [] [.ptr k 0] => match H[k]? with
      | some (.live [w]) => (chainF H n w).map fun x => (g :: x.1, x.2)
      | _ => none
    | _ => none
def Chain (H : List Ob) : List FuncId → V → V → Prop
  | [], u, v => v = u
  | g :: gs, u, v => ∃ k w, v = .fn (.func g) [] [.ptr k 0] ∧ H[k]? = some (.live [w]) ∧ Chain H gs u w
def AluPreG (op : Int) (d dep : V) (gs : List FuncId) (u : V) : Prop := ∃ n e1 H1 v, runL (exec p n) (aluPre.map toA) (env0 [.int .i64 op, d, dep]) [] = some (.normal, e1, H1) ∧ e1 1 = d ∧ e1 2 = dep ∧ e1 6 = .ptr 0 0 ∧ e1 7 = .ptr 1 0 ∧ e1 8 = .bool true ∧ e1 10 = v ∧ Chain H1 gs u v ∧
  H1[0]? = some (.live [.list [] true]) ∧ H1[1]? = some (.live [.int .i64 0])
def preG (op : Int) (d dep : V) : Option (X × V × V × V × V × V × Option (List FuncId × V) × Option Ob × Option Ob) := (runL (exec p 200) (aluPre.map toA) (env0 [.int .i64 op, d, dep]) []).map fun r =>
  (r.1, r.2.1 1, r.2.1 2, r.2.1 6, r.2.1 7, r.2.1 8, chainF r.2.2 4 (r.2.1 10), r.2.2[0]?, r.2.2[1]?)
def WordOk (H : List Ob) (v : V) (l r : List Int) : Prop := ∃ g caps, v = .fn (.func g) [] caps ∧ (¬ g = 4000000000) ∧ ∀ Q : CR → List Ob → Prop, (∀ v J, PV (H.length + 1) J v r → Q (.ret (.tuple [])) (H ++ .live [v] :: J)) → WCall p g (.ptr H.length 0 :: caps) (H ++ [.live [inV l]]) Q
def WordThr (H : List Ob) (v : V) (l : List Int) (e : Int) : Prop := ∃ g caps, v = .fn (.func g) [] caps ∧ (¬ g = 4000000000) ∧ ∀ Q : CR → List Ob → Prop, (∀ x J, Q (.panic (thrown e)) (H ++ .live x :: J)) → WCall p g (.ptr H.length 0 :: caps) (H ++ [.live [inV l]]) Q
end Fz.D
set_option maxRecDepth 100000
namespace Fz.D
open Go
def andI (a b : Int) : Int := IntKind.i64.wrap (((a % 2 ^ IntKind.i64.bits).toNat &&& (b % 2 ^ IntKind.i64.bits).toNat : Nat))
def orI (a b : Int) : Int := IntKind.i64.wrap (((a % 2 ^ IntKind.i64.bits).toNat ||| (b % 2 ^ IntKind.i64.bits).toNat : Nat))
def xorI (a b : Int) : Int := IntKind.i64.wrap (((a % 2 ^ IntKind.i64.bits).toNat ^^^ (b % 2 ^ IntKind.i64.bits).toNat : Nat))
def invI (a : Int) : Int := IntKind.i64.wrap (((-1 % 2 ^ IntKind.i64.bits : Int).toNat ^^^ (a % 2 ^ IntKind.i64.bits).toNat : Nat))
def flagI (c : Prop) [Decidable c] : Int := if c then -1 else 0
end Fz.D
set_option maxRecDepth 100000
namespace Fz.D
open Go
def cloOf : V → Option (FuncId × Nat)
  | .fn (.func g) [] [.ptr k 0] => some (g, k)
  | _ => none
def preJ (op : Int) (d dep : V) : Option (X × V × V × V × V × Option FuncId × Option Ob × Option Ob × Option Ob) := (runL (exec p 200) (aluPre.map toA) (env0 [.int .i64 op, d, dep]) []).map fun r =>
  (r.1, r.2.1 1, r.2.1 2, r.2.1 6, r.2.1 7, (cloOf (r.2.1 10)).map (·.1), r.2.2[0]?, r.2.2[1]?, (cloOf (r.2.1 10)).bind fun x => r.2.2[x.2]?)
end Fz.D
set_option maxRecDepth 100000
namespace Fz.D
open Go
def divQ (a b : Int) : Int := if b = -1 then IntKind.i64.wrap (-a) else if a.tmod b ≠ 0 ∧ ¬ (a.tmod b < 0 ↔ b < 0) then IntKind.i64.wrap (IntKind.i64.wrap (a.tdiv b) - 1) else IntKind.i64.wrap (a.tdiv b)
def divR (a b : Int) : Int := if b = -1 then 0 else if a.tmod b ≠ 0 ∧ ¬ (a.tmod b < 0 ↔ b < 0) then IntKind.i64.wrap (a.tmod b + b) else a.tmod b
end Fz.D
set_option maxRecDepth 100000
namespace Fz.D
open Go
end Fz.D
set_option maxRecDepth 100000
namespace Fz.D
open Go
end Fz.D
set_option maxRecDepth 100000
namespace Fz.D
open Go
theorem awakeX : Comes p 23 [] (.bool true) := by
  obtain ⟨H, h⟩ := isTrue_ok awake13
  exact Comes_gk (u := .bool true) (by rw [show acall p 1000 23 [] [] = _ from h]; rfl) rfl rfl rfl rfl rfl rfl
end Fz.D
set_option maxRecDepth 100000
namespace Fz.D
open Go
def fewX (s : St) (x : Stp) : Bool := fewB s && (decide ((x.source.size : Int) ≤ 200) && decide ((x.input.length : Int) ≤ 40))
theorem few12_s (s : St) (x : Stp) : Comes p 24 [stV s, stpV x] (.bool (fewX s x)) := by
  have c := few_s s
  rw [← stF s] at c
  simp only [stV.cells] at c
  refine Comes_of w24 rfl rfl k24 ?_ ?_ ?_ ?_
  · simp
  · simp
  · simp
  · cases h1 : fewB s with
    | false => rw [h1] at c; simp -dsimp [w24, wFix_by, isInl, call_by c, fewX, h1]
    | true =>
      rw [h1] at c
      by_cases c1 : (x.source.size : Int) ≤ 200 <;> by_cases c2 : (x.input.length : Int) ≤ 40 <;> simp -dsimp [w24, wFix_by, isInl, call_by c, fewX, h1, c1, c2]
end Fz.D
set_option maxRecDepth 100000
namespace Fz.D
open Go
theorem i64_wrap {n : Int} (h : i64 n) : IntKind.i64.wrap n = n := Fz.w64 (by unfold i64 at h; omega) (by unfold i64 at h; omega)
theorem wrap_succ (a : Int) (i : Nat) : IntKind.i64.wrap (IntKind.i64.wrap (a + i) + 1) = IntKind.i64.wrap (a + ((i + 1 : Nat) : Int)) := by
  rw [IntKind.wrap_i64, IntKind.wrap_i64, IntKind.wrap_i64]; omega
theorem wrap_ne {a : Int} {i m : Nat} (h : i < m) (hm : m ≤ 20) : ¬ IntKind.i64.wrap (a + (i : Int)) = IntKind.i64.wrap (a + (m : Int)) := by
  rw [IntKind.wrap_i64, IntKind.wrap_i64]; omega
def rnds (n : Int) : Nat := 1 + (IntKind.u64.wrap n).toNat % 20
theorem rnds_le (n : Int) : 1 ≤ rnds n ∧ rnds n ≤ 20 := by unfold rnds; omega
def lpS (s : St) (ip a b c : Int) : St := { s with ret := s.ret ++ [⟨a, false⟩, ⟨b, false⟩, ⟨c, false⟩], ip := ip }
theorem loop_again {s : St} {x : Stp} {ip a b c : Int} (hr : s.ret.length ≤ 40) (hd : s.data.length ≤ 40) (hx : (s.ret.length : Int) + 3 ≤ x.depth) (hn : ¬ IntKind.i64.wrap (c + 1) = b) :
    Comes p 25 [stV (lpS s ip a b c), stpV x, .int .i64 6, .int .i64 300] (.tuple [stV (lpS s 300 a b (IntKind.i64.wrap (c + 1))), .int .i64 0]) := by
  have h := x_LOOP (s := lpS s ip a b c) (x := x) (w := 300) ⟨by show s.data.length ≤ _; omega, by simp [lpS]; omega⟩
  have e1 : backsM 3 (lpS s ip a b c, 0) = ([a, b, c], ({ s with ip := ip }, 0)) := by
    unfold backsM
    simp [lpS]
  have e : loopM x 300 (lpS s ip a b c, 0) = (lpS s 300 a b (IntKind.i64.wrap (c + 1)), 0) := by
    unfold loopM
    rw [e1]
    have g2 : g3 [a, b, c] 2 = c := rfl
    have g1 : g3 [a, b, c] 1 = b := rfl
    have g0 : g3 [a, b, c] 0 = a := rfl
    dsimp only
    rw [g2, g1, if_neg hn]
    unfold againM
    rw [g0, g1]
    unfold backM jumpM
    simp [lpS, hx]
  rw [e] at h
  exact h
theorem loop_end {s : St} {x : Stp} {ip a b c : Int} (hr : s.ret.length ≤ 40) (hd : s.data.length ≤ 40) (hn : IntKind.i64.wrap (c + 1) = b) :
    Comes p 25 [stV (lpS s ip a b c), stpV x, .int .i64 6, .int .i64 300] (.tuple [stV { s with ip := ip }, .int .i64 0]) := by
  have h := x_LOOP (s := lpS s ip a b c) (x := x) (w := 300) ⟨by show s.data.length ≤ _; omega, by simp [lpS]; omega⟩
  have e1 : backsM 3 (lpS s ip a b c, 0) = ([a, b, c], ({ s with ip := ip }, 0)) := by
    unfold backsM
    simp [lpS]
  have e : loopM x 300 (lpS s ip a b c, 0) = ({ s with ip := ip }, 0) := by
    unfold loopM
    rw [e1]
    have g2 : g3 [a, b, c] 2 = c := rfl
    have g1 : g3 [a, b, c] 1 = b := rfl
    dsimp only
    rw [g2, g1, if_pos hn]
  rw [e] at h
  exact h
theorem leave_end {s : St} {x : Stp} {ip a b c : Int} (hr : s.ret.length ≤ 40) (hd : s.data.length ≤ 40) :
    Comes p 25 [stV (lpS s ip a b c), stpV x, .int .i64 97, .int .i64 0] (.tuple [stV { s with ip := a }, .int .i64 0]) := by
  have h := x_LEAVE (s := lpS s ip a b c) (x := x) (w := 0) ⟨by show s.data.length ≤ _; omega, by simp [lpS]; omega⟩
  have e1 : backsM 3 (lpS s ip a b c, 0) = ([a, b, c], ({ s with ip := ip }, 0)) := by
    unfold backsM
    simp [lpS]
  have e : leaveM (lpS s ip a b c, 0) = ({ s with ip := a }, 0) := by
    unfold leaveM
    rw [e1]
    rfl
  rw [e] at h
  exact h
theorem unloop_end {s : St} {x : Stp} {ip a b c : Int} (hr : s.ret.length ≤ 40) (hd : s.data.length ≤ 40) :
    Comes p 25 [stV (lpS s ip a b c), stpV x, .int .i64 96, .int .i64 0] (.tuple [stV { s with ip := ip }, .int .i64 0]) := by
  have h := x_UNLOOP (s := lpS s ip a b c) (x := x) (w := 0) ⟨by show s.data.length ≤ _; omega, by simp [lpS]; omega⟩
  have e1 : backsM 3 (lpS s ip a b c, 0) = ([a, b, c], ({ s with ip := ip }, 0)) := by
    unfold backsM
    simp [lpS]
  have e : unloopM (lpS s ip a b c, 0) = ({ s with ip := ip }, 0) := by
    unfold unloopM
    rw [e1]
  rw [e] at h
  exact h
theorem lenOk_res {n : Nat} {q : St × Int} (h : lenOk n q) : lenOk n (resS q, 0) := by
  unfold resS
  split
  · exact h
  · exact ⟨Nat.zero_le _, Nat.zero_le _⟩
theorem loop_pre {s : St} {x : Stp} {m n : Int} (hr : s.ret.length ≤ 40) (hd : s.data.length ≤ 40) :
    ∃ (a b c : St) (e f g : Int), Comes p 25 [stV s, stpV x, .int .i64 2, .int .i64 m] (.tuple [stV a, .int .i64 e]) ∧ Comes p 25 [stV a, stpV x, .int .i64 2, .int .i64 n] (.tuple [stV b, .int .i64 f]) ∧
      Comes p 25 [stV b, stpV x, .int .i64 5, .int .i64 400] (.tuple [stV c, .int .i64 g]) ∧ (e = 0 → f = 0 → g = 0 → (s.ret.length : Int) + 3 ≤ x.depth ∧ c = lpS s s.ip 400 m n) := by
  have h0 : lenOk 40 (s, 0) := ⟨hd, hr⟩
  have A := x_LIT (s := s) (x := x) (w := m) (lenOk_mono h0 (by omega))
  have hA : lenOk 41 (resS (litM x m (s, 0)), 0) := lenOk_res (lenOk_give (x := x) (v := m) h0)
  have B := x_LIT (s := resS (litM x m (s, 0))) (x := x) (w := n) (lenOk_mono hA (by omega))
  have hB : lenOk 42 (resS (litM x n (resS (litM x m (s, 0)), 0)), 0) := lenOk_res (lenOk_give (x := x) (v := n) hA)
  have C := x_DO (s := resS (litM x n (resS (litM x m (s, 0)), 0))) (x := x) (w := 400) (lenOk_mono hB (by omega))
  refine ⟨_, _, _, _, _, _, A, B, C, ?_⟩
  intro e1 e2 e3
  by_cases k1 : (s.data.length : Int) + 1 ≤ x.depth
  · have q1 : litM x m (s, 0) = ({ s with data := s.data ++ [m] }, 0) := by unfold litM giveM; rw [if_pos rfl, if_pos k1]
    rw [q1] at e2 e3 ⊢
    have r1 : resS (({ s with data := s.data ++ [m] } : St), (0 : Int)) = { s with data := s.data ++ [m] } := if_pos rfl
    rw [r1] at e2 e3 ⊢
    by_cases k2 : (s.data.length : Int) + 1 + 1 ≤ x.depth
    · have q2 : litM x n ({ s with data := s.data ++ [m] }, 0) = ({ s with data := s.data ++ [m] ++ [n] }, 0) := by unfold litM giveM; rw [if_pos rfl, if_pos (by simpa using k2)]
      rw [q2] at e3 ⊢
      have r2 : resS (({ s with data := s.data ++ [m] ++ [n] } : St), (0 : Int)) = { s with data := s.data ++ [m] ++ [n] } := if_pos rfl
      rw [r2] at e3 ⊢
      have t1 : takeM (({ s with data := s.data ++ [m] ++ [n] } : St), (0 : Int)) = (n, ({ s with data := s.data ++ [m] }, 0)) := by
        unfold takeM
        simp [List.dropLast_concat, ← List.append_assoc]
      have t2 : takeM (({ s with data := s.data ++ [m] } : St), (0 : Int)) = (m, (s, 0)) := by unfold takeM; simp
      have d : doM x 400 (({ s with data := s.data ++ [m] ++ [n] } : St), (0 : Int)) = backM x [⟨400, false⟩, ⟨m, false⟩, ⟨n, false⟩] (s, 0) := by
        unfold doM
        rw [t1]
        dsimp only
        rw [t2]
      rw [d] at e3 ⊢
      unfold backM at e3 ⊢
      rw [if_pos rfl] at e3 ⊢
      by_cases k3 : (s.ret.length : Int) + 3 ≤ x.depth
      · rw [if_pos (by simpa using k3)] at e3 ⊢
        exact ⟨k3, rfl⟩
      · rw [if_neg (by simpa using k3)] at e3
        have e3 : (-5 : Int) = 0 := e3
        omega
    · have q2 : litM x n ({ s with data := s.data ++ [m] }, 0) = ({ s with data := s.data ++ [m] }, -3) := by unfold litM giveM; rw [if_pos rfl, if_neg (by simpa using k2)]
      rw [q2] at e2
      have e2 : (-3 : Int) = 0 := e2
      omega
  · have q1 : litM x m (s, 0) = (s, -3) := by unfold litM giveM; rw [if_pos rfl, if_neg k1]
    rw [q1] at e1
    have e1 : (-3 : Int) = 0 := e1
    omega
end Fz.D
set_option maxRecDepth 100000
namespace Fz.D
open Go
theorem lawLoops {s : St} {x : Stp} {n0 n1 : Int} (ts : StTy s) (hn : i64 n0) : Comes p 9 [stV s, stpV x, .agg [.int .i64 n0, .int .i64 n1]] (.bool true) := by
  have a := awakeX
  have c1 := few12_s s x
  have f1 := xfind_LEAVE
  have f2 := xfind_UNLOOP
  refine Comes_of w9 rfl rfl k9 ?_ ?_ ?_ ?_
  · simp
  · simp
  · simp
  · cases h1 : fewX s x with
    | false =>
      rw [h1] at c1
      simp only [stV, stpV] at c1
      simp -dsimp [w9, wFix_by, isInl, stV, stpV, call_by a, call_by c1]
    | true =>
      rw [h1] at c1
      have h1' := h1
      unfold fewX at h1'
      simp only [Bool.and_eq_true, decide_eq_true_eq] at h1'
      obtain ⟨hf, hx1, hx2⟩ := h1'
      have hl := few_st hf
      obtain ⟨l1, l2, l3, l4, l5, l6, l7, l8⟩ := few_len hf
      obtain ⟨sa, sb, sc, e, f, g, A, B, C, hc⟩ := loop_pre (x := x) (m := IntKind.i64.wrap (n0 + (rnds n1 : Nat))) (n := n0) l3 l2
      have hr := rnds_le n1
      have s0 := same_self hl ts.mem ts.out
      have hm : IntKind.i64.wrap (1 + IntKind.i64.wrap ((IntKind.u64.wrap n1).tmod 20)) = (rnds n1 : Int) := by
        have hu : 0 ≤ IntKind.u64.wrap n1 := by rw [IntKind.wrap_u64]; omega
        obtain ⟨k, hk⟩ : ∃ k : Nat, IntKind.u64.wrap n1 = k := ⟨(IntKind.u64.wrap n1).toNat, by omega⟩
        unfold rnds
        have q1 : IntKind.i64.wrap ((k : Int) % 20) = (k : Int) % 20 := Fz.w64 (by omega) (by omega)
        rw [hk, Int.tmod_eq_emod_of_nonneg (by omega), q1, Fz.w64 (by omega) (by omega)]
        omega
      generalize hmm : IntKind.i64.wrap (n0 + (rnds n1 : Nat)) = lim at A
      simp only [stV, stpV] at c1 A B C
      by_cases he : e = 0 ∧ f = 0 ∧ g = 0
      · obtain ⟨rfl, rfl, rfl⟩ := he
        obtain ⟨hd, rfl⟩ := hc rfl rfl rfl
        simp only [lpS] at C
        simp -dsimp [w9, stV, stpV, call_by a, call_by c1, hm, hmm, call_by A, call_by B, call_by C]
        refine xL_by (by kernel_rfl) (fun k e H => ∃ (i : Nat) (ip : Int) (oa ob : Ob) (J : List Ob), 1 ≤ i ∧ i ≤ rnds n1 ∧ k = rnds n1 + 1 - i ∧ e 3 = .ptr 0 0 ∧ e 4 = .ptr 1 0 ∧ e 7 = .bool true ∧ e 8 = .int .i64 n0 ∧ e 9 = .int .i64 (rnds n1) ∧ e 14 = .ptr 5 0 ∧ e 16 = .int .i64 i ∧
          H = .live (cellsOf (stV s)) :: .live (cellsOf (stpV x)) :: .live [.int .i64 n0, .int .i64 n1] :: oa :: ob :: .live (cellsOf (stV (lpS s ip 400 lim (IntKind.i64.wrap (n0 + ((i - 1 : Nat) : Int)))))) :: J) (rnds n1) ?_ ?_
        · refine ⟨1, s.ip, .live (cellsOf (stV sa)), .live (cellsOf (stV sb)), [], by omega, by omega, by omega, ?_⟩
          have w0 : IntKind.i64.wrap n0 = n0 := i64_wrap hn
          simp -dsimp [lpS, w0]
        · rintro k e H ⟨i, ip, oa, ob, J, hi1, hi2, hk, h3, h4, h7, h8, h9, h14, h16, rfl⟩
          obtain ⟨j, rfl⟩ : ∃ j, i = j + 1 := ⟨i - 1, by omega⟩
          rw [Nat.add_sub_cancel]
          have w1 : IntKind.i64.wrap ((s.ret.length : Int) + 3) = (s.ret.length : Int) + 3 := Fz.w64 (by omega) (by omega)
          obtain ⟨N, hN⟩ : ∃ N, N = s.ret.length + 2 := ⟨_, rfl⟩
          have w2 : IntKind.i64.wrap ((s.ret.length : Int) + 3 - 1) = (N : Int) := by rw [Fz.w64 (by omega) (by omega)]; omega
          have w3 : IntKind.i64.wrap ((j : Int) + 1 + 1) = (j : Int) + 1 + 1 := Fz.w64 (by omega) (by omega)
          by_cases hi : j + 1 < rnds n1
          · have hi' : (j : Int) + 1 < rnds n1 := by omega
            have L := loop_again (s := s) (x := x) (ip := ip) (a := 400) (b := lim) (c := IntKind.i64.wrap (n0 + (j : Int))) l3 l2 hd (by rw [wrap_succ, ← hmm]; exact wrap_ne hi hr.2)
            rw [wrap_succ] at L
            simp only [stV, stpV, lpS] at L
            simp -dsimp [h3, h4, h7, h8, h9, h14, h16, hi, hi', lpS, call_by L, w1, w2, w3]
            refine ⟨sloV ⟨IntKind.i64.wrap (n0 + (↑j + 1)), false⟩, ?_, ?_⟩
            · rw [List.getElem?_append_right (by simp; omega)]
              simp [hN]
            · simp -dsimp [h3, h4, h7, h8, h9, h14, h16, hi, hi', lpS, w1, w2, w3]
              refine ⟨rnds n1 + 1 - (j + 2), by omega, j + 2, 300, oa, ob, J ++ [.live (cellsOf (stV (lpS s 300 400 lim (IntKind.i64.wrap (n0 + (↑j + 1))))))], by omega, by omega, rfl, ?_⟩
              have e1 : ((j + 2 - 1 : Nat) : Int) = (j : Int) + 1 := by omega
              rw [e1]
              simp -dsimp [h3, h4, h7, h8, h9, h14, h16, lpS, w3]
              omega
          · have hj : j + 1 = rnds n1 := by omega
            have hi' : ¬ (j : Int) + 1 < rnds n1 := by omega
            have L1 := loop_end (s := s) (x := x) (ip := s.ip) (a := 400) (b := lim) (c := IntKind.i64.wrap (n0 + (j : Int))) l3 l2 (by rw [wrap_succ, ← hmm, hj])
            have L2 := leave_end (s := s) (x := x) (ip := s.ip) (a := 400) (b := lim) (c := IntKind.i64.wrap (n0 + (j : Int))) l3 l2
            have L3 := unloop_end (s := s) (x := x) (ip := s.ip) (a := 400) (b := lim) (c := IntKind.i64.wrap (n0 + (j : Int))) l3 l2
            simp only [stV, stpV, lpS] at L1 L2 L3 s0
            simp -dsimp [h3, h4, h7, h8, h9, h14, h16, hi, hi', lpS, call_by L1, quiet_by L1, call_by L2, quiet_by L2, call_by L3, quiet_by L3, call_by f1, quiet_by f1, call_by f2, quiet_by f2, call_by s0, wFix_by, isInl]
      · by_cases he0 : e = 0
        · by_cases hf0 : f = 0
          · have hg0 : ¬ g = 0 := fun h => he ⟨he0, hf0, h⟩
            simp -dsimp [w9, wFix_by, isInl, stV, stpV, call_by a, call_by c1, hm, hmm, call_by A, call_by B, call_by C, he0, hf0, hg0]
          · simp -dsimp [w9, wFix_by, isInl, stV, stpV, call_by a, call_by c1, hm, hmm, call_by A, call_by B, call_by C, he0, hf0]
        · simp -dsimp [w9, wFix_by, isInl, stV, stpV, call_by a, call_by c1, hm, hmm, call_by A, call_by B, call_by C, he0]
end Fz.D
set_option maxRecDepth 100000
namespace Fz.D
open Go
theorem i2_of {v : V} (h : HasT (.agg [.int .i64, .int .i64]) v) : ∃ a : Int × Int, v = .agg [.int .i64 a.1, .int .i64 a.2] ∧ (i64 a.1 ∧ i64 a.2) := by
  obtain ⟨l, rfl, v1, r1, rfl, h1, v2, r2, rfl, h2, rfl⟩ := h
  obtain ⟨a, rfl, ha⟩ := i64_of h1
  obtain ⟨b, rfl, hb⟩ := i64_of h2
  exact ⟨(a, b), by simp [flat], ha, hb⟩
theorem lawLoops2 {s : St} {x : Stp} {a : Int × Int} (ts : StTy s) (hn : i64 a.1 ∧ i64 a.2) : Comes p 9 [stV s, stpV x, .agg [.int .i64 a.1, .int .i64 a.2]] (.bool true) := lawLoops ts hn.1
end Fz.D
