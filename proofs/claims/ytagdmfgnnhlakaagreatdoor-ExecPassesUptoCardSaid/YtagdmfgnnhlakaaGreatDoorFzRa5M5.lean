import Derived.Test.YtagdmfgnnhlakaaGreatDoorFzRa5M4
import Derived.Test.YtagdmfgnnhlakaaGreatDoorChecked
import Derived.Shelf.Strings.Builder1
import Derived.BigCall
import Derived.WalkKit
import Derived.Test.YtagdmfgnnhlakaaGreatDoorRows
import Derived.Test.YtagdmfgnnhlakaaGreatDoorCards
import Derived.Test.YtagdmfgnnhlakaaGreatDoorTie
import Derived.Deep.DeepWitnessRowRef
import Derived.LaidMore
import Derived.Lib.LaidTab
set_option linter.all false
set_option linter.unusedVariables false
set_option linter.unusedSimpArgs false
set_option linter.unnecessarySimpa false
set_option maxRecDepth 100000
namespace Fz.D
open Go Go.Proofs
def isInl (f : FuncId) : Bool := f == 33 || f == 34 || f == 47 || f == 48 || f == 71 || f == 72 || f == 74 || f == 75 || f == 76 || f == 78 || f == 79 || f == 80 || f == 132 || f == 143 || f == 157 || f == 158 || f == 159 || f == 160 || f == 162 || f == 163 || f == 164 || f == 165 || f == 166 || f == 169 || f == 170 || f == 172 || f == 173 || f == 178 || f == 251 || f == 252 || f == 254 || f == 255 || f == 256 || f == 257 || f == 258 || f == 259 || f == 260 || f == 262 || f == 263 || f == 270 || f == 273 || f == 274 || f == 278 || f == 289 || f == 290 || f == 291 || f == 292 || f == 295 || f == 296 || f == 304 || f == 307 || f == 308 || f == 309 || f == 313 || f == 314 || f == 315 || f == 316 || f == 317 || f == 319 || f == 338 || f == 339 || f == 340 || f == 354 || f == 363
def prim0 (f : FuncId) : Option (List V → List Ob → Option (V × List Ob)) := if f = 41 then some (liftP foldP) else if f = 378 then some (liftP idxP) else if f = 321 then some (liftP (primV .fbits)) else if f = 184 then some (liftP (primV .ffrom)) else if f = 322 then some (liftP (primV .sqrt)) else if f = 323 then some (liftP (primV (.integral .down))) else if f = 328 then some (liftP (primV (.integral .zero))) else none
def p0 : AP := { fn := lk tab, prim := prim0, inl := isInl, body := bods }
@[simp] theorem inl_eq0 (f : FuncId) : p0.inlY f = (f == 4000000000 || isInl f) := (rfl)
end Fz.D
set_option maxRecDepth 100000
namespace Fz.D
open Go Go.Proofs
theorem asc_all : ∀ b : Fin 256, asciiN[b.val]? = some (if isSp (UInt8.ofNat b.val) then 1 else 0) := by decide +kernel
theorem asc (b : UInt8) : asciiN[b.toNat]? = some (if isSp b then 1 else 0) := by
  have := asc_all ⟨b.toNat, b.toNat_lt⟩
  simpa using this
theorem asc_len : asciiN.length = 256 := by kernel_rfl
theorem asc1 (b : UInt8) : List.take 1 (List.drop b.toNat (asciiN.map (V.int .u8))) = [V.int .u8 (if isSp b then 1 else 0)] := by
  have h := asc b
  obtain ⟨h1, h2⟩ := List.getElem?_eq_some_iff.1 h
  rw [← List.map_drop, List.drop_eq_getElem_cons h1, h2]
  rfl
@[simp] theorem glA_pr (P : Nat → Nat → Prop) (R : List V → Prop) : wPR glA P R = R (asciiN.map (V.int .u8)) := (rfl)
theorem asc_ok (b : UInt8) : ((b.toNat : Int) < 256 ∧ b.toNat ≤ 256) ∧ 1 ≤ 256 - b.toNat := by
  have := b.toNat_lt
  omega
theorem u8_or (b : Int) (c : UInt8) (h0 : 0 ≤ b) (h1 : b < 128) (hc : c.toNat < 128) : 0 ≤ IntKind.u8.wrap ((((b % 2 ^ IntKind.u8.bits).toNat ||| c.toNat % 2 ^ IntKind.u8.bits) : Nat) : Int) ∧ IntKind.u8.wrap ((((b % 2 ^ IntKind.u8.bits).toNat ||| c.toNat % 2 ^ IntKind.u8.bits) : Nat) : Int) < 128 := by
  have e1 : (b % 2 ^ IntKind.u8.bits).toNat = b.toNat := by show (b % 256).toNat = _; omega
  have e2 : c.toNat % 2 ^ IntKind.u8.bits = c.toNat := by show c.toNat % 256 = _; omega
  have h2 : b.toNat ||| c.toNat < 2 ^ 7 := Nat.or_lt_two_pow (by omega) (by omega)
  rw [e1, e2]
  have : IntKind.u8.wrap ((b.toNat ||| c.toNat : Nat) : Int) = ((b.toNat ||| c.toNat : Nat) : Int) := by
    show ((b.toNat ||| c.toNat : Nat) : Int) % 256 = _
    omega
  rw [this]
  omega
theorem cntF_le : ∀ (l : List UInt8) (w : Bool), cntF l w ≤ l.length
  | [], _ => Nat.le_refl _
  | c :: r, w => by
    have := cntF_le r (isSp c)
    rw [cntF, List.length_cons]
    split <;> omega
theorem ext_list (l : List UInt8) (a b : Nat) : (ByteArray.mk l.toArray).extract a b = ⟨((l.drop a).take (b - a)).toArray⟩ := by
  apply ByteArray.ext
  rw [ByteArray.data_extract]
  simp
def wV (w : List UInt8) : V := .str ⟨w.toArray⟩
abbrev emp : V := .str ⟨#[]⟩
theorem tk_snoc {l : List UInt8} {fs i : Nat} (h1 : fs ≤ i) (h2 : i < l.length) : (l.drop fs).take (i + 1 - fs) = (l.drop fs).take (i - fs) ++ [l[i]] := by
  rw [show i + 1 - fs = i - fs + 1 from by omega, List.take_add_one]
  congr 1
  rw [List.getElem?_drop, show fs + (i - fs) = i from by omega, List.getElem?_eq_getElem h2]
  rfl
theorem words_no {c : UInt8} {r p : List UInt8} (h : isSp c = false) : wordsF (c :: r) p = wordsF r (p ++ [c]) := by
  rw [wordsF, if_neg (by rw [h]; exact Bool.false_ne_true)]
theorem words_sp {c : UInt8} {r p : List UInt8} (h : isSp c = true) (hp : p ≠ []) : wordsF (c :: r) p = p :: wordsF r [] := by
  cases p with
  | nil => exact absurd rfl hp
  | cons a p => rw [wordsF, if_pos h]; rfl
theorem fields_s {l : List UInt8} {n : Nat} (ha : ∀ c ∈ l, c.toNat < 128) (hs : l.length ≤ 100000) (hn : (wordsF l []).length = n) (hc : cntF l true = n) (hp : 0 < n) {Q : CR → List Ob → Prop}
    (hq : Q (.ret (.own 0 0 n 1)) [.live ((wordsF l []).map wV)]) : WFun p0 143 [.str ⟨l.toArray⟩] [] Q := by
  have hnl : n ≤ 100000 := by have := cntF_le l true; omega
  have hsz : (ByteArray.mk l.toArray).size = l.length := by simp [ByteArray.size]
  refine WFun_of w143 rfl rfl k143 ?_
  simp -dsimp [w143]
  refine xL_by (by kernel_rfl) (fun k e H => ∃ (i m : Nat) (w : Bool) (b : Int), i ≤ l.length ∧ k = l.length - i ∧ e 0 = .str ⟨l.toArray⟩ ∧ e 3 = .int .i64 m ∧ e 4 = .int .i64 (if w then 1 else 0) ∧ e 5 = .int .u8 b ∧ e 6 = .int .i64 i ∧ H = [] ∧ 0 ≤ b ∧ b < 128 ∧ m + cntF (l.drop i) w = n) l.length ?_ ?_
  · refine ⟨0, 0, true, 0, by omega, rfl, ?_⟩
    simp -dsimp [hc]
  · rintro k e H ⟨i, m, w, b, hi, hk, h0, h3, h4, h5, h6, rfl, hb0, hb1, hm⟩
    by_cases c1 : i < l.length
    · have hq1 := asc_ok l[i]
      have hq2 := asc1 l[i]
      have hor := u8_or b l[i] hb0 hb1 (ha _ (List.getElem_mem c1))
      generalize hd : IntKind.u8.wrap ((((b % 2 ^ IntKind.u8.bits).toNat ||| (l[i]).toNat % 2 ^ IntKind.u8.bits) : Nat) : Int) = d at hor
      rw [List.drop_eq_getElem_cons c1, cntF] at hm
      cases hsp : isSp l[i] <;> cases w <;> (rw [hsp] at hm hq2) <;> simp only [Bool.not_false, Bool.not_true, Bool.and_true, Bool.and_false, Bool.true_and, Bool.false_and, if_true, if_false, Bool.false_eq_true] at hm
      · simp -dsimp [h0, h3, h4, h5, h6, c1, hsz, asc_len, hq1, hq2, hsp]
        refine ⟨l.length - (i + 1), by omega, i + 1, m, false, d, by omega, rfl, ?_⟩
        simp -dsimp [h0, h3, h4, h5, h6, hd, hor]
        refine ⟨?_, rfl, Fz.w64 (by omega) (by omega), by omega⟩
        exact (Fz.w64 (by omega) (by omega) : IntKind.i64.wrap ((m : Int) + 0) = (m : Int) + 0).trans (by omega)
      · simp -dsimp [h0, h3, h4, h5, h6, c1, hsz, asc_len, hq1, hq2, hsp]
        refine ⟨l.length - (i + 1), by omega, i + 1, m + 1, false, d, by omega, rfl, ?_⟩
        simp -dsimp [h0, h3, h4, h5, h6, hd, hor]
        refine ⟨?_, rfl, Fz.w64 (by omega) (by omega), by omega⟩
        exact (Fz.w64 (by omega) (by omega) : IntKind.i64.wrap ((m : Int) + 1) = (m : Int) + 1)
      · simp -dsimp [h0, h3, h4, h5, h6, c1, hsz, asc_len, hq1, hq2, hsp]
        refine ⟨l.length - (i + 1), by omega, i + 1, m, true, d, by omega, rfl, ?_⟩
        simp -dsimp [h0, h3, h4, h5, h6, hd, hor]
        refine ⟨?_, rfl, Fz.w64 (by omega) (by omega), by omega⟩
        exact (Fz.w64 (by omega) (by omega) : IntKind.i64.wrap ((m : Int) + 0) = (m : Int) + 0).trans (by omega)
      · simp -dsimp [h0, h3, h4, h5, h6, c1, hsz, asc_len, hq1, hq2, hsp]
        refine ⟨l.length - (i + 1), by omega, i + 1, m, true, d, by omega, rfl, ?_⟩
        simp -dsimp [h0, h3, h4, h5, h6, hd, hor]
        refine ⟨?_, rfl, Fz.w64 (by omega) (by omega), by omega⟩
        exact (Fz.w64 (by omega) (by omega) : IntKind.i64.wrap ((m : Int) + 0) = (m : Int) + 0).trans (by omega)
    · have hii : i = l.length := by omega
      subst hii
      rw [List.drop_length, cntF, Nat.add_zero] at hm
      subst hm
      have c2 : ¬ (128 : Int) ≤ b := by omega
      simp -dsimp [h0, h3, h4, h5, h6, c1, hsz, c2]
      have hm0 : ¬ m = 0 := by omega
      refine ⟨by omega, ?_⟩
      rw [if_neg hm0]
      refine xL_by (by kernel_rfl) (fun k e H => ∃ (j : Nat), j ≤ l.length ∧ k = l.length - j ∧ e 0 = .str ⟨l.toArray⟩ ∧ e 9 = .own 0 0 m 1 ∧ e 10 = .int .i64 0 ∧ e 12 = .int .i64 j ∧ H = [.live (List.replicate m (.str ⟨#[]⟩))] ∧ wordsF (l.drop j) [] = wordsF l [] ∧ cntF (l.drop j) true = m) l.length ?_ ?_
      · refine ⟨0, by omega, rfl, ?_⟩
        simp -dsimp [h0, h3, hc]
      · rintro k e H ⟨j, hj, hk, h0, h9, h10, h12, rfl, hw, hcj⟩
        by_cases c3 : j < l.length
        · have hq1 := asc_ok l[j]
          have hq2 := asc1 l[j]
          cases hsp : isSp l[j]
          · rw [hsp] at hq2
            simp -dsimp [h0, h9, h10, h12, c3, hsz, asc_len, hq1, hq2, hsp]
            refine xL_by (by kernel_rfl) (fun k e H => ∃ (i fs : Nat) (acc : List (List UInt8)), fs ≤ i ∧ i ≤ l.length ∧ k = l.length - i ∧ e 0 = .str ⟨l.toArray⟩ ∧ e 9 = .own 0 0 m 1 ∧ e 10 = .int .i64 acc.length ∧ e 11 = .int .i64 fs ∧ e 12 = .int .i64 i ∧ H = [.live (acc.map wV ++ List.replicate (m - acc.length) emp)] ∧
              acc ++ wordsF (l.drop i) ((l.drop fs).take (i - fs)) = wordsF l [] ∧ acc.length + (if fs < i then 1 else 0) + cntF (l.drop i) (decide (fs = i)) = m ∧ (∀ h : i < l.length, fs = i → isSp l[i] = false)) (l.length - j) ?_ ?_
            · refine ⟨j, j, [], by omega, by omega, rfl, ?_⟩
              simp -dsimp [h0, h9, h10, h12, hw, hcj, hsp]
            rintro k e H ⟨i, fs, acc, hfi, hi, hk, h0, h9, h10, h11, h12, rfl, hw, hci, hst⟩
            by_cases c4 : i < l.length
            · have hq1 := asc_ok l[i]
              have hq2 := asc1 l[i]
              have hst := hst c4
              have hsub := List.drop_eq_getElem_cons c4
              cases hsp : isSp l[i]
              · rw [hsp] at hq2
                simp -dsimp [h0, h9, h10, h11, h12, c4, hsz, asc_len, hq1, hq2, hsp]
                refine ⟨l.length - (i + 1), by omega, i + 1, fs, acc, by omega, by omega, rfl, ?_⟩
                simp -dsimp [h0, h9, h10, h11, h12]
                rw [hsub, words_no hsp] at hw
                rw [hsub, cntF, hsp] at hci
                refine ⟨Fz.w64 (by omega) (by omega), by rw [tk_snoc hfi c4]; exact hw, ?_, by omega⟩
                rw [if_pos (by omega), decide_eq_false (by omega)]
                by_cases c5 : fs = i
                · rw [if_neg (by omega), decide_eq_true c5] at hci
                  simp at hci; omega
                · rw [if_pos (by omega), decide_eq_false c5] at hci
                  simp at hci; omega
              · rw [hsp] at hq2
                have hlt : fs < i := by
                  rcases Nat.lt_or_ge fs i with h | h
                  · exact h
                  · have := hst (by omega); rw [hsp] at this; cases this
                have hpne : (l.drop fs).take (i - fs) ≠ [] := by
                  intro h
                  have := congrArg List.length h
                  simp at this; omega
                rw [hsub, words_sp hsp hpne] at hw
                rw [hsub, cntF, hsp, if_pos hlt] at hci
                simp at hci
                have hac : acc.length < m := by omega
                have hrep : List.replicate (m - acc.length) emp = emp :: List.replicate (m - (acc.length + 1)) emp := by
                  rw [show m - acc.length = m - (acc.length + 1) + 1 from by omega]; rfl
                have w1 : IntKind.i64.wrap ((acc.length : Int) + 1) = (acc.length : Int) + 1 := Fz.w64 (by omega) (by omega)
                have w2 : IntKind.i64.wrap ((i : Int) + 1) = (i : Int) + 1 := Fz.w64 (by omega) (by omega)
                simp -dsimp [h0, h9, h10, h11, h12, c4, hsz, asc_len, hq1, hq2, hsp, w1, w2]
                refine ⟨⟨hfi, hi⟩, hac, by omega, ?_⟩
                refine xL_by (by kernel_rfl) (fun k e H => ∃ (q : Nat), i + 1 ≤ q ∧ q ≤ l.length ∧ k = l.length - q ∧ e 0 = .str ⟨l.toArray⟩ ∧ e 9 = .own 0 0 m 1 ∧ e 10 = .int .i64 ((acc.length : Int) + 1) ∧ e 12 = .int .i64 q ∧ H = [.live ((acc ++ [(l.drop fs).take (i - fs)]).map wV ++ List.replicate (m - (acc.length + 1)) emp)] ∧ wordsF (l.drop q) [] = wordsF (l.drop (i + 1)) [] ∧ cntF (l.drop q) true = cntF (l.drop (i + 1)) true) (l.length - (i + 1)) ?_ ?_
                · refine ⟨i + 1, by omega, by omega, rfl, ?_⟩
                  have hdrop : List.drop (acc.length + 1) (List.map wV acc ++ List.replicate (m - acc.length) emp) = List.replicate (m - (acc.length + 1)) emp := by
                    rw [List.drop_append, List.length_map, List.drop_eq_nil_of_le (by simp), List.nil_append, List.drop_replicate]
                    congr 1; omega
                  simp -dsimp [h0, h9, h10, h11, h12]
                  exact ⟨by rw [ext_list]; rfl, hdrop⟩
                rintro k e H ⟨q, hq, hql, hk, h0, h9, h10, h12, rfl, hwq, hcq⟩
                by_cases c6 : q < l.length
                · have hq1 := asc_ok l[q]
                  have hq2 := asc1 l[q]
                  cases hsp2 : isSp l[q]
                  · rw [hsp2] at hq2
                    simp -dsimp [h0, h9, h10, h12, c6, hsz, asc_len, hq1, hq2, hsp2]
                    refine ⟨l.length - q, by omega, q, q, acc ++ [(l.drop fs).take (i - fs)], by omega, by omega, rfl, ?_⟩
                    simp -dsimp [h0, h9, h10, h12]
                    refine ⟨?_, ?_, ?_⟩
                    · rw [hwq]; exact hw
                    · rw [hcq]; omega
                    · intro _; exact hsp2
                  · rw [hsp2] at hq2
                    rw [List.drop_eq_getElem_cons c6, cntF, hsp2] at hcq
                    rw [List.drop_eq_getElem_cons c6, wordsF, hsp2] at hwq
                    simp -dsimp [h0, h9, h10, h12, c6, hsz, asc_len, hq1, hq2, hsp2]
                    refine ⟨l.length - (q + 1), by omega, q + 1, by omega, by omega, rfl, ?_⟩
                    simp -dsimp [h0, h9, h10, h12]
                    refine ⟨Fz.w64 (by omega) (by omega), by simpa using hwq, by simpa using hcq⟩
                · simp -dsimp [h0, h9, h10, h12, c6, hsz]
                  refine ⟨l.length - q, by omega, q, q, acc ++ [(l.drop fs).take (i - fs)], by omega, by omega, rfl, ?_⟩
                  simp -dsimp [h0, h9, h10, h12]
                  refine ⟨?_, ?_, ?_⟩
                  · rw [hwq]; exact hw
                  · rw [hcq]; omega
                  · intro h; omega
            · have hii : i = l.length := by omega
              subst hii
              by_cases c5 : fs < l.length
              · rw [if_pos c5, List.drop_length, cntF] at hci
                have hpne : (l.drop fs).take (l.length - fs) ≠ [] := by
                  intro h
                  have := congrArg List.length h
                  simp at this; omega
                have hwe : wordsF [] ((l.drop fs).take (l.length - fs)) = [(l.drop fs).take (l.length - fs)] := by
                  cases hx : (l.drop fs).take (l.length - fs) with
                  | nil => exact absurd hx hpne
                  | cons a r => rfl
                rw [List.drop_length, hwe] at hw
                simp -dsimp [h0, h9, h10, h11, h12, c5, hsz]
                refine ⟨hfi, by omega, by omega, ?_⟩
                have hdrop : List.drop (acc.length + 1) (List.map wV acc ++ List.replicate (m - acc.length) emp) = [] := by
                  apply List.drop_eq_nil_of_le
                  simp; omega
                rw [hdrop, ext_list, show V.str ⟨((l.drop fs).take (l.length - fs)).toArray⟩ = wV ((l.drop fs).take (l.length - fs)) from rfl]
                rw [← hw] at hq
                simpa using hq
              · have hfe : fs = l.length := by omega
                subst hfe
                rw [if_neg (by omega), List.drop_length, cntF] at hci
                simp -dsimp [h0, h9, h10, h11, h12, c5, hsz]
                rw [List.drop_length] at hw
                rw [show m - acc.length = 0 from by omega]
                have hw' : acc = wordsF l [] := by simpa [wordsF] using hw
                rw [hw']
                simpa using hq
          · rw [hsp] at hq2
            rw [List.drop_eq_getElem_cons c3, cntF, hsp] at hcj
            rw [List.drop_eq_getElem_cons c3, wordsF, hsp] at hw
            simp -dsimp [h0, h9, h10, h12, c3, hsz, asc_len, hq1, hq2, hsp]
            refine ⟨l.length - (j + 1), by omega, j + 1, by omega, rfl, ?_⟩
            simp -dsimp [h0, h9, h10, h12]
            exact ⟨Fz.w64 (by omega) (by omega), by simpa using hw, by simpa using hcj⟩
        · obtain rfl : j = l.length := by omega
          rw [List.drop_length, cntF] at hcj
          omega
end Fz.D
set_option maxRecDepth 100000
namespace Fz.D
open Go Go.Proofs
def allB : List UInt8 := [69, 88, 73, 84, 32, 40, 76, 73, 84, 41, 32, 40, 66, 82, 65, 78, 67, 72, 41, 32, 40, 48, 66, 82, 65, 78, 67, 72, 41, 32, 40, 68, 79, 41, 32, 40, 76, 79, 79, 80, 41, 32, 40, 43, 76, 79, 79, 80, 41, 32, 40, 86, 65, 82, 41, 32, 40, 68, 79, 69, 83, 41, 32, 40, 84, 69, 88, 84, 41, 32, 40, 77, 65, 82, 75, 41, 32, 67, 79, 77, 80, 73, 76, 69, 44, 32, 68, 85, 80, 32, 68, 82, 79, 80, 32, 83, 87, 65, 80, 32, 79, 86, 69, 82, 32, 82, 79, 84, 32, 78, 73, 80, 32, 84, 85, 67, 75, 32, 63, 68, 85, 80, 32, 50, 68, 85, 80, 32, 50, 68, 82, 79, 80, 32, 50, 83, 87, 65, 80, 32, 50, 79, 86, 69, 82, 32, 80, 73, 67, 75, 32, 82, 79, 76, 76, 32, 68, 69, 80, 84, 72, 32, 43, 32, 45, 32, 42, 32, 47, 32, 77, 79, 68, 32, 47, 77, 79, 68, 32, 42, 47, 32, 42, 47, 77, 79, 68, 32, 49, 43, 32, 49, 45, 32, 50, 42, 32, 50, 47, 32, 78, 69, 71, 65, 84, 69, 32, 65, 66, 83, 32, 77, 73, 78, 32, 77, 65, 88, 32, 65, 78, 68, 32, 79, 82, 32, 88, 79, 82, 32, 73, 78, 86, 69, 82, 84, 32, 76, 83, 72, 73, 70, 84, 32, 82, 83, 72, 73, 70, 84, 32, 61, 32, 60, 62, 32, 60, 32, 62, 32, 85, 60, 32, 48, 61, 32, 48, 60, 32, 48, 60, 62, 32, 48, 62, 32, 87, 73, 84, 72, 73, 78, 32, 84, 82, 85, 69, 32, 70, 65, 76, 83, 69, 32, 67, 69, 76, 76, 83, 32, 67, 69, 76, 76, 43, 32, 70, 43, 32, 70, 45, 32, 70, 42, 32, 70, 47, 32, 70, 77, 73, 78, 32, 70, 77, 65, 88, 32, 70, 78, 69, 71, 65, 84, 69, 32, 70, 65, 66, 83, 32, 70, 83, 81, 82, 84, 32, 70, 76, 79, 79, 82, 32, 70, 60, 32, 70, 61, 32, 83, 62, 70, 32, 70, 62, 83, 32, 64, 32, 33, 32, 43, 33, 32, 67, 64, 32, 67, 33, 32, 72, 69, 82, 69, 32, 65, 76, 76, 79, 84, 32, 44, 32, 67, 44, 32, 65, 76, 73, 71, 78, 32, 66, 65, 83, 69, 32, 68, 69, 67, 73, 77, 65, 76, 32, 72, 69, 88, 32, 62, 82, 32, 82, 62, 32, 82, 64, 32, 73, 32, 74, 32, 85, 78, 76, 79, 79, 80, 32, 76, 69, 65, 86, 69, 32, 73, 70, 32, 69, 76, 83, 69, 32, 84, 72, 69, 78, 32, 66, 69, 71, 73, 78, 32, 65, 71, 65, 73, 78, 32, 85, 78, 84, 73, 76, 32, 87, 72, 73, 76, 69, 32, 82, 69, 80, 69, 65, 84, 32, 68, 79, 32, 76, 79, 79, 80, 32, 43, 76, 79, 79, 80, 32, 82, 69, 67, 85, 82, 83, 69, 32, 58, 32, 59, 32, 73, 77, 77, 69, 68, 73, 65, 84, 69, 32, 67, 79, 78, 83, 84, 65, 78, 84, 32, 86, 65, 82, 73, 65, 66, 76, 69, 32, 67, 82, 69, 65, 84, 69, 32, 68, 79, 69, 83, 62, 32, 77, 65, 82, 75, 69, 82, 32, 39, 32, 91, 39, 93, 32, 76, 73, 84, 69, 82, 65, 76, 32, 80, 79, 83, 84, 80, 79, 78, 69, 32, 91, 32, 93, 32, 69, 88, 69, 67, 85, 84, 69, 32, 67, 72, 65, 82, 32, 91, 67, 72, 65, 82, 93, 32, 40, 32, 92, 32, 46, 34, 32, 69, 77, 73, 84, 32, 67, 82, 32, 83, 80, 65, 67, 69, 32, 46, 32, 84, 89, 80, 69, 32, 75, 69, 89, 32, 84, 72, 82, 79, 87, 32, 65, 66, 79, 82, 84]
def ctlB : List UInt8 := [73, 70, 32, 69, 76, 83, 69, 32, 84, 72, 69, 78, 32, 66, 69, 71, 73, 78, 32, 65, 71, 65, 73, 78, 32, 85, 78, 84, 73, 76, 32, 87, 72, 73, 76, 69, 32, 82, 69, 80, 69, 65, 84, 32, 68, 79, 32, 76, 79, 79, 80, 32, 43, 76, 79, 79, 80, 32, 82, 69, 67, 85, 82, 83, 69, 32, 59, 32, 68, 79, 69, 83, 62, 32, 91, 39, 93, 32, 76, 73, 84, 69, 82, 65, 76, 32, 80, 79, 83, 84, 80, 79, 78, 69, 32, 91, 67, 72, 65, 82, 93]
def opsL : List (List UInt8) := [[69, 88, 73, 84], [40, 76, 73, 84, 41], [40, 66, 82, 65, 78, 67, 72, 41], [40, 48, 66, 82, 65, 78, 67, 72, 41], [40, 68, 79, 41], [40, 76, 79, 79, 80, 41], [40, 43, 76, 79, 79, 80, 41], [40, 86, 65, 82, 41], [40, 68, 79, 69, 83, 41], [40, 84, 69, 88, 84, 41], [40, 77, 65, 82, 75, 41], [67, 79, 77, 80, 73, 76, 69, 44], [68, 85, 80], [68, 82, 79, 80], [83, 87, 65, 80], [79, 86, 69, 82], [82, 79, 84], [78, 73, 80], [84, 85, 67, 75], [63, 68, 85, 80], [50, 68, 85, 80], [50, 68, 82, 79, 80], [50, 83, 87, 65, 80], [50, 79, 86, 69, 82], [80, 73, 67, 75], [82, 79, 76, 76], [68, 69, 80, 84, 72], [43], [45], [42], [47], [77, 79, 68], [47, 77, 79, 68], [42, 47], [42, 47, 77, 79, 68], [49, 43], [49, 45], [50, 42], [50, 47], [78, 69, 71, 65, 84, 69], [65, 66, 83], [77, 73, 78], [77, 65, 88], [65, 78, 68], [79, 82], [88, 79, 82], [73, 78, 86, 69, 82, 84], [76, 83, 72, 73, 70, 84], [82, 83, 72, 73, 70, 84], [61], [60, 62], [60], [62], [85, 60], [48, 61], [48, 60], [48, 60, 62], [48, 62], [87, 73, 84, 72, 73, 78], [84, 82, 85, 69], [70, 65, 76, 83, 69], [67, 69, 76, 76, 83], [67, 69, 76, 76, 43], [70, 43], [70, 45], [70, 42], [70, 47], [70, 77, 73, 78], [70, 77, 65, 88], [70, 78, 69, 71, 65, 84, 69], [70, 65, 66, 83], [70, 83, 81, 82, 84], [70, 76, 79, 79, 82], [70, 60], [70, 61], [83, 62, 70], [70, 62, 83], [64], [33], [43, 33], [67, 64], [67, 33], [72, 69, 82, 69], [65, 76, 76, 79, 84], [44], [67, 44], [65, 76, 73, 71, 78], [66, 65, 83, 69], [68, 69, 67, 73, 77, 65, 76], [72, 69, 88], [62, 82], [82, 62], [82, 64], [73], [74], [85, 78, 76, 79, 79, 80], [76, 69, 65, 86, 69], [73, 70], [69, 76, 83, 69], [84, 72, 69, 78], [66, 69, 71, 73, 78], [65, 71, 65, 73, 78], [85, 78, 84, 73, 76], [87, 72, 73, 76, 69], [82, 69, 80, 69, 65, 84], [68, 79], [76, 79, 79, 80], [43, 76, 79, 79, 80], [82, 69, 67, 85, 82, 83, 69], [58], [59], [73, 77, 77, 69, 68, 73, 65, 84, 69], [67, 79, 78, 83, 84, 65, 78, 84], [86, 65, 82, 73, 65, 66, 76, 69], [67, 82, 69, 65, 84, 69], [68, 79, 69, 83, 62], [77, 65, 82, 75, 69, 82], [39], [91, 39, 93], [76, 73, 84, 69, 82, 65, 76], [80, 79, 83, 84, 80, 79, 78, 69], [91], [93], [69, 88, 69, 67, 85, 84, 69], [67, 72, 65, 82], [91, 67, 72, 65, 82, 93], [40], [92], [46, 34], [69, 77, 73, 84], [67, 82], [83, 80, 65, 67, 69], [46], [84, 89, 80, 69], [75, 69, 89], [84, 72, 82, 79, 87], [65, 66, 79, 82, 84]]
def ctlL : List (List UInt8) := [[73, 70], [69, 76, 83, 69], [84, 72, 69, 78], [66, 69, 71, 73, 78], [65, 71, 65, 73, 78], [85, 78, 84, 73, 76], [87, 72, 73, 76, 69], [82, 69, 80, 69, 65, 84], [68, 79], [76, 79, 79, 80], [43, 76, 79, 79, 80], [82, 69, 67, 85, 82, 83, 69], [59], [68, 79, 69, 83, 62], [91, 39, 93], [76, 73, 84, 69, 82, 65, 76], [80, 79, 83, 84, 80, 79, 78, 69], [91, 67, 72, 65, 82, 93]]
theorem allB_w : wordsF allB [] = opsL := by kernel_rfl
theorem allB_a : ∀ c ∈ allB, c.toNat < 128 := by decide +kernel
theorem ren_wV (g : Nat → Nat) : ∀ l : List (List UInt8), renL g (l.map wV) = l.map wV
  | [] => rfl
  | a :: r => by rw [List.map_cons, renL, ren_wV g r]; rfl
theorem refs_wV : ∀ l : List (List UInt8), refsL (l.map wV) = []
  | [] => rfl
  | a :: r => by rw [List.map_cons, refsL, refs_wV r]; rfl
theorem list_run : WFun p0 39 [] [] fun r H => r = .ret (.own 0 0 137 1) ∧ H = [.live (opsL.map wV)] := by
  refine WFun_of w39 rfl rfl k39 ?_
  simp -dsimp [w39]
  refine WCall_inl (ids := []) rfl rfl ?_
  refine fields_s (l := allB) (n := 137) allB_a (by decide +kernel) (by rw [allB_w]; kernel_rfl) (by kernel_rfl) (by decide) ?_
  have k0 : backK [] 0 0 = 0 := by simp [backK]
  simp -dsimp [allB_w, backH, setAll, renR, renOb, crV, refs, refsL, renL, ren, ren_wV, refs_wV, k0]
def laidP (l : List (List UInt8)) : List V → List Ob → Option (V × List Ob)
  | [], [] => some (.own 0 0 l.length 1, [.live (l.map wV)])
  | _, _ => none
def prim1 (f : FuncId) : Option (List V → List Ob → Option (V × List Ob)) := if f = 39 then some (laidP opsL) else prim0 f
def p1 : AP := { fn := lk tab, prim := prim1, inl := isInl, body := bods }
@[simp] theorem inl_eq1 (f : FuncId) : p1.inlY f = (f == 4000000000 || isInl f) := (rfl)
theorem fn_ok (f : FuncId) (af : AFun) (h : lk tab f = some af) : cFun Tryz.prog f = some af.erase := tab_ok _ (lk_mem _ _ _ h)
end Fz.D
set_option maxRecDepth 100000
namespace Fz.D
open Go Go.Proofs
def p : AP := p1
@[simp] theorem inl_eq (f : FuncId) : p.inlY f = (f == 4000000000 || isInl f) := (rfl)
def isTrue : Option (CR × List Ob) → Bool
  | some (.ret (.bool b), _) => b
  | _ => false
theorem isTrue_ok {r : Option (CR × List Ob)} (h : isTrue r = true) : ∃ H, r = some (.ret (.bool true), H) := by
  unfold isTrue at h
  split at h
  · subst h; exact ⟨_, rfl⟩
  · cases h
theorem awake13 : isTrue (acall p1 1000 23 [] []) = true := by kernel_rfl
end Fz.D
set_option maxRecDepth 100000
namespace Fz.D
open Go
def byV (b : List Int) : V := .list (b.map (V.int .u8)) false
@[simp] theorem byV.gd (b : List Int) : ground (byV b) = true := by simp [byV]
@[simp] theorem byV.gk (b : List Int) (k : Nat) : gk (k + 1) (byV b) = true := by simp [byV]
@[simp] theorem byV.nr (b : List Int) : nrm (byV b) = byV b := by simp [byV]
@[simp] theorem byV.nrc : nrm ∘ byV = byV := funext fun x => byV.nr x
@[simp] theorem byV.nm (b : List Int) : nm (byV b) = true := by simp [byV]
@[simp] theorem byV.any (b : List Int) : isAny (byV b) = false := rfl
@[simp] theorem byV.cells (b : List Int) : cellsOf (byV b) = [byV b] := rfl
@[simp] theorem byV.st (b : List Int) : storable (byV b) = true := rfl
@[simp] theorem byV.lf (b : List Int) : leafy (byV b) = true := rfl
@[simp] theorem byV.uni (l : List (List Int)) : uni 1 (l.map byV) = true := uni_map fun _ => rfl
@[simp] theorem byV.flat (l : List (List Int)) : flat (l.map byV) = l.map byV := flat_one fun _ => rfl
@[simp] theorem byV.sl (b : List Int) (L : List V → Bool → Prop) (O : Nat → Nat → Nat → Nat → Prop) : wSl (byV b) L O = L (b.map (V.int .u8)) false := (rfl)
@[simp] theorem byV.el (b : List Int) (H : List Ob) (n : Nat) (K : List V → Nat → Prop) : xElems H n (byV b) K = xElems H n (.list (b.map (V.int .u8)) false) K := (rfl)
@[simp] theorem byV.xs (b : List Int) (H : List Ob) (n : Nat) (lo hi mx : Option V) (K : V → Prop) : xSlice H (.sl n) (byV b) lo hi mx K = xSlice H (.sl n) (.list (b.map (V.int .u8)) false) lo hi mx K := (rfl)
def inV (b : List Int) : V := .list (b.map (V.int .i64)) false
@[simp] theorem inV.gd (b : List Int) : ground (inV b) = true := by simp [inV]
@[simp] theorem inV.gk (b : List Int) (k : Nat) : gk (k + 1) (inV b) = true := by simp [inV]
@[simp] theorem inV.nr (b : List Int) : nrm (inV b) = inV b := by simp [inV]
@[simp] theorem inV.nrc : nrm ∘ inV = inV := funext fun x => inV.nr x
@[simp] theorem inV.nm (b : List Int) : nm (inV b) = true := by simp [inV]
@[simp] theorem inV.any (b : List Int) : isAny (inV b) = false := rfl
@[simp] theorem inV.cells (b : List Int) : cellsOf (inV b) = [inV b] := rfl
@[simp] theorem inV.st (b : List Int) : storable (inV b) = true := rfl
@[simp] theorem inV.lf (b : List Int) : leafy (inV b) = true := rfl
@[simp] theorem inV.uni (l : List (List Int)) : uni 1 (l.map inV) = true := uni_map fun _ => rfl
@[simp] theorem inV.flat (l : List (List Int)) : flat (l.map inV) = l.map inV := flat_one fun _ => rfl
@[simp] theorem inV.sl (b : List Int) (L : List V → Bool → Prop) (O : Nat → Nat → Nat → Nat → Prop) : wSl (inV b) L O = L (b.map (V.int .i64)) false := (rfl)
@[simp] theorem inV.el (b : List Int) (H : List Ob) (n : Nat) (K : List V → Nat → Prop) : xElems H n (inV b) K = xElems H n (.list (b.map (V.int .i64)) false) K := (rfl)
@[simp] theorem inV.xs (b : List Int) (H : List Ob) (n : Nat) (lo hi mx : Option V) (K : V → Prop) : xSlice H (.sl n) (inV b) lo hi mx K = xSlice H (.sl n) (.list (b.map (V.int .i64)) false) lo hi mx K := (rfl)
structure Slo where
  v : Int
  call : Bool
deriving Inhabited, DecidableEq
structure Wor where
  name : ByteArray
  code : Int
  now : Bool
  hid : Bool
deriving Inhabited
structure Spo where
  addr : Int
  at_ : Int
deriving Inhabited, DecidableEq
structure Rn where
  at_ : Int
  b : List Int
deriving Inhabited, DecidableEq
def sloV (s : Slo) : V := .agg [.int .i64 s.v, .bool s.call]
@[simp] theorem sloV.gd (s : Slo) : ground (sloV s) = true := by simp [sloV]
@[simp] theorem sloV.gk (s : Slo) (k : Nat) : gk (k + 2) (sloV s) = true := by simp [sloV]
@[simp] theorem sloV.nr (s : Slo) : nrm (sloV s) = sloV s := by simp [sloV]
@[simp] theorem sloV.nrc : nrm ∘ sloV = sloV := funext fun x => sloV.nr x
@[simp] theorem sloV.nm (s : Slo) : nm (sloV s) = true := by simp [sloV]
@[simp] theorem sloV.any (s : Slo) : isAny (sloV s) = false := rfl
@[simp] theorem sloV.cells (s : Slo) : cellsOf (sloV s) = [.int .i64 s.v, .bool s.call] := rfl
@[simp] theorem sloV.uni (l : List (Slo)) : uni 2 (l.map sloV) = true := uni_map fun _ => rfl
@[simp] theorem sloV.flat (l : List (Slo)) : flat (l.map sloV) = l.flatMap fun s => [.int .i64 s.v, .bool s.call] := by rw [flat_map]; rfl
def worV (s : Wor) : V := .agg [.str s.name, .int .i64 s.code, .bool s.now, .bool s.hid]
@[simp] theorem worV.gd (s : Wor) : ground (worV s) = true := by simp [worV]
@[simp] theorem worV.gk (s : Wor) (k : Nat) : gk (k + 2) (worV s) = true := by simp [worV]
@[simp] theorem worV.nr (s : Wor) : nrm (worV s) = worV s := by simp [worV]
@[simp] theorem worV.nrc : nrm ∘ worV = worV := funext fun x => worV.nr x
@[simp] theorem worV.nm (s : Wor) : nm (worV s) = true := by simp [worV]
@[simp] theorem worV.any (s : Wor) : isAny (worV s) = false := rfl
@[simp] theorem worV.cells (s : Wor) : cellsOf (worV s) = [.str s.name, .int .i64 s.code, .bool s.now, .bool s.hid] := rfl
@[simp] theorem worV.uni (l : List (Wor)) : uni 4 (l.map worV) = true := uni_map fun _ => rfl
@[simp] theorem worV.flat (l : List (Wor)) : flat (l.map worV) = l.flatMap fun s => [.str s.name, .int .i64 s.code, .bool s.now, .bool s.hid] := by rw [flat_map]; rfl
def spoV (s : Spo) : V := .agg [.int .i64 s.addr, .int .i64 s.at_]
@[simp] theorem spoV.gd (s : Spo) : ground (spoV s) = true := by simp [spoV]
@[simp] theorem spoV.gk (s : Spo) (k : Nat) : gk (k + 2) (spoV s) = true := by simp [spoV]
@[simp] theorem spoV.nr (s : Spo) : nrm (spoV s) = spoV s := by simp [spoV]
@[simp] theorem spoV.nrc : nrm ∘ spoV = spoV := funext fun x => spoV.nr x
@[simp] theorem spoV.nm (s : Spo) : nm (spoV s) = true := by simp [spoV]
@[simp] theorem spoV.any (s : Spo) : isAny (spoV s) = false := rfl
@[simp] theorem spoV.cells (s : Spo) : cellsOf (spoV s) = [.int .i64 s.addr, .int .i64 s.at_] := rfl
@[simp] theorem spoV.uni (l : List (Spo)) : uni 2 (l.map spoV) = true := uni_map fun _ => rfl
@[simp] theorem spoV.flat (l : List (Spo)) : flat (l.map spoV) = l.flatMap fun s => [.int .i64 s.addr, .int .i64 s.at_] := by rw [flat_map]; rfl
def runV (s : Rn) : V := .agg [.int .i64 s.at_, byV s.b]
@[simp] theorem runV.gd (s : Rn) : ground (runV s) = true := by simp [runV]
@[simp] theorem runV.gk (s : Rn) (k : Nat) : gk (k + 2) (runV s) = true := by simp [runV]
@[simp] theorem runV.nr (s : Rn) : nrm (runV s) = runV s := by simp [runV]
@[simp] theorem runV.nrc : nrm ∘ runV = runV := funext fun x => runV.nr x
@[simp] theorem runV.nm (s : Rn) : nm (runV s) = true := by simp [runV]
@[simp] theorem runV.any (s : Rn) : isAny (runV s) = false := rfl
@[simp] theorem runV.cells (s : Rn) : cellsOf (runV s) = [.int .i64 s.at_, byV s.b] := rfl
@[simp] theorem runV.uni (l : List (Rn)) : uni 2 (l.map runV) = true := uni_map fun _ => rfl
@[simp] theorem runV.flat (l : List (Rn)) : flat (l.map runV) = l.flatMap fun s => [.int .i64 s.at_, byV s.b] := by rw [flat_map]; rfl
def slosV (l : List Slo) : V := .list (l.map sloV) false
@[simp] theorem slosV.gd (l : List Slo) : ground (slosV l) = true := by simp [slosV]
@[simp] theorem slosV.gk (l : List Slo) (k : Nat) : gk (k + 1) (slosV l) = true := by simp [slosV]
@[simp] theorem slosV.nr (l : List Slo) : nrm (slosV l) = slosV l := by simp [slosV]
@[simp] theorem slosV.nrc : nrm ∘ slosV = slosV := funext fun x => slosV.nr x
@[simp] theorem slosV.nm (l : List Slo) : nm (slosV l) = true := by simp [slosV]
@[simp] theorem slosV.any (l : List Slo) : isAny (slosV l) = false := rfl
@[simp] theorem slosV.cells (l : List Slo) : cellsOf (slosV l) = [slosV l] := rfl
@[simp] theorem slosV.st (l : List Slo) : storable (slosV l) = true := rfl
@[simp] theorem slosV.lf (l : List Slo) : leafy (slosV l) = true := rfl
@[simp] theorem slosV.uni (l : List (List Slo)) : uni 1 (l.map slosV) = true := uni_map fun _ => rfl
@[simp] theorem slosV.flat (l : List (List Slo)) : flat (l.map slosV) = l.map slosV := flat_one fun _ => rfl
@[simp] theorem slosV.sl (l : List Slo) (L : List V → Bool → Prop) (O : Nat → Nat → Nat → Nat → Prop) : wSl (slosV l) L O = L (l.map sloV) false := (rfl)
@[simp] theorem slosV.el (l : List Slo) (H : List Ob) (n : Nat) (K : List V → Nat → Prop) : xElems H n (slosV l) K = xElems H n (.list (l.map sloV) false) K := (rfl)
@[simp] theorem slosV.xs (l : List Slo) (H : List Ob) (n : Nat) (lo hi mx : Option V) (K : V → Prop) : xSlice H (.sl n) (slosV l) lo hi mx K = xSlice H (.sl n) (.list (l.map sloV) false) lo hi mx K := (rfl)
def worsV (l : List Wor) : V := .list (l.map worV) false
@[simp] theorem worsV.gd (l : List Wor) : ground (worsV l) = true := by simp [worsV]
@[simp] theorem worsV.gk (l : List Wor) (k : Nat) : gk (k + 1) (worsV l) = true := by simp [worsV]
@[simp] theorem worsV.nr (l : List Wor) : nrm (worsV l) = worsV l := by simp [worsV]
@[simp] theorem worsV.nrc : nrm ∘ worsV = worsV := funext fun x => worsV.nr x
@[simp] theorem worsV.nm (l : List Wor) : nm (worsV l) = true := by simp [worsV]
@[simp] theorem worsV.any (l : List Wor) : isAny (worsV l) = false := rfl
@[simp] theorem worsV.cells (l : List Wor) : cellsOf (worsV l) = [worsV l] := rfl
@[simp] theorem worsV.st (l : List Wor) : storable (worsV l) = true := rfl
@[simp] theorem worsV.lf (l : List Wor) : leafy (worsV l) = true := rfl
@[simp] theorem worsV.uni (l : List (List Wor)) : uni 1 (l.map worsV) = true := uni_map fun _ => rfl
@[simp] theorem worsV.flat (l : List (List Wor)) : flat (l.map worsV) = l.map worsV := flat_one fun _ => rfl
@[simp] theorem worsV.sl (l : List Wor) (L : List V → Bool → Prop) (O : Nat → Nat → Nat → Nat → Prop) : wSl (worsV l) L O = L (l.map worV) false := (rfl)
@[simp] theorem worsV.el (l : List Wor) (H : List Ob) (n : Nat) (K : List V → Nat → Prop) : xElems H n (worsV l) K = xElems H n (.list (l.map worV) false) K := (rfl)
@[simp] theorem worsV.xs (l : List Wor) (H : List Ob) (n : Nat) (lo hi mx : Option V) (K : V → Prop) : xSlice H (.sl n) (worsV l) lo hi mx K = xSlice H (.sl n) (.list (l.map worV) false) lo hi mx K := (rfl)
def sposV (l : List Spo) : V := .list (l.map spoV) false
@[simp] theorem sposV.gd (l : List Spo) : ground (sposV l) = true := by simp [sposV]
@[simp] theorem sposV.gk (l : List Spo) (k : Nat) : gk (k + 1) (sposV l) = true := by simp [sposV]
@[simp] theorem sposV.nr (l : List Spo) : nrm (sposV l) = sposV l := by simp [sposV]
@[simp] theorem sposV.nrc : nrm ∘ sposV = sposV := funext fun x => sposV.nr x
@[simp] theorem sposV.nm (l : List Spo) : nm (sposV l) = true := by simp [sposV]
@[simp] theorem sposV.any (l : List Spo) : isAny (sposV l) = false := rfl
@[simp] theorem sposV.cells (l : List Spo) : cellsOf (sposV l) = [sposV l] := rfl
@[simp] theorem sposV.st (l : List Spo) : storable (sposV l) = true := rfl
@[simp] theorem sposV.lf (l : List Spo) : leafy (sposV l) = true := rfl
@[simp] theorem sposV.uni (l : List (List Spo)) : uni 1 (l.map sposV) = true := uni_map fun _ => rfl
@[simp] theorem sposV.flat (l : List (List Spo)) : flat (l.map sposV) = l.map sposV := flat_one fun _ => rfl
@[simp] theorem sposV.sl (l : List Spo) (L : List V → Bool → Prop) (O : Nat → Nat → Nat → Nat → Prop) : wSl (sposV l) L O = L (l.map spoV) false := (rfl)
@[simp] theorem sposV.el (l : List Spo) (H : List Ob) (n : Nat) (K : List V → Nat → Prop) : xElems H n (sposV l) K = xElems H n (.list (l.map spoV) false) K := (rfl)
@[simp] theorem sposV.xs (l : List Spo) (H : List Ob) (n : Nat) (lo hi mx : Option V) (K : V → Prop) : xSlice H (.sl n) (sposV l) lo hi mx K = xSlice H (.sl n) (.list (l.map spoV) false) lo hi mx K := (rfl)
def runsV (l : List Rn) : V := .list (l.map runV) false
@[simp] theorem runsV.gd (l : List Rn) : ground (runsV l) = true := by simp [runsV]
@[simp] theorem runsV.gk (l : List Rn) (k : Nat) : gk (k + 1) (runsV l) = true := by simp [runsV]
@[simp] theorem runsV.nr (l : List Rn) : nrm (runsV l) = runsV l := by simp [runsV]
@[simp] theorem runsV.nrc : nrm ∘ runsV = runsV := funext fun x => runsV.nr x
@[simp] theorem runsV.nm (l : List Rn) : nm (runsV l) = true := by simp [runsV]
@[simp] theorem runsV.any (l : List Rn) : isAny (runsV l) = false := rfl
@[simp] theorem runsV.cells (l : List Rn) : cellsOf (runsV l) = [runsV l] := rfl
@[simp] theorem runsV.st (l : List Rn) : storable (runsV l) = true := rfl
@[simp] theorem runsV.lf (l : List Rn) : leafy (runsV l) = true := rfl
@[simp] theorem runsV.uni (l : List (List Rn)) : uni 1 (l.map runsV) = true := uni_map fun _ => rfl
@[simp] theorem runsV.flat (l : List (List Rn)) : flat (l.map runsV) = l.map runsV := flat_one fun _ => rfl
@[simp] theorem runsV.sl (l : List Rn) (L : List V → Bool → Prop) (O : Nat → Nat → Nat → Nat → Prop) : wSl (runsV l) L O = L (l.map runV) false := (rfl)
@[simp] theorem runsV.el (l : List Rn) (H : List Ob) (n : Nat) (K : List V → Nat → Prop) : xElems H n (runsV l) K = xElems H n (.list (l.map runV) false) K := (rfl)
@[simp] theorem runsV.xs (l : List Rn) (H : List Ob) (n : Nat) (lo hi mx : Option V) (K : V → Prop) : xSlice H (.sl n) (runsV l) lo hi mx K = xSlice H (.sl n) (.list (l.map runV) false) lo hi mx K := (rfl)
structure St where
  mem : List Int
  data : List Int
  ret : List Slo
  ctl : List Int
  words : List Wor
  spots : List Spo
  out : List Int
  ip : Int
  here : Int
  at_ : Int
  tok : Int
  in_ : Int
  err : Int
  comp : Bool
  halt : Bool
deriving Inhabited
structure De where
  mem : List Rn
  dk : Int
  dt : List Int
  rk : Int
  rt : List Slo
  ck : Int
  ct : List Int
  wk : Int
  wt : List Wor
  sk : Int
  st : List Spo
  out : Int
  r0 : Int
  r1 : Int
  r2 : Int
  r3 : Int
  r4 : Int
  r5 : Int
  comp : Bool
  halt : Bool
deriving Inhabited
def stV (s : St) : V := .agg [byV s.mem, inV s.data, slosV s.ret, inV s.ctl, worsV s.words, sposV s.spots, byV s.out, .int .i64 s.ip, .int .i64 s.here, .int .i64 s.at_, .int .i64 s.tok, .int .i64 s.in_, .int .i64 s.err, .bool s.comp, .bool s.halt]
@[simp] theorem stV.gd (s : St) : ground (stV s) = true := by simp [stV]
@[simp] theorem stV.gk (s : St) (k : Nat) : gk (k + 2) (stV s) = true := by simp [stV]
@[simp] theorem stV.nr (s : St) : nrm (stV s) = stV s := by simp [stV]
@[simp] theorem stV.nrc : nrm ∘ stV = stV := funext fun x => stV.nr x
@[simp] theorem stV.nm (s : St) : nm (stV s) = true := by simp [stV]
@[simp] theorem stV.any (s : St) : isAny (stV s) = false := rfl
@[simp] theorem stV.cells (s : St) : cellsOf (stV s) = [byV s.mem, inV s.data, slosV s.ret, inV s.ctl, worsV s.words, sposV s.spots, byV s.out, .int .i64 s.ip, .int .i64 s.here, .int .i64 s.at_, .int .i64 s.tok, .int .i64 s.in_, .int .i64 s.err, .bool s.comp, .bool s.halt] := rfl
@[simp] theorem stV.uni (l : List (St)) : uni 15 (l.map stV) = true := uni_map fun _ => rfl
@[simp] theorem stV.flat (l : List (St)) : flat (l.map stV) = l.flatMap fun s => [byV s.mem, inV s.data, slosV s.ret, inV s.ctl, worsV s.words, sposV s.spots, byV s.out, .int .i64 s.ip, .int .i64 s.here, .int .i64 s.at_, .int .i64 s.tok, .int .i64 s.in_, .int .i64 s.err, .bool s.comp, .bool s.halt] := by rw [flat_map]; rfl
def deV (d : De) : V := .agg [runsV d.mem, .int .i64 d.dk, inV d.dt, .int .i64 d.rk, slosV d.rt, .int .i64 d.ck, inV d.ct, .int .i64 d.wk, worsV d.wt, .int .i64 d.sk, sposV d.st, .int .i64 d.out, .int .i64 d.r0, .int .i64 d.r1, .int .i64 d.r2, .int .i64 d.r3, .int .i64 d.r4, .int .i64 d.r5, .bool d.comp, .bool d.halt]
@[simp] theorem deV.gd (d : De) : ground (deV d) = true := by simp [deV]
@[simp] theorem deV.gk (d : De) (k : Nat) : gk (k + 2) (deV d) = true := by simp [deV]
@[simp] theorem deV.nr (d : De) : nrm (deV d) = deV d := by simp [deV]
@[simp] theorem deV.nrc : nrm ∘ deV = deV := funext fun x => deV.nr x
@[simp] theorem deV.nm (d : De) : nm (deV d) = true := by simp [deV]
@[simp] theorem deV.any (d : De) : isAny (deV d) = false := rfl
@[simp] theorem deV.cells (d : De) : cellsOf (deV d) = [runsV d.mem, .int .i64 d.dk, inV d.dt, .int .i64 d.rk, slosV d.rt, .int .i64 d.ck, inV d.ct, .int .i64 d.wk, worsV d.wt, .int .i64 d.sk, sposV d.st, .int .i64 d.out, .int .i64 d.r0, .int .i64 d.r1, .int .i64 d.r2, .int .i64 d.r3, .int .i64 d.r4, .int .i64 d.r5, .bool d.comp, .bool d.halt] := rfl
@[simp] theorem deV.uni (l : List (De)) : uni 20 (l.map deV) = true := uni_map fun _ => rfl
@[simp] theorem deV.flat (l : List (De)) : flat (l.map deV) = l.flatMap fun d => [runsV d.mem, .int .i64 d.dk, inV d.dt, .int .i64 d.rk, slosV d.rt, .int .i64 d.ck, inV d.ct, .int .i64 d.wk, worsV d.wt, .int .i64 d.sk, sposV d.st, .int .i64 d.out, .int .i64 d.r0, .int .i64 d.r1, .int .i64 d.r2, .int .i64 d.r3, .int .i64 d.r4, .int .i64 d.r5, .bool d.comp, .bool d.halt] := by rw [flat_map]; rfl
end Fz.D
set_option maxRecDepth 100000
namespace Fz.D
open Go
def i64 (a : Int) : Prop := -9223372036854775808 ≤ a ∧ a ≤ 9223372036854775807
def nmB (s : ByteArray) : List Int := s.data.toList.map fun b => (b.toNat : Int)
def inQ (a b : Int) : Bool := decide (a = b)
def sloQ (a b : Slo) : Bool := decide (a.v = b.v) && (a.call == b.call)
def worQ (a b : Wor) : Bool := decide (a.name = b.name) && (decide (a.code = b.code) && ((a.now == b.now) && (a.hid == b.hid)))
def spoQ (a b : Spo) : Bool := decide (a.addr = b.addr) && decide (a.at_ = b.at_)
structure StLen (s : St) : Prop where
  mem : s.mem.length ≤ 100000
  data : s.data.length ≤ 100000
  ret : s.ret.length ≤ 100000
  ctl : s.ctl.length ≤ 100000
  words : s.words.length ≤ 100000
  spots : s.spots.length ≤ 100000
  out : s.out.length ≤ 100000000
def by8 (b : List Int) : Prop := ∀ x ∈ b, 0 ≤ x ∧ x < 256
def bstr (b : List Int) : ByteArray := bytesV (b.map (V.int .u8))
def u8f (x : Int) : UInt8 := x.toNat.toUInt8
def fewB (s : St) : Bool := (s.words.take 41).all (fun w => decide (w.name.size ≤ 60)) && (decide (s.mem.length ≤ 600) && (decide (s.data.length ≤ 40) && (decide (s.ret.length ≤ 40) && (decide (s.ctl.length ≤ 200) && (decide (s.words.length ≤ 40) && (decide (s.spots.length ≤ 100) && decide (s.out.length ≤ 200)))))))
structure StTy (s : St) : Prop where
  mem : by8 s.mem
  data : ∀ n ∈ s.data, i64 n
  ret : ∀ x ∈ s.ret, i64 x.v
  ctl : ∀ n ∈ s.ctl, i64 n
  words : ∀ x ∈ s.words, i64 x.code
  spots : ∀ x ∈ s.spots, i64 x.addr ∧ i64 x.at_
  out : by8 s.out
  regs : ∀ n ∈ [s.ip, s.here, s.at_, s.tok, s.in_, s.err], i64 n
def SloT : Ty := .agg [.int .i64, .bool]
def WorT : Ty := .agg [.str, .int .i64, .bool, .bool]
def SpoT : Ty := .agg [.int .i64, .int .i64]
def RnT : Ty := .agg [.int .i64, .sl (.int .u8)]
def StT : Ty := .agg [.sl (.int .u8), .sl (.int .i64), .sl SloT, .sl (.int .i64), .sl WorT, .sl SpoT, .sl (.int .u8), .int .i64, .int .i64, .int .i64, .int .i64, .int .i64, .int .i64, .bool, .bool]
theorem list_of {α : Type} {T : Ty} {f : α → V} {P : α → Prop} (h : ∀ v, HasT T v → ∃ a, v = f a ∧ P a) {v : V} (hv : HasT (.sl T) v) : ∃ l : List α, v = .list (l.map f) false ∧ ∀ a ∈ l, P a := by
  obtain ⟨vs, rfl, hh⟩ := hv
  have : ∃ l : List α, vs = l.map f ∧ ∀ a ∈ l, P a := by
    induction vs with
    | nil => exact ⟨[], rfl, fun a h => by cases h⟩
    | cons v vs ih =>
      obtain ⟨l, rfl, hl⟩ := ih fun x hx => hh x (List.mem_cons_of_mem _ hx)
      obtain ⟨a, rfl, ha⟩ := h v (hh v (List.mem_cons_self ..))
      refine ⟨a :: l, rfl, fun x hx => ?_⟩
      rcases List.mem_cons.1 hx with rfl | hx
      · exact ha
      · exact hl x hx
  obtain ⟨l, rfl, hl⟩ := this
  exact ⟨l, rfl, hl⟩
end Fz.D
set_option maxRecDepth 100000
namespace Go.Proofs
open Go Go.Shelf Go.RowKit
open Fz (upB upS)
theorem Tryz.blSize : (Tryz.prog.info? 129).map (·.size) = some 2 := by kernel_rfl
theorem Tryz.blLies : liesAt Tryz.prog Tryz.prog.depth 129 (2 / Tryz.prog.cellsOf 129) 0 129 1 = true := by kernel_rfl
theorem Tryz.blByte : (Tryz.prog.info? 5).map (fun i => (i.zero, i.size, i.bytes)) = some (some (.int .u8 0), 1, 1) := by kernel_rfl
set_option maxHeartbeats 1000000 in
theorem Tryz.bl_used (b : Nat) (w : World) (h0 : w.cell? ⟨b, 0, none⟩ = some (.pointer (some ⟨b, 0, none⟩))) :
    Calls Tryz.prog 195 #[.pointer (some ⟨b, 0, none⟩)] w fun e w' => e = .returned (.tuple #[]) ∧ w' = w := by
  obtain ⟨j, hj, _⟩ := Option.map_eq_some_iff.1 Tryz.blSize
  go_enter Tryz.func195, Tryz.ntmps195
  go_wp2
  rw [Lib.run_neq_ptr_same w _ Tryz.underlying127 hj]
  go_wp2
  go_end0
  exact ⟨rfl, rfl⟩
set_option maxHeartbeats 1000000 in
theorem Tryz.bl_fresh (b : Nat) (w : World) (h0 : w.cell? ⟨b, 0, none⟩ = some (.pointer none)) (hsh : w.shape? b = some (129, 2)) (hfz : w.frozen? ⟨b, 0, none⟩ = false) :
    Calls Tryz.prog 195 #[.pointer (some ⟨b, 0, none⟩)] w fun e w' => e = .returned (.tuple #[]) ∧ w' = w.setCell ⟨b, 0, none⟩ (.pointer (some ⟨b, 0, none⟩)) := by
  obtain ⟨j, hj, hjs⟩ := Option.map_eq_some_iff.1 Tryz.blSize
  go_enter Tryz.func195, Tryz.ntmps195
  go_wp2
  rw [Lib.run_to_unsafe w ⟨b, 0, none⟩ Tryz.underlying127 Tryz.underlying210 hj (by rw [hjs]; decide) hsh (Nat.zero_lt_succ 1)]
  simp only [Result.andThen]
  rw [Oper.upon_value]
  go_wp2
  rw [run_callFunc_extern Tryz.func336 (by kernel_rfl) (by kernel_rfl) (by kernel_rfl) (e := Extern.AbiNoEscape.same) (by kernel_rfl)]
  rw [Lib.run_noEscape]
  simp only [Result.andThen]
  rw [Oper.upon_value]
  go_wp2
  rw [Lib.run_from_unsafe w ⟨b, 0, none⟩ Tryz.underlying210 Tryz.underlying127 hj hsh Tryz.blLies]
  simp only [Result.andThen]
  rw [Oper.upon_value]
  go_wp2
  go_end0
  exact ⟨rfl, rfl⟩
theorem Tryz.bl_check (B b : Nat) (bs : List Value) (w : World) (h : Lib.IsBuilder 129 5 B b bs w) :
    Calls Tryz.prog 195 #[.pointer (some ⟨b, 0, none⟩)] w fun e w' => e = .returned (.tuple #[]) ∧ (Lib.BuilderAt 129 5 B b (.pointer (some ⟨b, 0, none⟩)) bs w' ∧ Below B w w') := by
  rcases h with h | h
  · refine (Tryz.bl_fresh b w h.cell0 h.shape h.frozen0).mono ?_
    rintro e w' ⟨rfl, rfl⟩
    exact ⟨rfl, h.used _, (Below.refl B w).setCell (p := ⟨b, 0, none⟩) h.1 _⟩
  · refine (Tryz.bl_used b w h.cell0).mono ?_
    rintro e w' ⟨rfl, rfl⟩
    exact ⟨rfl, h, Below.refl B _⟩
set_option maxHeartbeats 2000000 in
theorem Tryz.bl_write (B b : Nat) (bs : List Value) (c : Int) (w : World) (h : Lib.IsBuilder 129 5 B b bs w) (hlen : bs.length + 1 ≤ 140737488355328) (hBw : B ≤ w.heap.size) :
    Calls Tryz.prog 145 #[.pointer (some ⟨b, 0, none⟩), .int .u8 c] w fun e w' => e = .returned .nilIface ∧ (Lib.BuilderAt 129 5 B b (.pointer (some ⟨b, 0, none⟩)) (bs ++ [.int .u8 c]) w' ∧ Below B w w') := by
  obtain ⟨i0, hi, hz0, hz1, hz2⟩ := info_parts Tryz.blByte
  go_enter Tryz.func145, Tryz.ntmps145
  go_wp2_with (go_at_call 195; refine (Tryz.bl_check B b bs _ h).mono ?_)
  rintro e w1 ⟨rfl, h1, hb1⟩
  obtain ⟨hB, v, hbk, hown, hne⟩ := h1
  have c0 : w1.cell? ⟨b, 0, none⟩ = some (.pointer (some ⟨b, 0, none⟩)) := by rw [Lib.cell_of_heap hbk]; rfl
  have c1 : w1.cell? ⟨b, 1, none⟩ = some v := by rw [Lib.cell_of_heap hbk]; rfl
  go_wp2_with (at_builtin; refine wpList_append_own _ rfl _ _ 38 rfl B 5 i0 (.int .u8 0) 1 1 Tryz.underlying38 hi hz0 hz1 hz2 rfl (by decide) _ _ _ rfl (hown.alloc _) ⟨w1.heap.size, 0, none⟩ 1 1 [.int .u8 c] rfl rfl ?c1 ?c2 ?c3 ?c4 ?c5 ?_)
  case c1 =>
    intro j u hj
    match j, hj with
    | 0, hj => simp at hj; subst hj; simp [Addr.add]
  case c2 => intro u hu; simp at hu; subst hu; rfl
  case c3 => unfold maxLen; omega
  case c4 => omega
  case c5 => have := hb1.size; simp; omega
  intro v' w2 hown' hgrow _
  have hlt : b < w1.heap.size := by
    rcases Nat.lt_or_ge b w1.heap.size with h' | h'
    · exact h'
    · simp [Array.getElem?_eq_none h'] at hbk
  have hb2 : w2.heap[b]? = some (.cells #[.pointer (some ⟨b, 0, none⟩), v] 129 (0, 0)) := by
    rw [hgrow.block b (by simp; omega) (fun e => hne e.symm), Lib.alloc_old w1 _ b hlt]
    exact hbk
  have d0 : w2.cell? ⟨b, 0, none⟩ = some (.pointer (some ⟨b, 0, none⟩)) := by rw [Lib.cell_of_heap hb2]; rfl
  have d1 : w2.cell? ⟨b, 1, none⟩ = some v := by rw [Lib.cell_of_heap hb2]; rfl
  have f1 : w2.frozen? ⟨b, 1, none⟩ = false := Lib.frozen_of_heap hb2 1
  obtain ⟨g, cap, rfl⟩ : ∃ g cap, v' = .slice (some ⟨g, 0, none⟩) (bs.length + 1) cap := by
    rcases hown'.2 with ⟨_, h0⟩ | ⟨g, cap, cur, hv, _⟩
    · omega
    · exact ⟨g, cap, hv⟩
  go_wp2
  go_ret
  refine ⟨rfl, ?_, ?_⟩
  · exact Lib.BuilderAt.put (T := 129) (e := 5) hB hb2 (bs' := bs ++ [.int .u8 c]) (by simpa using hown') (by decide)
  · exact ((hb1.alloc (by have := hb1.size; omega) _).grown hgrow (by have := hb1.size; simp; omega) (fun k hk => (hown.lt k hk).1)).setCell (p := ⟨b, 1, none⟩) hB _
def Tryz.blRen : Go.Shelf.Ren := ⟨fun | 169 => 146 | n => n, fun | 70 => 127 | 9 => 9 | 0 => 0 | 72 => 129 | 37 => 38 | 127 => 173 | 3 => 3 | 5 => 5 | n => n, fun | n => n⟩
theorem Tryz.blLays : Go.Proofs.Lays.n169 Tryz.prog Tryz.blRen := {
  mixed := by kernel_rfl
  f169 := Tryz.func146.trans (congrArg some (by kernel_rfl))
  t0 := Tryz.underlying0
  a0 := Tryz.isAgg0
  z0 := Tryz.sizeOf0
  v0 := Tryz.zeroValue0
  t3 := Tryz.underlying3
  a3 := Tryz.isAgg3
  z3 := Tryz.sizeOf3
  v3 := Tryz.zeroValue3
  t9 := Tryz.underlying9
  a9 := Tryz.isAgg9
  z9 := Tryz.sizeOf9
  v9 := Tryz.zeroValue9
  t37 := Tryz.underlying38
  a37 := Tryz.isAgg38
  z37 := Tryz.sizeOf38
  v37 := Tryz.zeroValue38
  t70 := Tryz.underlying127
  a70 := Tryz.isAgg127
  z70 := Tryz.sizeOf127
  v70 := Tryz.zeroValue127
  t72 := Tryz.underlying129
  a72 := Tryz.isAgg129
  z72 := Tryz.sizeOf129
  v72 := Tryz.zeroValue129
  t127 := Tryz.underlying173
  a127 := Tryz.isAgg173
  z127 := Tryz.sizeOf173
  v127 := Tryz.zeroValue173 }
theorem Tryz.blExtra : Builder.Extra Tryz.prog Tryz.blRen := {
  sizeBuilder := by kernel_rfl
  liesBuilder := by kernel_rfl
  t5 := Tryz.underlying5
  a5 := Tryz.isAgg5
  z5 := Tryz.sizeOf5
  v5 := Tryz.zeroValue5
  infoByte := by kernel_rfl
  cellsByte := by kernel_rfl
  sizeByte := by kernel_rfl
  neB5 := by decide }
theorem Tryz.bl_string (B b : Nat) (l : List UInt8) (w : World) (h : Lib.IsBuilder 129 5 B b (Lib.byteCells l) w) (hBw : B ≤ w.heap.size) :
    Calls Tryz.prog 146 #[.pointer (some ⟨b, 0, none⟩)] w fun e w' => e = .returned (.string ⟨l.toArray⟩) ∧ Below B w w' := Any.Builder_String_any Tryz.blLays Tryz.blExtra B b l w h hBw
set_option maxHeartbeats 4000000 in
theorem Tryz.bl_cap (s : ByteArray) (B k : Nat) (hk : k < s.size) (w : World) (hc : w.cell? ⟨B, 0, none⟩ = some (.string s)) :
    Calls Tryz.prog 144 #[.int .i64 k, .pointer (some ⟨B, 0, none⟩)] w fun e w' => e = .returned (.int .u8 (upB s[k]).toNat) ∧ w' = w := by
  go_enter Tryz.func144, Tryz.ntmps144
  go_wp2
  · rename_i h1 h2
    go_ret
    refine ⟨?_, rfl⟩
    show Ending.returned (Value.int .u8 ((s[k].toNat : Int) - 97 + 65)) = _
    unfold upB
    rw [if_pos ⟨by omega, by omega⟩, UInt8.toNat_sub_of_le _ _ (by rw [UInt8.le_iff_toNat_le]; show 32 ≤ _; omega)]
    rw [show ((s[k].toNat - UInt8.toNat 32 : Nat) : Int) = (s[k].toNat : Int) - 97 + 65 from by show ((s[k].toNat - 32 : Nat) : Int) = _; omega]
  · rename_i h1 h2
    go_ret
    refine ⟨?_, rfl⟩
    show Ending.returned (Value.int .u8 (s[k].toNat : Int)) = _
    unfold upB
    rw [if_neg (by omega)]
  · rename_i h1
    go_ret
    refine ⟨?_, rfl⟩
    show Ending.returned (Value.int .u8 (s[k].toNat : Int)) = _
    unfold upB
    rw [if_neg (by omega)]
set_option maxHeartbeats 4000000 in
theorem Tryz.bl_fold (s : ByteArray) (w : World) (hs : s.size ≤ 35184372088832) :
    Calls Tryz.prog 41 #[.string s] w fun e w' => e = .returned (.string (upS s)) ∧ Below w.heap.size w w' := by
  go_enter Tryz.func41, Tryz.ntmps41
  go_wp2
  go_loopw [9] (fun i wr => ∃ k : Nat, k ≤ s.size ∧ i = .int .i64 k ∧ Lib.IsBuilder 129 5 (w.heap.size + 1) (w.heap.size + 1) (Lib.byteCells ((s.data.toList.take k).map upB)) wr ∧ wr.heap[w.heap.size]? = some (.cells #[.string s] 9 (0, 0)) ∧ Below w.heap.size w wr ∧ w.heap.size + 1 < wr.heap.size) (fun i _ => s.size - (intOf i).toNat)
  case atStart =>
    have e0 : (w.alloc (Obj.cells #[Value.string s] 9)).heap.size = w.heap.size + 1 := by simp
    have hf := Lib.fresh_isBuilder 129 5 (w.alloc (Obj.cells #[Value.string s] 9))
    rw [e0] at hf
    refine ⟨0, by omega, rfl, hf, ?_, ((Below.refl _ w).alloc (Nat.le_refl _) _).alloc (by simp) _, by simp⟩
    rw [Lib.alloc_old _ _ _ (by simp)]
    exact heap_alloc_new w _
  case round =>
    obtain ⟨k, hk, rfl, hI, hb, hbw, hsz⟩ := hrel
    have c0 : wr.cell? ⟨w.heap.size, 0, none⟩ = some (.string s) := by rw [Lib.cell_of_heap hb]; rfl
    have sz : s.data.toList.length = s.size := by rw [Array.length_toList]; rfl
    have hlen : (Lib.byteCells ((s.data.toList.take k).map upB)).length + 1 ≤ 140737488355328 := by
      rw [Lib.byteCells_length, List.length_map, List.length_take, sz]; omega
    by_cases hp : k < s.size
    · go_wp2_with (first
        | (go_at_call 144; refine (Tryz.bl_cap s w.heap.size k hp _ c0).mono ?_; rintro e w1 ⟨rfl, rfl⟩)
        | (go_at_call 145; refine (Tryz.bl_write (w.heap.size + 1) (w.heap.size + 1) _ _ _ hI hlen (by omega)).mono ?_; rintro e w2 ⟨rfl, h1, b1⟩))
      go_roundw
      case rel =>
        refine ⟨k + 1, by omega, by go_num, ?_, by rw [b1.block _ (by omega)]; exact hb, hbw.trans (b1.mono (by omega)), ?_⟩
        · have e1 : (s.data.toList.take (k + 1)).map upB = (s.data.toList.take k).map upB ++ [upB s[k]] := by
            rw [List.take_add_one, List.map_append]
            have : s.data.toList[k]? = some s[k] := by rw [Array.getElem?_toList]; exact Array.getElem?_eq_getElem hp
            rw [this]; rfl
          rw [e1, Lib.byteCells_append]; exact .inr h1
        · have := b1.size; omega
      case measure =>
        show s.size - ((k : Int) + 1).toNat < s.size - (k : Int).toNat
        omega
    · obtain rfl : k = s.size := by omega
      go_wp2_with (go_at_call 146; refine (Tryz.bl_string (w.heap.size + 1) (w.heap.size + 1) _ _ hI (by omega)).mono ?_; rintro e w1 ⟨rfl, b1⟩)
      go_ret
      refine ⟨?_, hbw.trans (b1.mono (by omega))⟩
      rw [List.take_of_length_le (by first | (rw [List.length_map, sz]; exact Nat.le_refl _) | (rw [sz]; exact Nat.le_refl _))]
      rfl
end Go.Proofs
set_option maxRecDepth 100000
namespace Fz.D
open Go Go.Proofs Go.Proofs.YtagdmfgnnhlakaaGreatDoor Go.ChangeShapes Go.WideShapes Go.ChangeAt Go.RowKit
def nr (af : AFun) : Bool := !hasR af.code && match af.dfr with
  | some (pre, _, _, r) => pre.all (fun c => !hasR c) && !hasR r
  | none => true
theorem rOkF_of {q : AP} {af : AFun} (h : nr af = true) : rOkF q af := by
  unfold nr at h
  rw [Bool.and_eq_true, Bool.not_eq_true'] at h
  refine ⟨rOk_of _ h.1, fun x hx => ?_⟩
  obtain ⟨pre, a, b, r⟩ := x
  rw [hx] at h
  simp only [Bool.and_eq_true, List.all_eq_true, Bool.not_eq_true'] at h
  exact ⟨fun c hc => rOk_of _ (h.2.1 c hc), rOk_of _ h.2.2⟩
theorem tab_nr : tab.all (fun x => nr x.2) = true := by kernel_rfl
theorem rng_ok {q : AP} (f : FuncId) (af : AFun) (h : lk tab f = some af) : rOkF q af := rOkF_of (List.all_eq_true.1 tab_nr _ (lk_mem _ _ _ h))
theorem lift_ok {P : Program} {f : FuncId} {g : List V → Option V} (hg : ∀ args v, g args = some v → ∀ (K : Kn) (β : Bi) (H : List Ob) (w : World) (cargs : Array Value), Inv K β H w → LR K β args cargs.toList → DoesOk P f cargs w (CallPost K β H w (.ret v) H))
    (args : List V) (H : List Ob) (v : V) (H' : List Ob) (h : liftP g args H = some (v, H')) (K : Kn) (β : Bi) (w : World) (cargs : Array Value) (hI : Inv K β H w) (ha : LR K β args cargs.toList) : DoesOk P f cargs w (CallPost K β H w (.ret v) H') := by
  obtain ⟨u, hu, h⟩ := Option.map_eq_some_iff.1 h
  cases h
  exact hg _ _ hu K β H w cargs hI ha
theorem fold_ok (args : List V) (v : V) (h : foldP args = some v) (K : Kn) (β : Bi) (H : List Ob) (w : World) (cargs : Array Value) (hI : Inv K β H w) (ha : LR K β args cargs.toList) : DoesOk Tryz.prog 41 cargs w (CallPost K β H w (.ret v) H) := by
  unfold foldP at h
  split at h
  · rename_i s
    split at h
    · rename_i hs
      cases h
      obtain ⟨cs⟩ := cargs
      obtain ⟨c, r, e, h1, h2⟩ := ha.head
      obtain rfl : r = [] := List.eq_nil_of_length_eq_zero h2.1.symm
      have e : cs = [c] := e
      subst e
      cases h1
      exact walked_ok Tryz.func41 (by kernel_rfl) rfl (by decide) hI (Tryz.bl_fold s w hs) (.str _)
    · cases h
  · cases h
theorem prim0_ok (f : FuncId) (g : List V → List Ob → Option (V × List Ob)) (h : prim0 f = some g) (args : List V) (H : List Ob) (v : V) (H' : List Ob) (hv : g args H = some (v, H')) (K : Kn) (β : Bi) (w : World) (cargs : Array Value) (hI : Inv K β H w) (ha : LR K β args cargs.toList) :
    DoesOk Tryz.prog f cargs w (CallPost K β H w (.ret v) H') := by
  unfold prim0 at h
  split at h
  · rename_i e; subst e; cases h; exact lift_ok fold_ok _ _ _ _ hv K β w cargs hI ha
  split at h
  · rename_i e; subst e; cases h; exact lift_ok (fun a v h K β H w c => idx_ok Tryz.func378 (by kernel_rfl) (by kernel_rfl) (by kernel_rfl) (fun a => by kernel_rfl) (by decide) a v h K β H w c) _ _ _ _ hv K β w cargs hI ha
  split at h
  · rename_i e; subst e; cases h; exact lift_ok (fun a v h K β H w c hI ha => prim_ok Tryz.func321 (by kernel_rfl) (by kernel_rfl) (by kernel_rfl) (fun a => by kernel_rfl) a v h K β H w c hI ha) _ _ _ _ hv K β w cargs hI ha
  split at h
  · rename_i e; subst e; cases h; exact lift_ok (fun a v h K β H w c hI ha => prim_ok Tryz.func184 (by kernel_rfl) (by kernel_rfl) (by kernel_rfl) (fun a => by kernel_rfl) a v h K β H w c hI ha) _ _ _ _ hv K β w cargs hI ha
  split at h
  · rename_i e; subst e; cases h; exact lift_ok (fun a v h K β H w c hI ha => prim_ok Tryz.func322 (by kernel_rfl) (by kernel_rfl) (by kernel_rfl) (fun a => by kernel_rfl) a v h K β H w c hI ha) _ _ _ _ hv K β w cargs hI ha
  split at h
  · rename_i e; subst e; cases h; exact lift_ok (fun a v h K β H w c hI ha => prim_ok Tryz.func323 (by kernel_rfl) (by kernel_rfl) (by kernel_rfl) (fun a => by kernel_rfl) a v h K β H w c hI ha) _ _ _ _ hv K β w cargs hI ha
  split at h
  · rename_i e; subst e; cases h; exact lift_ok (fun a v h K β H w c hI ha => prim_ok Tryz.func328 (by kernel_rfl) (by kernel_rfl) (by kernel_rfl) (fun a => by kernel_rfl) a v h K β H w c hI ha) _ _ _ _ hv K β w cargs hI ha
  cases h
theorem apOk0 : APOk Tryz.prog p0 where
  mixed := by kernel_rfl
  fn f af h := fn_ok f af h
  prim f g h args H v H' hv K β w cargs _ hI ha := prim0_ok f g h args H v H' hv K β w cargs hI ha
  rng f af h := rng_ok f af h
  bods := bods_ok
theorem laid_ok {l : List (List UInt8)} {f : FuncId} {n : Nat} (hn : l.length = n) (h : WFun p0 f [] [] fun r H => r = .ret (.own 0 0 n 1) ∧ H = [.live (l.map wV)]) (args : List V) (H : List Ob) (v : V) (H' : List Ob) (hv : laidP l args H = some (v, H')) : H = [] ∧ ∃ k, acall p0 k f args [] = some (.ret v, H') := by
  unfold laidP at hv
  split at hv
  · cases hv
    obtain ⟨k, r, G, h1, rfl, rfl⟩ := h
    exact ⟨rfl, k, by rw [h1, hn]⟩
  · cases hv
theorem apOk1 : APOk Tryz.prog p1 where
  mixed := by kernel_rfl
  fn f af h := fn_ok f af h
  prim f g h args H v H' hv K β w cargs hL hI ha := by
    have h : prim1 f = some g := h
    unfold prim1 at h
    split at h
    · rename_i e; subst e; cases h; exact proved_own apOk0 (laid_ok (by kernel_rfl) list_run) args H v H' hv K β w cargs hL hI ha
    exact prim0_ok f g h args H v H' hv K β w cargs hI ha
  rng f af h := rng_ok f af h
  bods := bods_ok
theorem apOk : APOk Tryz.prog p := apOk1
theorem bulkOk : Bulk (fun {_} => Rows.uptoBulk) (fun {_} => Rows.uptoBulkAll) where
  lit b := by simp [Rows.uptoBulk]
  pos d := by
    cases d with
    | lit l => cases l <;> simp [Rows.uptoBulk]
    | _ => simp [Rows.uptoBulk]
  agg l := by simp [Rows.uptoBulk]
  slice l m := by simp [Rows.uptoBulk]
  nil := by simp [Rows.uptoBulkAll]
  cons d l := by simp [Rows.uptoBulkAll]
theorem own : ownKnob Tryz.prog.godebug = none := by kernel_rfl
theorem laidOut : laidOutB Tryz.prog = true := by kernel_rfl
theorem frz_bool {k : Nat} {u u' : V} {b : Bool} {H H' : List Ob} (h : freezeV k u H = some (u', H')) (hn : nrm u' = .bool b) : u = .bool b := by
  cases k with
  | zero => cases h
  | succ k =>
    have hu : ∀ x, nrm x = .bool b → x = .bool b := by
      intro x hx
      cases x <;> first | (rw [nr_bool] at hx; exact hx) | (simp [nrm] at hx)
    have := hu u' hn
    subst this
    cases u with
    | bool c => simp [freezeV] at h; rw [h.1]
    | own a b c d => exfalso; simp only [freezeV] at h; repeat' split at h
                     all_goals first | (cases h; done) | simp at h
    | mref a => exfalso; simp only [freezeV] at h; repeat' split at h
                all_goals first | (cases h; done) | simp at h
    | agg l => simp only [freezeV] at h; obtain ⟨x, _, h⟩ := Option.map_eq_some_iff.1 h; simp at h
    | tuple l => simp only [freezeV] at h; obtain ⟨x, _, h⟩ := Option.map_eq_some_iff.1 h; simp at h
    | _ => simp [freezeV] at h
theorem done {f : FuncId} {args : List V} (h : Comes p f args (.bool true)) (hi : p.inlY f = false) : ∃ n H', acall p n f args [] = some (.ret (.bool true), H') := by
  obtain ⟨_, _, _, n, u, H', h3, h4⟩ := h
  rcases h4 with ⟨h4, rfl⟩ | ⟨_, u', H'', h5, h6⟩
  · rw [hi] at h4; cases h4
  · exact ⟨n, H', by rw [h3, frz_bool h5 h6]⟩
end Fz.D
set_option maxRecDepth 100000
namespace Go.Proofs.YtagdmfgnnhlakaaGreatDoor
open Fz Fz.D Go.ChangeShapes Go.WideShapes Go.ChangeAt Go.RowKit
theorem gTab : Tryz.prog.globalNamed "strings.asciiSpace" = some 0 := by kernel_rfl
theorem gTabType : (Tryz.prog.globals[0]?).map (·.type) = some 170 := by kernel_rfl
theorem cellsTab : Tryz.prog.cellsOf 170 = 256 := by kernel_rfl
theorem cells8 : Tryz.prog.cellsOf 5 = 1 := by kernel_rfl
theorem tab_data : (Rows.laid_strings_asciiSpace : DataW Unit) = Lib.tabData .u8 asciiN := by kernel_rfl
theorem glob_ok {W : World} (hL : laidMet Tryz.prog (("strings.asciiSpace", Lib.tabData .u8 asciiN) :: []) W) : GlobW W := by
  have t : Lib.TabIs Tryz.prog W "strings.asciiSpace" .u8 asciiN := Lib.tabIs_of_head (rest := []) gTab gTabType Tryz.underlying170 Tryz.underlying5 cells8 cellsTab hL
  intro g l hg
  unfold globs at hg
  split at hg
  · rename_i e
    subst e
    cases hg
    have hc : ∀ i, i < 256 → W.cell? ⟨0, i, none⟩ = some (.int .u8 (asciiN.getD i 0)) := fun i hi => t.cell gTab i (by rw [show asciiN.length = 256 from by kernel_rfl]; exact hi)
    obtain ⟨_, cs, e, fr, h1, h2⟩ := cell_block (hc 255 (by omega))
    have h1 : W.heap[0]? = some (.cells cs e fr) := h1
    have hsz : 255 < cs.size := (Array.getElem?_eq_some_iff.1 (show cs[255]? = _ from h2)).1
    refine ⟨cs, e, fr, h1, by rw [List.length_map, show asciiN.length = 256 from by kernel_rfl]; omega, fun i v hv => ?_⟩
    rw [List.getElem?_map, Option.map_eq_some_iff] at hv
    obtain ⟨n, hn, rfl⟩ := hv
    refine ⟨.u8, n, rfl, ?_⟩
    have hi : i < 256 := by rw [← show asciiN.length = 256 from by kernel_rfl]; exact (List.getElem?_eq_some_iff.1 hn).1
    obtain ⟨_, cs', e', fr', h3, h4⟩ := cell_block (hc i hi)
    have h3 : W.heap[0]? = some (.cells cs' e' fr') := h3
    rw [h1] at h3
    cases h3
    have h4 : cs[i]? = some (.int .u8 (asciiN.getD i 0)) := h4
    rw [Array.getD_eq_getD_getElem?, h4, List.getD_eq_getElem?_getD, hn]
    rfl
  · cases hg
def seatLaid : List (String × DataW Unit) := [("unicode.White_Space", Rows.laid_unicode_White_Space), ("strings.asciiSpace", Rows.laid_strings_asciiSpace)]
theorem glob_seat {W : World} (hL : laidMetH Tryz.prog seatLaid W) : GlobW W := by
  rw [MakeChecks.laidMetH_plain _ _ _ (by kernel_rfl)] at hL
  have h := hL.filter fun x => x.1 == "strings.asciiSpace"
  refine glob_ok ?_
  rw [← tab_data]
  exact h
theorem door_met (os : Os) (args : Array Value) : laidMetH Tryz.prog seatLaid ((World.doorLaid Tryz.prog 400 os).forCall (fun _ _ => 0) ⟨#[], args, []⟩).memory :=
  laidMetH_of_parts3 (fuel := 8) (laidMet_of_run' 8 (by kernel_rfl) (by kernel_rfl)) (by kernel_rfl) (by kernel_rfl)
end Go.Proofs.YtagdmfgnnhlakaaGreatDoor
set_option maxRecDepth 100000
namespace Fz.D
open Go
def nameF (op : Int) : ByteArray := if 1 ≤ op ∧ op ≤ 137 then ⟨(opsL[op.toNat - 1]?.getD []).toArray⟩ else ⟨#[]⟩
end Fz.D
set_option maxRecDepth 100000
namespace Fz.D
open Go
def madeF (f : FuncId) (args : List V) : Option V := (acall p 1000 f args []).bind fun x => match x.1 with
  | .ret u => (freezeV depthF u x.2).map fun y => nrm y.1
  | .panic _ => none
theorem Comes_made {f : FuncId} {args : List V} {v : V} (h : madeF f args = some v) (ha : args.all gr = true) (hv : gr v = true) (hn : args.all nm = true) (hi : p.inlY f = false) : Comes p f args v := by
  unfold madeF at h
  obtain ⟨⟨r, H⟩, h1, h2⟩ := Option.bind_eq_some_iff.1 h
  cases r with
  | ret u =>
    obtain ⟨⟨u', H'⟩, h3, h4⟩ := Option.map_eq_some_iff.1 h2
    exact ⟨ha, hv, by rw [hn, Bool.or_true], 1000, u, H, h1, .inr ⟨hi, u', H', h3, h4⟩⟩
  | panic u => cases h2
theorem own7 : Comes p 46 [.int .i64 7] (.fn (.func 260) [] []) := Comes_made (by kernel_rfl) rfl (by kernel_rfl) rfl rfl
end Fz.D
set_option maxRecDepth 100000
namespace Fz.D
open Go
def thrown (e : Int) : V := .iface 67 (.int .i64 e)
theorem aPop_s {l : List Int} (hl : l.length ≤ 100000) : Comes p 167 [inV l, .int .i64 1] (if l = [] then .tuple [inV [], inV [], .int .i64 (-4)] else .tuple [inV (l.take (l.length - 1)), inV (l.drop (l.length - 1)), .int .i64 0]) := by
  refine Comes_of w167 rfl rfl k167 ?_ ?_ ?_ ?_
  · simp
  · simp
  · split <;> simp
  · by_cases h : l = []
    · subst h
      have w1 : IntKind.i64.wrap (0 - 1) = -1 := by decide
      have w2 : IntKind.i64.wrap (-1) = -1 := by decide
      simp -dsimp [w167, wFix_by, isInl, inV, w1, w2]
    · have hp : 0 < l.length := List.length_pos_iff.2 h
      have w1 : IntKind.i64.wrap ((l.length : Int) - 1) = ((l.length - 1 : Nat) : Int) := by rw [Fz.w64 (by omega) (by omega)]; omega
      rw [if_neg h]
      simp -dsimp [w167, wFix_by, isInl, inV, w1]
      have e1 : List.take (l.length - 1) (l.map (V.int .i64)) = (l.take (l.length - 1)).map (V.int .i64) := List.map_take.symm
      have e2 : List.take (l.length - (l.length - 1)) (List.drop (l.length - 1) (l.map (V.int .i64))) = (l.drop (l.length - 1)).map (V.int .i64) := by
        rw [← List.map_drop, ← List.map_take, List.take_of_length_le (by simp)]
      have e3 : List.drop (l.length - 1) (l.map (V.int .i64)) = (l.drop (l.length - 1)).map (V.int .i64) := List.map_drop.symm
      rw [e1, e2, e3]
      generalize List.take (l.length - 1) l = A
      generalize List.drop (l.length - 1) l = B
      simp -dsimp []
theorem doesQ_of {p : AP} {f : FuncId} {l gs : List V} {v : V} {l' : List V} (hi : p.inlY f = true) (h1 : groundL l = true) (h2 : groundL gs = true) (h3 : ground v = true) (h4 : groundL l' = true)
    (h : WFun p f (.ptr 0 0 :: gs) [.live l] fun r H => r = .ret v ∧ ∃ Hx, H = .live l' :: Hx) : Does p f l gs v l' := by
  obtain ⟨n, r, H, e, rfl, Hx, rfl⟩ := h
  exact ⟨hi, h1, h2, h3, h4, n, Hx, e⟩
theorem doesQ_go {p : AP} {f : FuncId} {l gs : List V} {v : V} {l' : List V} {H : List Ob} {i : Nat} {Q : CR → List Ob → Prop} (h : Does p f l gs v l') (hi : H[i]? = some (.live l)) (hq : Q (.ret v) (H.set i (.live l'))) : xCall p f (.ptr i 0 :: gs) H Q := by
  show WCall p f (.ptr i 0 :: gs) H Q
  rw [WCall_does h hi]; exact hq
theorem reachQ {H : List Ob} {i : Nat} {l : List V} (hi : H[i]? = some (.live l)) (hl : refsL l = []) : reach H 1000 [i] [] = some [i] := by
  refine (reach_go (k := 999) rfl hi).trans ?_
  rw [show refsOb (.live l) = [] from hl]
  exact reach_end (k := 998)
theorem setQ {α : Type} {H : List α} {i : Nat} {x : α} (h : H[i]? = some x) : H.set i x = H := by
  apply List.ext_getElem?
  intro j
  rw [List.getElem?_set]
  split
  · rename_i e; subst e; rw [h]; simp [(List.getElem?_eq_some_iff.1 h).1]
  · rfl
def PV (b : Nat) (J : List Ob) (v : V) (l : List Int) : Prop := (∃ c, v = .list (l.map (V.int .i64)) c) ∨ ∃ j, v = .own (b + j) 0 l.length 1 ∧ J[j]? = some (.live (l.map (V.int .i64)))
end Fz.D
set_option maxRecDepth 100000
namespace Fz.D
open Go
def leN : List Int → Nat
  | [] => 0
  | c :: r => c.toNat + 256 * leN r
def cellE (m : List Int) (i : Int) : Int := if i < 0 ∨ (m.length : Int) - 8 < i then -9 else if i % 8 = 0 then 0 else -23
def cellN (m : List Int) (i : Int) : Int := if cellE m i = 0 then IntKind.i64.wrap (leN ((m.drop i.toNat).take 8) : Nat) else 0
def spanE (m : List Int) (i n : Int) : Int := if i < 0 ∨ n < 0 ∨ (m.length : Int) < n ∨ (m.length : Int) - n < i then -9 else 0
def spanB (m : List Int) (i n : Int) : List Int := if spanE m i n = 0 then (m.drop i.toNat).take n.toNat else []
end Fz.D
set_option maxRecDepth 100000
namespace Fz.D
open Go
structure Stp where
  source : ByteArray
  input : List Int
  size : Int
  depth : Int
  room : Int
def stpV (x : Stp) : V := .agg [.str x.source, byV x.input, .int .i64 x.size, .int .i64 x.depth, .int .i64 x.room]
@[simp] theorem stpV.gd (x : Stp) : ground (stpV x) = true := by simp [stpV]
@[simp] theorem stpV.gk (x : Stp) (k : Nat) : gk (k + 2) (stpV x) = true := by simp [stpV]
@[simp] theorem stpV.nr (x : Stp) : nrm (stpV x) = stpV x := by simp [stpV]
@[simp] theorem stpV.nm (x : Stp) : nm (stpV x) = true := by simp [stpV]
@[simp] theorem stpV.any (x : Stp) : isAny (stpV x) = false := rfl
@[simp] theorem stpV.cells (x : Stp) : cellsOf (stpV x) = [.str x.source, byV x.input, .int .i64 x.size, .int .i64 x.depth, .int .i64 x.room] := rfl
structure StpTy (x : Stp) : Prop where
  input : by8 x.input
  size : i64 x.size
  depth : i64 x.depth
  room : i64 x.room
def winB (a b c : Int) : Bool := decide (b ≤ a) && decide (a ≤ c)
def mayB (x : Stp) : Bool := winB x.size 512 65536 && (decide (Int.tmod x.size 8 = 0) && (winB x.depth 4 256 && (winB x.room 0 65536 && (decide ((x.source.size : Int) ≤ 4096) && decide ((x.input.length : Int) ≤ 4096)))))
def mayE (x : Stp) : Int := if mayB x then 0 else 1
end Fz.D
set_option maxRecDepth 100000
namespace Fz.D
open Go
def wkC (s : St) (x : Stp) (w e : Int) (dv rv : V) : List V := [byV s.mem, dv, rv, inV s.ctl, worsV s.words, sposV s.spots, byV s.out, .int .i64 s.ip, .int .i64 s.here, .int .i64 s.at_, .int .i64 s.tok, .int .i64 s.in_, .int .i64 s.err, .bool s.comp, .bool s.halt,
  .str x.source, byV x.input, .int .i64 x.size, .int .i64 x.depth, .int .i64 x.room, .int .i64 w, .int .i64 e]
theorem wkC_g {s : St} {x : Stp} {w e : Int} {dv rv : V} (h1 : ground dv = true) (h2 : ground rv = true) : groundL (wkC s x w e dv rv) = true := by simp [wkC, h1, h2]
theorem ok_D {s : St} {x : Stp} {w e : Int} {dv rv : V} (h1 : ground dv = true) (h2 : ground rv = true) : Does p 48 (wkC s x w e dv rv) [] (.bool (decide (e = 0))) (wkC s x w e dv rv) := by
  refine doesQ_of (by kernel_rfl) (wkC_g h1 h2) rfl rfl (wkC_g h1 h2) ?_
  refine WFun_of w48 rfl rfl k48 ?_
  simp -dsimp [w48, wkC]
theorem must_t {s : St} {x : Stp} {w e : Int} {dv rv : V} (h1 : ground dv = true) (h2 : ground rv = true) : Does p 157 (wkC s x w 0 dv rv) [.bool true, .int .i64 e] (.tuple []) (wkC s x w 0 dv rv) := by
  have o := ok_D (s := s) (x := x) (w := w) (e := 0) h1 h2
  refine doesQ_of (by kernel_rfl) (wkC_g h1 h2) rfl rfl (wkC_g h1 h2) ?_
  refine WFun_of w157 rfl rfl k157 ?_
  simp -dsimp [w157]
  refine doesQ_go o rfl ?_
  simp -dsimp []
theorem take_D {s : St} {x : Stp} {w : Int} {rv : V} {D : List Int} {n : Int} (hD : D.length ≤ 10000) (h2 : ground rv = true) : Does p 255 (wkC s x w 0 (inV (D ++ [n])) rv) [] (.int .i64 n) (wkC s x w 0 (inV D) rv) := by
  have o := ok_D (s := s) (x := x) (w := w) (e := 0) (inV.gd (D ++ [n])) h2
  have m := must_t (s := s) (x := x) (w := w) (e := 0) (inV.gd (D ++ [n])) h2
  have c := aPop_s (l := D ++ [n]) (by simp; omega)
  rw [if_neg (by simp)] at c
  simp only [List.length_append, List.length_singleton, Nat.add_sub_cancel, List.take_left, List.drop_left] at c
  refine doesQ_of (by kernel_rfl) (wkC_g (inV.gd _) h2) rfl rfl (wkC_g (inV.gd _) h2) ?_
  refine WFun_of w255 rfl rfl k255 ?_
  have hw : wkC s x w 0 (inV (D ++ [n])) rv = wkC s x w 0 (inV (D ++ [n])) rv := rfl
  conv at hw => rhs; unfold wkC
  rw [hw]
  simp -dsimp [w255, call_by c]
  rw [← hw]
  refine doesQ_go m rfl ?_
  simp -dsimp []
  refine doesQ_go o rfl ?_
  rw [hw]
  simp -dsimp [wkC, inV]
end Fz.D
set_option maxRecDepth 100000
namespace Fz.D
open Go
theorem wk_cells (s : St) (x : Stp) (w e : Int) (dv rv : V) : wkC s x w e dv rv = [byV s.mem, dv, rv, inV s.ctl, worsV s.words, sposV s.spots, byV s.out, .int .i64 s.ip, .int .i64 s.here, .int .i64 s.at_, .int .i64 s.tok, .int .i64 s.in_, .int .i64 s.err, .bool s.comp, .bool s.halt,
  .str x.source, byV x.input, .int .i64 x.size, .int .i64 x.depth, .int .i64 x.room, .int .i64 w, .int .i64 e] := rfl
theorem backs3_s {H : List Ob} {i : Nat} {s : St} {x : Stp} {w : Int} {dv : V} {R : List Slo} {a b c : Slo} (hi : H[i]? = some (.live (wkC s x w 0 dv (slosV (R ++ [a, b, c]))))) (h1 : ground dv = true) (hR : R.length ≤ 10000)
    {Q : CR → List Ob → Prop} (hq : ∀ J, J[0]? = some (.live [.int .i64 a.v, .int .i64 b.v, .int .i64 c.v]) → Q (.ret (.own H.length 0 3 1)) (H.set i (.live (wkC s x w 0 dv (.list (R.map sloV) true))) ++ J)) : xCall p 258 [.ptr i 0, .int .i64 3] H Q := by
  have m := must_t (s := s) (x := x) (w := w) (e := -6) h1 (slosV.gd (R ++ [a, b, c]))
  have o := ok_D (s := s) (x := x) (w := w) (e := 0) h1 (slosV.gd (R ++ [a, b, c]))
  have hg := wkC_g (s := s) (x := x) (w := w) (e := 0) h1 (slosV.gd (R ++ [a, b, c]))
  have hre : reach H 1000 (refsL [.ptr i 0, .int .i64 3]) [] = some [i] := reachQ hi (groundL_refs _ hg)
  refine WCall_inl (by kernel_rfl) hre ?_
  have e1 : ([i] : List Nat).idxOf i = 0 := by simp
  have hi' : H[i]?.getD .dead = .live (wkC s x w 0 dv (slosV (R ++ [a, b, c]))) := by rw [hi]; rfl
  have rb : ∀ g, renL g (wkC s x w 0 dv (slosV (R ++ [a, b, c]))) = wkC s x w 0 dv (slosV (R ++ [a, b, c])) := fun g => groundL_ren g _ hg
  simp -dsimp [renL, ren, renOb, e1, hi', rb]
  refine WFun_of w258 rfl rfl k258 ?_
  have w1 : IntKind.i64.wrap (((R.length : Int) + 1 + 1 + 1) - 3) = (R.length : Int) := by rw [Fz.w64 (by omega) (by omega)]; omega
  have w2 : IntKind.i64.wrap (((R.length : Int) + 3) - 3) = (R.length : Int) := by rw [Fz.w64 (by omega) (by omega)]; omega
  have c0 : (0 : Int) ≤ R.length := by omega
  have hw := wk_cells s x w 0 dv (slosV (R ++ [a, b, c]))
  rw [hw]
  have w3 : IntKind.i64.wrap (R.length : Int) = (R.length : Int) := Fz.w64 (by omega) (by omega)
  simp -dsimp [w258, w1, w2, w3, c0]
  rw [← hw]
  refine doesQ_go m rfl ?_
  simp -dsimp []
  refine doesQ_go o rfl ?_
  rw [hw]
  simp -dsimp [w1, w2, w3, c0]
  have wa : IntKind.i64.wrap 1 = 1 := Fz.w64 (by omega) (by omega)
  have wb : IntKind.i64.wrap 2 = 2 := Fz.w64 (by omega) (by omega)
  have wc : IntKind.i64.wrap 3 = 3 := Fz.w64 (by omega) (by omega)
  refine xL_one (by kernel_rfl) ?_
  simp -dsimp [wa, wb, wc, roundL]
  refine xL_one (by kernel_rfl) ?_
  simp -dsimp [wa, wb, wc, roundL]
  refine xL_one (by kernel_rfl) ?_
  simp -dsimp [wa, wb, wc, roundL]
  refine xL_one (by kernel_rfl) ?_
  simp -dsimp [wa, wb, wc, roundL]
  have hg2 : groundL (wkC s x w 0 dv (.list (R.map sloV) true)) = true := wkC_g h1 (by simp)
  have q := hq [.live [.int .i64 a.v, .int .i64 b.v, .int .i64 c.v], .live [.int .i64 a.v, .bool a.call], .live [.int .i64 b.v, .bool b.call], .live [.int .i64 c.v, .bool c.call]] rfl
  have e4 : backH [i] (.ret (.own 1 0 3 1)) (.live (wkC s x w 0 dv (.list (R.map sloV) true)) :: [.live [.int .i64 a.v, .int .i64 b.v, .int .i64 c.v], .live [.int .i64 a.v, .bool a.call], .live [.int .i64 b.v, .bool b.call], .live [.int .i64 c.v, .bool c.call]]) H
      = H.set i (.live (wkC s x w 0 dv (.list (R.map sloV) true))) ++ [.live [.int .i64 a.v, .int .i64 b.v, .int .i64 c.v], .live [.int .i64 a.v, .bool a.call], .live [.int .i64 b.v, .bool b.call], .live [.int .i64 c.v, .bool c.call]] := by
    unfold backH
    rw [if_pos (by simp [crV, refs])]
    simp [setAll, renOb, renL, ren, groundL_ren _ _ hg2]
  show Q (renR (backK [i] H.length) (CR.ret (V.own 1 0 3 1))) (backH [i] (.ret (.own 1 0 3 1)) (.live (wkC s x w 0 dv (.list (R.map sloV) true)) :: [.live [.int .i64 a.v, .int .i64 b.v, .int .i64 c.v], .live [.int .i64 a.v, .bool a.call], .live [.int .i64 b.v, .bool b.call], .live [.int .i64 c.v, .bool c.call]]) H)
  rw [e4]
  have k1 : backK [i] H.length 1 = H.length := by simp [backK]
  simpa [renR, ren, k1] using q
end Fz.D
set_option maxRecDepth 100000
namespace Fz.D
open Go
def AcG (n b : Nat) (J : List Ob) (v : V) (l : List V) : Prop :=
  uni n l = true ∧ n ≠ 0 ∧ ((l = [] ∧ v = .list [] true) ∨ ∃ j cells, v = .own (b + j) 0 l.length n ∧ J[j]? = some (.live cells) ∧ l.length * n ≤ cells.length ∧ cells.take (l.length * n) = flat l ∧ groundL cells = true)
theorem acG_nil {n b : Nat} {J : List Ob} (hn : n ≠ 0) : AcG n b J (.list [] true) [] := ⟨rfl, hn, .inl ⟨rfl, rfl⟩⟩
theorem acG_cases {n b : Nat} {J : List Ob} {v : V} {l : List V} (h : AcG n b J v l) : v = .list [] true ∧ l = [] ∨ ∃ j len, v = .own (b + j) 0 len n ∧ len = l.length := by
  obtain ⟨_, _, h3⟩ := h
  rcases h3 with ⟨h3, h4⟩ | ⟨j, cells, h3, _⟩
  · exact .inl ⟨h4, h3⟩
  · exact .inr ⟨j, _, h3, rfl⟩
theorem acG_back {b m n : Nat} {g : Nat → Nat} {J : List Ob} {id len : Nat} {l : List V} (hg : ∀ j, g (b + j) = m + j) (h : AcG n b J (.own id 0 len n) l) : AcG n m (J.map (renOb g)) (.own (g id) 0 len n) l := by
  obtain ⟨h1, h2, h3⟩ := h
  refine ⟨h1, h2, ?_⟩
  rcases h3 with ⟨_, h3⟩ | ⟨j, cells, h3, h4, h5, h6, h7⟩
  · cases h3
  · cases h3
    exact .inr ⟨j, cells, by rw [hg], by rw [List.getElem?_map, h4]; simp only [Option.map_some, renOb, groundL_ren _ _ h7], h5, h6, h7⟩
theorem gL_app {a b : List V} (ha : groundL a = true) (hb : groundL b = true) : groundL (a ++ b) = true := by
  induction a with
  | nil => exact hb
  | cons x r ih =>
    simp only [groundL, Bool.and_eq_true] at ha
    rw [List.cons_append, groundL, Bool.and_eq_true]
    exact ⟨ha.1, ih ha.2⟩
theorem gL_take {a : List V} (ha : groundL a = true) (k : Nat) : groundL (a.take k) = true := by
  induction a generalizing k with
  | nil => simp
  | cons x r ih =>
    simp only [groundL, Bool.and_eq_true] at ha
    cases k with
    | zero => rfl
    | succ k => simp only [List.take_succ_cons, groundL, Bool.and_eq_true]; exact ⟨ha.1, ih ha.2 k⟩
theorem app_acG (b : Nat) {H : List Ob} {n bytes k : Nat} {v : V} {l m xs : List V} {K : V → List Ob → Prop} (ha : AcG n b (H.drop b) v l) (hb : b ≤ H.length)
    (hxs : xs = flat m) (hk : k = m.length) (hu : uni n m = true) (hs : (flat m).all storable = true) (hc : capOk (l.length + m.length) bytes = true) (hgm : groundL (flat m) = true)
    (hK : ∀ v' J', AcG n b J' v' (l ++ m) → K v' (H.take b ++ J')) : xAppend H n bytes v xs k K := by
  subst hxs hk
  obtain ⟨h1, h2, h3⟩ := ha
  have hum : uni n (l ++ m) = true := by rw [uni_append, h1, hu]; rfl
  by_cases h0 : m.length = 0
  · have hm : m = [] := List.length_eq_zero_iff.1 h0
    subst hm
    have hk := hK v (H.drop b) ⟨by simpa using h1, h2, by simpa using h3⟩
    rw [List.take_append_drop] at hk
    rcases h3 with ⟨rfl, rfl⟩ | ⟨j, cells, rfl, h4, _⟩
    · rw [wAppend_list, if_pos (by rfl)]; exact hk
    · rw [wAppend_own, if_pos (by rfl)]; exact ⟨rfl, hk⟩
  · rcases h3 with ⟨rfl, rfl⟩ | ⟨j, cells, rfl, h4, h5, h6, h7⟩
    · rw [wAppend_list, if_neg h0]
      refine ⟨⟨rfl, rfl, uni_flat hu, by simpa using hc⟩, ?_⟩
      have := hK (.own H.length 0 (0 + m.length) n) (H.drop b ++ [.live (flat m)]) ⟨by simpa using hu, h2, .inr ⟨(H.drop b).length, flat m, ?_, by simp, by rw [List.nil_append, uni_flat hu]; exact Nat.le_refl _, by rw [List.nil_append, ← uni_flat hu, List.take_length], hgm⟩⟩
      · rw [← List.append_assoc, List.take_append_drop] at this
        exact this
      · rw [List.length_drop, show b + (H.length - b) = H.length from by omega, List.nil_append, Nat.zero_add]
    · rw [wAppend_own, if_neg h0]
      refine ⟨rfl, ?_⟩
      rw [List.getElem?_drop] at h4
      refine ⟨cells, h4, ⟨rfl, h5, hs, hc⟩, ?_⟩
      show K _ _
      have hgl : groundL (flat l) = true := by rw [← h6]; exact gL_take h7 _
      rw [h6, ← flat_append]
      have := hK (.own H.length 0 (l.length + m.length) n) ((H.drop b).set j .dead ++ [.live (flat (l ++ m))]) ⟨hum, h2, .inr ⟨(H.drop b).length, flat (l ++ m), ?_, ?_, by rw [uni_flat hum]; exact Nat.le_refl _, by rw [← uni_flat hum, List.take_length], by rw [flat_append]; exact gL_app hgl hgm⟩⟩
      · rw [← List.append_assoc] at this
        have e2 : H.take b ++ (H.drop b).set j .dead = H.set (b + j) .dead := by
          conv => rhs; rw [← List.take_append_drop b H]
          rw [List.set_append_right _ _ (by rw [List.length_take]; omega), List.length_take]
          congr 2
          omega
        rw [e2] at this
        exact this
      · rw [List.length_drop, show b + (H.length - b) = H.length from by omega, List.length_append]
      · rw [List.getElem?_append_right (by simp)]; simp
theorem zeros_gd {z : List V} (h : groundL z = true) : ∀ k, groundL (zeros z k) = true
  | 0 => rfl
  | k + 1 => by
    rw [zeros, groundL_eq, List.all_append, ← groundL_eq, ← groundL_eq, h, zeros_gd h k]; rfl
theorem zeros_len {z : List V} : ∀ k, (zeros z k).length = k * z.length
  | 0 => by simp [zeros]
  | k + 1 => by rw [zeros, List.length_append, zeros_len k, Nat.succ_mul]; omega
def totA {α : Type} (ls : List (List α)) : Nat := (ls.map List.length).sum
theorem totA_take {α : Type} (ls : List (List α)) (i : Nat) : totA (ls.take i) ≤ totA ls := by
  unfold totA
  conv => rhs; rw [← List.take_append_drop i ls]
  rw [List.map_append, List.sum_append]; omega
theorem totA_succ {α : Type} (ls : List (List α)) (i : Nat) (h : i < ls.length) : totA (ls.take (i + 1)) = totA (ls.take i) + ls[i].length := by
  unfold totA
  rw [List.take_succ_eq_append_getElem h, List.map_append, List.sum_append]; simp
def catA {α : Type} (ls : List (List α)) : List α := ls.flatten
@[simp] theorem catA_nil {α : Type} : catA ([] : List (List α)) = [] := rfl
theorem catA_len {α : Type} (ls : List (List α)) : (catA ls).length = totA ls := by
  unfold totA catA; rw [List.length_flatten]
theorem catA_succ {α : Type} (ls : List (List α)) (i : Nat) (h : i < ls.length) : catA (ls.take (i + 1)) = catA (ls.take i) ++ ls[i] := by
  unfold catA
  rw [List.take_succ_eq_append_getElem h, List.flatten_append]; simp
theorem grow_slo {n : Int} {H : List Ob} {Q : CR → List Ob → Prop} (h0 : 0 ≤ n) (h1 : n ≤ 10000000) (hq : ∀ v J, AcG 2 H.length J v [] → Q (.ret v) (H ++ J)) : WCall p 354 [.list [] true, .int .i64 n] H Q := by
  have hr : reach H 1000 (refsL [.list [] true, .int .i64 n]) [] = some [] := rfl
  refine WCall_inl (by kernel_rfl) hr ?_
  refine WFun_of w354 rfl rfl k354 ?_
  have e0 : IntKind.i64.wrap n = n := Fz.w64 (by omega) (by omega)
  have z0 : IntKind.i64.wrap 0 = 0 := Fz.w64 (by omega) (by omega)
  have none : Q (renR (backK [] H.length) (CR.ret (V.list [] true))) (backH [] (CR.ret (V.list [] true)) [] H) := by
    have := hq (.list [] true) [] (acG_nil (by decide))
    simpa [renR, ren, renL, backH, crV, refs, refsL, setAll] using this
  by_cases hn : n = 0
  · subst hn
    simp -dsimp [w354, renL, ren]
    have e1 : IntKind.i64.wrap (-IntKind.i64.wrap 0) = 0 := by rw [z0]; exact z0
    rw [e1, if_neg (by omega)]
    exact none
  · have hp : 0 < n := by omega
    have hz : ¬ n < 0 := by omega
    simp -dsimp [w354, renL, ren, e0, hp, hz]
    have e1 : IntKind.i64.wrap (n - IntKind.i64.wrap 0) = n := by rw [z0, Int.sub_zero]; exact e0
    rw [e1, if_pos hp]
    have hl : (zeros [V.int .i64 0, V.bool false] n.toNat).length = n.toNat * 2 := zeros_len _
    first
    | (refine ⟨⟨h0, by omega, by omega⟩, ?_⟩
       rw [if_neg (by omega)]
       refine ⟨⟨hl, by simp [capOk]; omega⟩, ?_⟩)
    | (rw [if_neg (by omega)]
       refine ⟨⟨h0, by omega, by omega⟩, by simp [capOk]; omega, ?_⟩)
    | (refine ⟨⟨h0, by omega, by omega⟩, ?_⟩
       rw [if_neg (by omega)]
       refine ⟨by simp [capOk]; omega, ?_⟩)
    have := hq (.own H.length 0 0 2) [.live (zeros [V.int .i64 0, V.bool false] n.toNat)] ⟨rfl, by decide, .inr ⟨0, _, rfl, rfl, by simp, by simp [flat], zeros_gd (by simp) _⟩⟩
    have e2 : renOb (backK [] H.length) (.live (zeros [V.int .i64 0, V.bool false] n.toNat)) = .live (zeros [V.int .i64 0, V.bool false] n.toNat) := by
      rw [renOb, groundL_ren _ _ (zeros_gd (by simp) _)]
    try rw [show List.replicate n.toNat (V.int .i64 0) = zeros [V.int .i64 0, V.bool false] n.toNat from by simp]
    simp only [renR, ren, renL, backH, crV, refs, refsL, setAll, List.take_zero, List.flatMap_nil, List.append_nil, List.length_nil, List.any_cons, List.map_nil, List.drop_zero, List.map_cons, e2, List.any_nil]
    simpa [backK] using this
theorem concat_own_sloQ {vs : List V} {ls : List (List Slo)} (hvl : vs.length = ls.length) (hvs : ∀ (i : Nat) (h : i < ls.length), ∃ c, vs[i]? = some (.list (ls[i].map sloV) c)) (ht : totA ls ≤ 10000000) (hl : ls.length ≤ 1000000) {Q : CR → List Ob → Prop} (hq : ∀ v J, AcG 2 1 J v ((catA ls).map sloV) → Q (.ret v) (.live vs :: J)) :
    WFun p 307 [.own 0 0 ls.length 1] [.live vs] Q := by
  refine WFun_of w307 rfl rfl k307 ?_
  simp -dsimp [w307]
  refine xL_by (by kernel_rfl) (fun k e H => ∃ i : Nat, i ≤ ls.length ∧ k = ls.length - i ∧ e 0 = .own 0 0 ls.length 1 ∧ e 9 = .own 0 0 ls.length 1 ∧ e 10 = .int .i64 ls.length ∧ e 11 = .int .i64 i ∧ e 3 = .int .i64 (totA (ls.take i)) ∧ H = [.live vs]) ls.length ?_ ?_
  · exact ⟨0, by simp [totA]⟩
  · rintro k e H ⟨i, hi, hk, h0, h9, h10, h11, h3, rfl⟩
    have t1 := totA_take ls i
    simp -dsimp [h0, h9, h10, h11, h3]
    split
    · rename_i hlt
      have t2 := totA_succ ls i hlt
      have t3 := totA_take ls (i + 1)
      obtain ⟨c, hv⟩ := hvs i hlt
      have d1 : List.take 1 (List.drop i vs) = [.list (ls[i].map sloV) c] := by
        rw [List.drop_eq_getElem_cons (by omega)]
        have : vs[i]'(by omega) = .list (ls[i].map sloV) c := by
          rw [List.getElem?_eq_getElem (by omega)] at hv
          exact Option.some.inj hv
        rw [this]; rfl
      have w1 : IntKind.i64.wrap (((totA (ls.take i) : Nat) : Int) + ((ls[i].length : Nat) : Int)) = ((totA (ls.take (i + 1)) : Nat) : Int) := by rw [Fz.w64 (by omega) (by omega)]; omega
      have w2 : IntKind.i64.wrap ((i : Int) + 1) = ((i + 1 : Nat) : Int) := by rw [Fz.w64 (by omega) (by omega)]; omega
      refine ⟨hlt, by omega, ?_⟩
      rw [d1]
      simp -dsimp [h0, h9, h10, h11, h3, w1, w2]
      refine ⟨ls.length - (i + 1), by omega, i + 1, by omega, rfl, ?_⟩
      simp -dsimp [h0, h9, h10]
    · rename_i hge
      have hii : i = ls.length := by omega
      subst hii
      rw [List.take_length] at h3 ⊢
      refine grow_slo (by omega) (by omega) fun v J hac => ?_
      simp -dsimp [h0, h9, h10, h11, h3]
      refine xL_by (by kernel_rfl) (fun k e H => ∃ (i : Nat) (v : V) (J : List Ob), i ≤ ls.length ∧ k = ls.length - i ∧ e 25 = .own 0 0 ls.length 1 ∧ e 26 = .int .i64 ls.length ∧ e 27 = .int .i64 i ∧ e 6 = v ∧ AcG 2 1 J v ((catA (ls.take i)).map sloV) ∧ H = .live vs :: J) ls.length ?_ ?_
      · exact ⟨0, v, J, by simp [h0]; exact hac⟩
      · rintro k e H ⟨i, v, J, hi, hk, h25, h26, h27, h6, hac, rfl⟩
        simp -dsimp [h25, h26, h27, h6]
        split
        · rename_i hlt
          obtain ⟨c, hv⟩ := hvs i hlt
          have d1 : List.take 1 (List.drop i vs) = [.list (ls[i].map sloV) c] := by
            rw [List.drop_eq_getElem_cons (by omega)]
            have : vs[i]'(by omega) = .list (ls[i].map sloV) c := by
              rw [List.getElem?_eq_getElem (by omega)] at hv
              exact Option.some.inj hv
            rw [this]; rfl
          refine ⟨hlt, by omega, ?_⟩
          rw [d1]
          simp -dsimp [h25, h26, h27, h6]
          have t2 := totA_succ ls i hlt
          have t3 := totA_take ls (i + 1)
          have t4 : (catA (ls.take i)).length = totA (ls.take i) := catA_len _
          have e1 := catA_succ ls i hlt
          refine app_acG 1 (m := ls[i].map sloV) (l := (catA (ls.take i)).map sloV) (by simpa using hac) (by simp) (by simp) (by simp) (by simp) (by simp) (by rw [List.length_map, List.length_map, t4]; simp [capOk]; omega) (by simp) fun v' J' hac' => ?_
          have w2 : IntKind.i64.wrap ((i : Int) + 1) = ((i + 1 : Nat) : Int) := by rw [Fz.w64 (by omega) (by omega)]; omega
          simp -dsimp [h25, h26, h27, w2]
          refine ⟨ls.length - (i + 1), by omega, i + 1, v', J', by omega, rfl, ?_⟩
          simp -dsimp [h25, h26]
          rw [e1, List.map_append]
          exact hac'
        · rename_i hge
          have hii : i = ls.length := by omega
          subst hii
          rw [List.take_length] at hac
          exact hq _ _ hac
theorem concat_call_sloQ {H : List Ob} {id : Nat} {vs : List V} {ls : List (List Slo)} (hgl : groundL vs = true) (hvl : vs.length = ls.length) (hvs : ∀ (i : Nat) (h : i < ls.length), ∃ c, vs[i]? = some (.list (ls[i].map sloV) c)) (hid : H[id]? = some (.live vs)) (ht : totA ls ≤ 10000000) (hl : ls.length ≤ 1000000) {Q : CR → List Ob → Prop}
    (hq : ∀ v J, AcG 2 H.length J v ((catA ls).map sloV) → Q (.ret v) (H ++ J)) : WCall p 307 [.own id 0 ls.length 1] H Q := by
  have hr : reach H 1000 (refsL [.own id 0 ls.length 1]) [] = some [id] := reachQ hid (groundL_refs _ hgl)
  refine WCall_inl (by kernel_rfl) hr ?_
  have e1 : renL (fun i => ([id] : List Nat).idxOf i) [.own id 0 ls.length 1] = [.own 0 0 ls.length 1] := by simp [renL, ren]
  have e2 : (([id] : List Nat).map fun i => renOb (fun i => ([id] : List Nat).idxOf i) (H[i]?.getD .dead)) = [.live vs] := by
    simp only [List.map_cons, List.map_nil, hid, Option.getD_some, renOb, groundL_ren _ _ hgl]
  rw [e1, e2]
  refine concat_own_sloQ hvl hvs ht hl fun v J hac => ⟨by simp, ?_⟩
  have e3 : (refsOb (.live vs)) = [] := groundL_refs _ hgl
  rcases acG_cases hac with ⟨rfl, h0⟩ | ⟨j, len, rfl, _⟩
  · have e4 : backH [id] (.ret (.list [] true)) (.live vs :: J) H = H := by
      unfold backH
      rw [if_neg (by simp [crV, refs, refsL, e3])]
      simp [setAll, renOb, groundL_ren _ _ hgl, setQ hid]
    rw [e4]
    have := hq (.list [] true) [] ⟨by rw [h0]; rfl, by decide, .inl ⟨h0, rfl⟩⟩
    simpa [renR, ren, renL] using this
  · have hg : ∀ j, backK [id] H.length (1 + j) = H.length + j := fun j => by simp [backK] <;> omega
    have e4 : backH [id] (.ret (.own (1 + j) 0 len 2)) (.live vs :: J) H = H ++ J.map (renOb (backK [id] H.length)) := by
      unfold backH
      rw [if_pos (by simp [crV, refs])]
      simp [setAll, renOb, groundL_ren _ _ hgl, setQ hid]
    rw [e4]
    have := hq _ _ (acG_back hg hac)
    simpa [renR, ren] using this
theorem back_s {H : List Ob} {i : Nat} {s : St} {x : Stp} {w : Int} {dv : V} {R m : List Slo} {c c2 : Bool} (hi : H[i]? = some (.live (wkC s x w 0 dv (.list (R.map sloV) c)))) (h1 : ground dv = true) (hR : R.length ≤ 10000) (hm : m.length ≤ 10) (hd : (R.length : Int) + m.length ≤ x.depth)
    {Q : CR → List Ob → Prop} (hq : ∀ v J, AcG 2 H.length J v ((R ++ m).map sloV) → Q (.ret (.tuple [])) (H.set i (.live (wkC s x w 0 dv v)) ++ J)) : xCall p 159 [.ptr i 0, .list (m.map sloV) c2] H Q := by
  have hg0 : ground (.list (R.map sloV) c) = true := by simp
  have mt := must_t (s := s) (x := x) (w := w) (e := -5) h1 hg0
  have o := ok_D (s := s) (x := x) (w := w) (e := 0) h1 hg0
  have hg := wkC_g (s := s) (x := x) (w := w) (e := 0) h1 hg0
  have hgm : ground (.list (m.map sloV) c2) = true := by simp
  have hre : reach H 1000 (refsL [.ptr i 0, .list (m.map sloV) c2]) [] = some [i] := by
    have : refsL [.ptr i 0, .list (m.map sloV) c2] = [i] := by
      rw [refsL, refsL, ground_refs _ hgm]; simp [refs, refsL]
    rw [this]
    exact reachQ hi (groundL_refs _ hg)
  refine WCall_inl (by kernel_rfl) hre ?_
  have e1 : ([i] : List Nat).idxOf i = 0 := by simp
  have hi' : H[i]?.getD .dead = .live (wkC s x w 0 dv (.list (R.map sloV) c)) := by rw [hi]; rfl
  have rb : ∀ g, renL g (wkC s x w 0 dv (.list (R.map sloV) c)) = wkC s x w 0 dv (.list (R.map sloV) c) := fun g => groundL_ren g _ hg
  have rm : ∀ g, renL g (m.map sloV) = m.map sloV := fun g => groundL_ren g _ (by simp)
  simp -dsimp [renL, ren, renOb, e1, hi', rb, rm]
  refine WFun_of w159 rfl rfl k159 ?_
  have w1 : IntKind.i64.wrap ((R.length : Int) + m.length) = (R.length : Int) + m.length := Fz.w64 (by omega) (by omega)
  have hw := wk_cells s x w 0 dv (.list (R.map sloV) c)
  rw [hw]
  simp -dsimp [w159, w1, decide_eq_true hd]
  rw [← hw]
  refine doesQ_go mt rfl ?_
  simp -dsimp []
  refine doesQ_go o rfl ?_
  rw [hw]
  simp -dsimp [fillV, splice, chunk]
  refine concat_call_sloQ (id := 1) (vs := [.list (R.map sloV) c, .list (m.map sloV) c2]) (ls := [R, m]) (by simp) rfl (fun i h => ?_) rfl (by simp [totA]; omega) (by simp) fun v J a => ?_
  · match i, h with
    | 0, _ => exact ⟨c, rfl⟩
    | 1, _ => exact ⟨c2, rfl⟩
  · have hc : cellsOf v = [v] ∧ storable v = true := by
      obtain ⟨_, _, h3⟩ := a
      rcases h3 with ⟨_, rfl⟩ | ⟨j, _, rfl, _⟩ <;> exact ⟨rfl, rfl⟩
    have hcat : catA [R, m] = R ++ m := by simp [catA]
    rw [hcat] at a
    simp -dsimp [hc.1, hc.2]
    have a2 : AcG 2 2 J v ((R ++ m).map sloV) := by simpa using a
    have rc : ∀ g, renL g (R.map sloV) = R.map sloV := fun g => groundL_ren g _ (by simp)
    rcases acG_cases a2 with ⟨rfl, h0⟩ | ⟨j, len, rfl, _⟩
    · have q := hq (.list [] true) [] ⟨by rw [h0]; rfl, by decide, .inl ⟨h0, rfl⟩⟩
      have hg2 : groundL (wkC s x w 0 dv (.list [] true)) = true := wkC_g h1 rfl
      have e4 : backH [i] (.ret (.tuple [])) (.live (wkC s x w 0 dv (.list [] true)) :: .live [.list (R.map sloV) c, .list (m.map sloV) c2] :: J) H = H.set i (.live (wkC s x w 0 dv (.list [] true))) := by
        unfold backH
        rw [if_neg (by simp [crV, refs, refsL, refsOb, groundL_refs _ hg2])]
        simp [setAll, renOb, groundL_ren _ _ hg2]
      show Q (renR (backK [i] H.length) (.ret (.tuple []))) (backH [i] (.ret (.tuple [])) (.live (wkC s x w 0 dv (.list [] true)) :: .live [.list (R.map sloV) c, .list (m.map sloV) c2] :: J) H)
      rw [e4]
      simpa [renR, ren, renL] using q
    · have hg3 : ∀ j, backK [i] H.length (2 + j) = H.length + 1 + j := fun j => by simp [backK]; omega
      have a3 := acG_back hg3 a2
      have a4 : AcG 2 H.length (.live [.list (R.map sloV) c, .list (m.map sloV) c2] :: J.map (renOb (backK [i] H.length))) (.own (backK [i] H.length (2 + j)) 0 len 2) ((R ++ m).map sloV) := by
        obtain ⟨p1, p2, p3⟩ := a3
        refine ⟨p1, p2, ?_⟩
        rcases p3 with ⟨_, p3⟩ | ⟨t, cells, p3, p4, p5, p6, p7⟩
        · cases p3
        · exact .inr ⟨t + 1, cells, by rw [p3]; simp [Nat.add_comm, Nat.add_left_comm], by simpa using p4, p5, p6, p7⟩
      have q := hq _ _ a4
      have e4 : backH [i] (.ret (.tuple [])) (.live (wkC s x w 0 dv (.own (2 + j) 0 len 2)) :: .live [.list (R.map sloV) c, .list (m.map sloV) c2] :: J) H = H.set i (.live (wkC s x w 0 dv (.own (backK [i] H.length (2 + j)) 0 len 2))) ++ (.live [.list (R.map sloV) c, .list (m.map sloV) c2] :: J.map (renOb (backK [i] H.length))) := by
        have r1 : ∀ g, ren g dv = dv := fun g => ground_ren g _ h1
        have r2 : refs dv = [] := ground_refs _ h1
        have rb : ∀ g b, ren g (byV b) = byV b := fun g b => ground_ren g _ (byV.gd b)
        have ri : ∀ g b, ren g (inV b) = inV b := fun g b => ground_ren g _ (inV.gd b)
        have rw' : ∀ g b, ren g (worsV b) = worsV b := fun g b => ground_ren g _ (worsV.gd b)
        have rs : ∀ g b, ren g (sposV b) = sposV b := fun g b => ground_ren g _ (sposV.gd b)
        unfold backH
        rw [if_pos (by simp [crV, refs, refsL, refsOb, wkC]; exact .inr (.inr (.inl (by omega))))]
        simp [setAll, renOb, renL, ren, wkC, r1, rb, ri, rw', rs, rm, rc]
      show Q (renR (backK [i] H.length) (.ret (.tuple []))) (backH [i] (.ret (.tuple [])) (.live (wkC s x w 0 dv (.own (2 + j) 0 len 2)) :: .live [.list (R.map sloV) c, .list (m.map sloV) c2] :: J) H)
      rw [e4]
      simpa [renR, ren, renL] using q
theorem wkO {s : St} {x : Stp} {w e : Int} {dv : V} (h1 : ground dv = true) (k len : Nat) : refsOb (.live (wkC s x w e dv (.own k 0 len 2))) = [k] ∧ ∀ g, renL g (wkC s x w e dv (.own k 0 len 2)) = wkC s x w e dv (.own (g k) 0 len 2) := by
  have r1 : ∀ g, ren g dv = dv := fun g => ground_ren g _ h1
  have r2 : refs dv = [] := ground_refs _ h1
  have rb : ∀ g b, ren g (byV b) = byV b := fun g b => ground_ren g _ (byV.gd b)
  have ri : ∀ g b, ren g (inV b) = inV b := fun g b => ground_ren g _ (inV.gd b)
  have rw' : ∀ g b, ren g (worsV b) = worsV b := fun g b => ground_ren g _ (worsV.gd b)
  have rs : ∀ g b, ren g (sposV b) = sposV b := fun g b => ground_ren g _ (sposV.gd b)
  have qb : ∀ b, refs (byV b) = [] := fun b => ground_refs _ (byV.gd b)
  have qi : ∀ b, refs (inV b) = [] := fun b => ground_refs _ (inV.gd b)
  have qw : ∀ b, refs (worsV b) = [] := fun b => ground_refs _ (worsV.gd b)
  have qs : ∀ b, refs (sposV b) = [] := fun b => ground_refs _ (sposV.gd b)
  refine ⟨by simp [refsOb, refsL, refs, wkC, r2, qb, qi, qw, qs], fun g => by simp [renL, ren, wkC, r1, rb, ri, rw', rs]⟩
theorem reachO {H : List Ob} {i k len : Nat} {s : St} {x : Stp} {w e : Int} {dv : V} {cells : List V} (hi : H[i]? = some (.live (wkC s x w e dv (.own k 0 len 2)))) (hk : H[k]? = some (.live cells)) (h1 : ground dv = true) (hc : groundL cells = true) (hik : i ≠ k) : reach H 1000 [i] [] = some [i, k] := by
  refine (reach_go (k := 999) rfl hi).trans ?_
  rw [(wkO h1 k len).1]
  refine (reach_go (k := 998) (by simp; omega) hk).trans ?_
  rw [show refsOb (.live cells) = [] from groundL_refs _ hc]
  exact reach_end (k := 997)
theorem ok_o {H : List Ob} {i k len : Nat} {s : St} {x : Stp} {w e : Int} {dv : V} {cells : List V} (hi : H[i]? = some (.live (wkC s x w e dv (.own k 0 len 2)))) (hk : H[k]? = some (.live cells)) (h1 : ground dv = true) (hc : groundL cells = true) {Q : CR → List Ob → Prop}
    (hq : Q (.ret (.bool (decide (e = 0)))) H) : xCall p 48 [.ptr i 0] H Q := by
  have hik : i ≠ k := by
    rintro rfl
    rw [hi] at hk
    cases hk
    have := (wkO (s := s) (x := x) (w := w) (e := e) h1 i len).1
    rw [show refsOb (.live (wkC s x w e dv (.own i 0 len 2))) = [] from groundL_refs _ hc] at this
    cases this
  have hre : reach H 1000 (refsL [.ptr i 0]) [] = some [i, k] := by
    rw [show refsL [.ptr i 0] = [i] from by simp [refsL, refs]]; exact reachO hi hk h1 hc hik
  refine WCall_inl (by kernel_rfl) hre ?_
  have e1 : ([i, k] : List Nat).idxOf i = 0 := by simp
  have e2 : ([i, k] : List Nat).idxOf k = 1 := by
    have e0 : (i == k) = false := by rw [beq_eq_false_iff_ne]; exact hik
    simp [List.idxOf_cons, e0]
  have hi' : H[i]?.getD .dead = .live (wkC s x w e dv (.own k 0 len 2)) := by rw [hi]; rfl
  have hk' : H[k]?.getD .dead = .live cells := by rw [hk]; rfl
  simp -dsimp [renL, ren, renOb, e1, e2, hi', hk', (wkO h1 k len).2, groundL_ren _ _ hc]
  refine WFun_of w48 rfl rfl k48 ?_
  simp -dsimp [w48, wkC]
  have e4 : ∀ b, backH [i, k] (.ret (.bool b)) [.live (wkC s x w e dv (.own 1 0 len 2)), .live cells] H = H := fun b => by
    unfold backH
    have k1 : backK [i, k] H.length 1 = k := rfl
    have hs : (H.set i (.live (wkC s x w e dv (.own k 0 len 2)))) = H := setQ hi
    simp [setAll, renOb, (wkO h1 1 len).2, groundL_ren _ _ hc, k1, hs, setQ hk]
  show Q (renR (backK [i, k] H.length) (.ret (.bool (decide (e = 0))))) (backH [i, k] (.ret (.bool (decide (e = 0)))) [.live (wkC s x w e dv (.own 1 0 len 2)), .live cells] H)
  rw [e4]
  simpa [renR, ren] using hq
theorem jump_o {H : List Ob} {i k len : Nat} {s : St} {x : Stp} {w a : Int} {dv : V} {cells : List V} (hi : H[i]? = some (.live (wkC s x w 0 dv (.own k 0 len 2)))) (hk : H[k]? = some (.live cells)) (h1 : ground dv = true) (hc : groundL cells = true) {Q : CR → List Ob → Prop}
    (hq : Q (.ret (.tuple [])) (H.set i (.live (wkC { s with ip := a } x w 0 dv (.own k 0 len 2))))) : xCall p 160 [.ptr i 0, .int .i64 a] H Q := by
  have hik : i ≠ k := by
    rintro rfl
    rw [hi] at hk
    cases hk
    have := (wkO (s := s) (x := x) (w := w) (e := 0) h1 i len).1
    rw [show refsOb (.live (wkC s x w 0 dv (.own i 0 len 2))) = [] from groundL_refs _ hc] at this
    cases this
  have hre : reach H 1000 (refsL [.ptr i 0, .int .i64 a]) [] = some [i, k] := by
    rw [show refsL [.ptr i 0, .int .i64 a] = [i] from by simp [refsL, refs]]; exact reachO hi hk h1 hc hik
  refine WCall_inl (by kernel_rfl) hre ?_
  have e1 : ([i, k] : List Nat).idxOf i = 0 := by simp
  have e2 : ([i, k] : List Nat).idxOf k = 1 := by
    have e0 : (i == k) = false := by rw [beq_eq_false_iff_ne]; exact hik
    simp [List.idxOf_cons, e0]
  have hi' : H[i]?.getD .dead = .live (wkC s x w 0 dv (.own k 0 len 2)) := by rw [hi]; rfl
  have hk' : H[k]?.getD .dead = .live cells := by rw [hk]; rfl
  simp -dsimp [renL, ren, renOb, e1, e2, hi', hk', (wkO h1 k len).2, groundL_ren _ _ hc]
  refine WFun_of w160 rfl rfl k160 ?_
  simp -dsimp [w160]
  refine ok_o (i := 0) (k := 1) (s := s) (x := x) (w := w) (e := 0) (dv := dv) (len := len) (cells := cells) rfl rfl h1 hc ?_
  simp -dsimp [wkC]
  have e4 : backH [i, k] (.ret (.tuple [])) [.live (wkC { s with ip := a } x w 0 dv (.own 1 0 len 2)), .live cells] H = H.set i (.live (wkC { s with ip := a } x w 0 dv (.own k 0 len 2))) := by
    unfold backH
    have k1 : backK [i, k] H.length 1 = k := rfl
    have hs : ∀ o, (H.set i o).set k (.live cells) = H.set i o := fun o => setQ (by rw [List.getElem?_set_ne hik]; exact hk)
    simp [setAll, renOb, (wkO h1 1 len).2, groundL_ren _ _ hc, k1, hs]
  show Q (renR (backK [i, k] H.length) (.ret (.tuple []))) (backH [i, k] (.ret (.tuple [])) [.live (wkC { s with ip := a } x w 0 dv (.own 1 0 len 2)), .live cells] H)
  rw [e4]
  simpa [renR, ren, renL] using hq
end Fz.D
set_option maxRecDepth 100000
namespace Fz.D
open Go
theorem Comes_gk {f : FuncId} {args : List V} {u w : V} (h : (acall p 1000 f args []).map (·.1) = some (.ret u)) (hw : nrm u = w) (ha : args.all gr = true) (hn : args.all nm = true) (hi : p.inlY f = false) (hg : gk depthF u = true) (hv : gr w = true) : Comes p f args w := by
  obtain ⟨⟨r, H⟩, h1, h2⟩ := Option.map_eq_some_iff.1 h
  have h2 : r = .ret u := h2
  subst h2
  exact ⟨ha, hv, by rw [hn, Bool.or_true], 1000, u, H, h1, .inr ⟨hi, u, H, gk_freeze hg H, hw⟩⟩
def zS : V := .agg [.list [] true, .list [] true, .list [] true, .list [] true, .list [] true, .list [] true, .list [] true, .int .i64 0, .int .i64 0, .int .i64 0, .int .i64 0, .int .i64 0, .int .i64 0, .bool false, .bool false]
theorem alu7 (l : List Int) (d : Int) : Comes p 14 [.int .i64 7, inV l, .int .i64 d] (.tuple [inV [], .int .i64 0, .bool false]) :=
  Comes_gk (u := .tuple [.list [] true, .int .i64 0, .bool false]) (by kernel_rfl) (by simp [nrm, nrmL_eq, inV]) (by simp) (by simp) rfl (by rfl) (by simp)
theorem flow7 (s : St) : Comes p 44 [stV s, .int .i64 7] (.tuple [nrm zS, .int .i64 0, .bool false]) :=
  Comes_gk (u := .tuple [zS, .int .i64 0, .bool false]) (by kernel_rfl) (by simp [nrm, nrmL_eq, zS]) (by simp) (by simp) rfl (by rfl) (by rfl)
theorem defs7 (s : St) (x : Stp) : Comes p 45 [stV s, stpV x, .int .i64 7] (.tuple [nrm zS, .int .i64 0, .bool false]) :=
  Comes_gk (u := .tuple [zS, .int .i64 0, .bool false]) (by kernel_rfl) (by simp [nrm, nrmL_eq, zS]) (by simp) (by simp) rfl (by rfl) (by rfl)
end Fz.D
set_option maxRecDepth 100000
namespace Fz.D
open Go
def passQ (d n : Int) : Bool := (decide (0 ≤ n) && (decide (d < 0) && decide (0 ≤ IntKind.i64.wrap (d + n)))) || (decide (n < 0) && (decide (0 ≤ d) && decide (IntKind.i64.wrap (d + n) < 0)))
theorem passes_s (d n : Int) : Comes p 261 [.int .i64 d, .int .i64 n] (.bool (passQ d n)) := by
  refine Comes_of w261 rfl rfl k261 ?_ ?_ ?_ ?_
  · simp
  · simp
  · simp
  · generalize hz : IntKind.i64.wrap (d + n) = z
    by_cases h1 : (0 : Int) ≤ n
    · have h1' : ¬ n < 0 := by omega
      by_cases h2 : d < 0
      · have h2' : ¬ (0 : Int) ≤ d := by omega
        by_cases h3 : (0 : Int) ≤ z <;> simp -dsimp [w261, wFix_by, isInl, h1, h1', h2, h2', h3, hz, passQ]
      · have h2' : (0 : Int) ≤ d := by omega
        simp -dsimp [w261, wFix_by, isInl, h1, h1', h2, h2', hz, passQ]
    · have h1' : n < 0 := by omega
      by_cases h2 : (0 : Int) ≤ d
      · have h2' : ¬ d < 0 := by omega
        by_cases h3 : z < 0 <;> simp -dsimp [w261, wFix_by, isInl, h1, h1', h2, h2', h3, hz, passQ]
      · have h2' : d < 0 := by omega
        simp -dsimp [w261, wFix_by, isInl, h1, h1', h2, h2', hz, passQ]
theorem again_s {H : List Ob} {i q : Nat} {s : St} {x : Stp} {w n a b c : Int} {dv : V} {R : List Slo} {fl : Bool} (hi : H[i]? = some (.live (wkC s x w 0 dv (.list (R.map sloV) fl)))) (hq0 : H[q]? = some (.live [.int .i64 a, .int .i64 b, .int .i64 c])) (h1 : ground dv = true) (hR : R.length ≤ 10000) (hd : (R.length : Int) + 3 ≤ x.depth)
    {Q : CR → List Ob → Prop} (hq : ∀ v J, AcG 2 H.length J v ((R ++ ([⟨a, false⟩, ⟨b, false⟩, ⟨n, false⟩] : List Slo)).map sloV) → Q (.ret (.tuple [])) (H.set i (.live (wkC { s with ip := w } x w 0 dv v)) ++ J)) : xCall p 259 [.ptr i 0, .own q 0 3 1, .int .i64 n] H Q := by
  have hiq : i ≠ q := by
    rintro rfl
    rw [hi] at hq0
    simp [wkC] at hq0
  have hg0 : ground (.list (R.map sloV) fl) = true := by simp
  have hg := wkC_g (s := s) (x := x) (w := w) (e := 0) h1 hg0
  have hre : reach H 1000 (refsL [.ptr i 0, .own q 0 3 1, .int .i64 n]) [] = some [i, q] := by
    rw [show refsL [.ptr i 0, .own q 0 3 1, .int .i64 n] = [i, q] from by simp [refsL, refs]]
    refine (reach_go (k := 999) rfl hi).trans ?_
    rw [show refsOb (.live (wkC s x w 0 dv (.list (R.map sloV) fl))) = [] from groundL_refs _ hg]
    refine (reach_go (k := 998) (by simp; omega) hq0).trans ?_
    exact reach_end (k := 997)
  refine WCall_inl (by kernel_rfl) hre ?_
  have e1 : ([i, q] : List Nat).idxOf i = 0 := by simp
  have e2 : ([i, q] : List Nat).idxOf q = 1 := by
    have e0 : (i == q) = false := by rw [beq_eq_false_iff_ne]; exact hiq
    simp [List.idxOf_cons, e0]
  have hi' : H[i]?.getD .dead = .live (wkC s x w 0 dv (.list (R.map sloV) fl)) := by rw [hi]; rfl
  have hq' : H[q]?.getD .dead = .live [.int .i64 a, .int .i64 b, .int .i64 c] := by rw [hq0]; rfl
  have rb : ∀ g, renL g (wkC s x w 0 dv (.list (R.map sloV) fl)) = wkC s x w 0 dv (.list (R.map sloV) fl) := fun g => groundL_ren g _ hg
  simp -dsimp [renL, ren, renOb, e1, e2, hi', hq', rb]
  refine WFun_of w259 rfl rfl k259 ?_
  have hz3 : zeros [V.int .i64 0, V.bool false] 3 = [.int .i64 0, .bool false, .int .i64 0, .bool false, .int .i64 0, .bool false] := rfl
  simp -dsimp [w259, fillV, splice, chunk, hz3, wOpt, chunks]
  refine back_s (i := 0) (m := ([⟨a, false⟩, ⟨b, false⟩, ⟨n, false⟩] : List Slo)) (c := fl) (c2 := true) rfl h1 hR (by simp) (by simpa using hd) fun v J pv => ?_
  obtain ⟨u1, u2, u3⟩ := pv
  rcases u3 with ⟨u3, _⟩ | ⟨j, cells, hv, u4, u5, u6, u7⟩
  · simp at u3
  have hv2 : v = .own (2 + j) 0 (R.length + 3) 2 := by rw [hv]; simp
  clear hv
  subst hv2
  simp -dsimp []
  refine ⟨by show 21 ≤ 22; omega, ?_⟩
  rw [show List.take 1 (List.drop 20 (wkC s x w 0 dv (.own (2 + j) 0 (R.length + 3) 2))) = [.int .i64 w] from rfl]
  simp -dsimp []
  refine jump_o (i := 0) (k := 2 + j) (s := s) (x := x) (w := w) (dv := dv) (len := R.length + 3) (cells := cells) rfl (by rw [show 2 + j = j + 1 + 1 from by omega]; exact u4) h1 u7 ?_
  simp -dsimp []
  have hg3 : ∀ j, backK [i, q] H.length (2 + j) = H.length + j := fun j => by simp [backK]; omega
  have a2 : AcG 2 2 J (.own (2 + j) 0 (R.length + 3) 2) ((R ++ ([⟨a, false⟩, ⟨b, false⟩, ⟨n, false⟩] : List Slo)).map sloV) := ⟨u1, u2, .inr ⟨j, cells, by simp, u4, u5, u6, u7⟩⟩
  have a3 := acG_back hg3 a2
  have qq := hq _ _ a3
  have e4 : backH [i, q] (.ret (.tuple [])) (.live (wkC { s with ip := w } x w 0 dv (.own (2 + j) 0 (R.length + 3) 2)) :: .live [.int .i64 a, .int .i64 b, .int .i64 c] :: J) H = H.set i (.live (wkC { s with ip := w } x w 0 dv (.own (backK [i, q] H.length (2 + j)) 0 (R.length + 3) 2))) ++ J.map (renOb (backK [i, q] H.length)) := by
    unfold backH
    have hs : ∀ o, (H.set i o).set q (.live [.int .i64 a, .int .i64 b, .int .i64 c]) = H.set i o := fun o => setQ (by rw [List.getElem?_set_ne hiq]; exact hq0)
    rw [if_pos (by simp [crV, (wkO h1 (2 + j) (R.length + 3)).1, refs, refsL])]
    simp [setAll, renOb, (wkO h1 (2 + j) (R.length + 3)).2, renL, ren, hs]
  show Q (renR (backK [i, q] H.length) (.ret (.tuple []))) (backH [i, q] (.ret (.tuple [])) (.live (wkC { s with ip := w } x w 0 dv (.own (2 + j) 0 (R.length + 3) 2)) :: .live [.int .i64 a, .int .i64 b, .int .i64 c] :: J) H)
  rw [e4]
  simpa [renR, ren, renL] using qq
theorem plus_s {H : List Ob} {i : Nat} {s : St} {x : Stp} {w n : Int} {D : List Int} {R : List Slo} {a b c : Slo} (hi : H[i]? = some (.live (wkC s x w 0 (inV (D ++ [n])) (slosV (R ++ [a, b, c]))))) (hD : D.length ≤ 10000) (hR : R.length ≤ 10000) (hd : (R.length : Int) + 3 ≤ x.depth)
    {Q : CR → List Ob → Prop} (hq0 : passQ (IntKind.i64.wrap (c.v - b.v)) n = true → ∀ J, Q (.ret (.tuple [])) (H.set i (.live (wkC s x w 0 (inV D) (.list (R.map sloV) true))) ++ J))
    (hq1 : passQ (IntKind.i64.wrap (c.v - b.v)) n = false → ∀ v T J, AcG 2 (H.length + T.length) J v ((R ++ ([⟨a.v, false⟩, ⟨b.v, false⟩, ⟨IntKind.i64.wrap (c.v + n), false⟩] : List Slo)).map sloV) → Q (.ret (.tuple [])) (H.set i (.live (wkC { s with ip := w } x w 0 (inV D) v)) ++ (T ++ J))) :
    WCall p 260 [.ptr i 0] H Q := by
  have cp := passes_s (IntKind.i64.wrap (c.v - b.v)) n
  have tk := take_D (s := s) (x := x) (w := w) (rv := slosV (R ++ [a, b, c])) (D := D) (n := n) hD (slosV.gd _)
  have hg := wkC_g (s := s) (x := x) (w := w) (e := 0) (inV.gd (D ++ [n])) (slosV.gd (R ++ [a, b, c]))
  have hre : reach H 1000 (refsL [.ptr i 0]) [] = some [i] := reachQ hi (groundL_refs _ hg)
  refine WCall_inl (by kernel_rfl) hre ?_
  have e1 : ([i] : List Nat).idxOf i = 0 := by simp
  have hi' : H[i]?.getD .dead = .live (wkC s x w 0 (inV (D ++ [n])) (slosV (R ++ [a, b, c]))) := by rw [hi]; rfl
  have rb : ∀ g, renL g (wkC s x w 0 (inV (D ++ [n])) (slosV (R ++ [a, b, c]))) = wkC s x w 0 (inV (D ++ [n])) (slosV (R ++ [a, b, c])) := fun g => groundL_ren g _ hg
  simp -dsimp [renL, ren, renOb, e1, hi', rb]
  refine WFun_of w260 rfl rfl k260 ?_
  simp -dsimp [w260]
  refine doesQ_go tk rfl ?_
  simp -dsimp []
  refine backs3_s (i := 0) rfl (inV.gd D) hR fun J pj => ?_
  have w1 : IntKind.i64.wrap 1 = 1 := Fz.w64 (by omega) (by omega)
  have w2 : IntKind.i64.wrap 2 = 2 := Fz.w64 (by omega) (by omega)
  have w0 : IntKind.i64.wrap 0 = 0 := Fz.w64 (by omega) (by omega)
  obtain ⟨J', rfl⟩ : ∃ J', J = .live [.int .i64 a.v, .int .i64 b.v, .int .i64 c.v] :: J' := by
    cases J with
    | nil => cases pj
    | cons o J' => exact ⟨J', by simpa using pj⟩
  simp -dsimp [w0, w1, w2, quiet_by cp]
  have hg2 : groundL (wkC s x w 0 (inV D) (.list (R.map sloV) true)) = true := wkC_g (inV.gd D) (by simp)
  split
  · rename_i hp
    have q := hq0 hp []
    have e4 : backH [i] (.ret (.tuple [])) (.live (wkC s x w 0 (inV D) (.list (R.map sloV) true)) :: .live [.int .i64 a.v, .int .i64 b.v, .int .i64 c.v] :: J') H = H.set i (.live (wkC s x w 0 (inV D) (.list (R.map sloV) true))) := by
      unfold backH
      rw [if_neg (by simp [crV, refs, refsL, refsOb, groundL_refs _ hg2])]
      simp [setAll, renOb, groundL_ren _ _ hg2]
    rw [e4]
    simpa [renR, ren, renL] using q
  · rename_i hp
    refine again_s (i := 0) (q := 1) (s := s) (x := x) (w := w) (dv := inV D) (R := R) (fl := true) (a := a.v) (b := b.v) (c := c.v) rfl rfl (inV.gd D) hR hd fun v J pv => ?_
    obtain ⟨u1, u2, u3⟩ := pv
    rcases u3 with ⟨u3, _⟩ | ⟨j, cells, hv, u4, u5, u6, u7⟩
    · simp at u3
    have hv2 : v = .own (2 + J'.length + j) 0 (R.length + 3) 2 := by rw [hv]; simp; omega
    clear hv
    subst hv2
    simp -dsimp []
    have hg3 : ∀ j, backK [i] H.length (2 + J'.length + j) = H.length + (1 + J'.length) + j := fun j => by simp [backK]; omega
    have a2 : AcG 2 (2 + J'.length) J (.own (2 + J'.length + j) 0 (R.length + 3) 2) ((R ++ ([⟨a.v, false⟩, ⟨b.v, false⟩, ⟨IntKind.i64.wrap (c.v + n), false⟩] : List Slo)).map sloV) := ⟨u1, u2, .inr ⟨j, cells, by simp, u4, u5, u6, u7⟩⟩
    have a3 := acG_back hg3 a2
    have q := hq1 (by simpa using hp) (.own (backK [i] H.length (2 + J'.length + j)) 0 (R.length + 3) 2) (.live [.int .i64 a.v, .int .i64 b.v, .int .i64 c.v] :: J'.map (renOb (backK [i] H.length))) _ (by simpa [Nat.add_comm, Nat.add_left_comm, Nat.add_assoc] using a3)
    have e4 : backH [i] (.ret (.tuple [])) (.live (wkC { s with ip := w } x w 0 (inV D) (.own (2 + J'.length + j) 0 (R.length + 3) 2)) :: .live [.int .i64 a.v, .int .i64 b.v, .int .i64 c.v] :: (J' ++ J)) H = H.set i (.live (wkC { s with ip := w } x w 0 (inV D) (.own (backK [i] H.length (2 + J'.length + j)) 0 (R.length + 3) 2))) ++ ((.live [.int .i64 a.v, .int .i64 b.v, .int .i64 c.v] :: J'.map (renOb (backK [i] H.length))) ++ J.map (renOb (backK [i] H.length))) := by
      unfold backH
      have hr : refsOb (.live (wkC { s with ip := w } x w 0 (inV D) (.own (2 + J'.length + j) 0 (R.length + 3) 2))) = [2 + J'.length + j] := (wkO (inV.gd D) _ _).1
      rw [if_pos (by simp only [List.take_succ_cons, List.take_zero, List.length_cons, List.length_nil, List.flatMap_cons, hr, List.any_append, List.any_cons]; simp; omega)]
      simp [setAll, renOb, (wkO (inV.gd D) _ _).2, renL, ren]
    show Q (renR (backK [i] H.length) (.ret (.tuple []))) (backH [i] (.ret (.tuple [])) (.live (wkC { s with ip := w } x w 0 (inV D) (.own (2 + J'.length + j) 0 (R.length + 3) 2)) :: .live [.int .i64 a.v, .int .i64 b.v, .int .i64 c.v] :: (J' ++ J)) H)
    rw [e4]
    simpa [renR, ren, renL] using q
end Fz.D
set_option maxRecDepth 100000
namespace Fz.D
open Go
def hpE (s : St) (x : Stp) (w : Int) : List Ob := [.live [byV s.mem, inV s.data, slosV s.ret, inV s.ctl, worsV s.words, sposV s.spots, byV s.out, .int .i64 s.ip, .int .i64 s.here, .int .i64 s.at_, .int .i64 s.tok, .int .i64 s.in_, .int .i64 s.err, .bool s.comp, .bool s.halt],
  .live [.str x.source, byV x.input, .int .i64 x.size, .int .i64 x.depth, .int .i64 x.room], .live [.list [] true, .list [] true, .list [] true, .list [] true, .list [] true, .list [] true, .list [] true, .int .i64 0, .int .i64 0, .int .i64 0, .int .i64 0, .int .i64 0, .int .i64 0, .bool false, .bool false],
  .live [.list [] false, .list [] false, .list [] false, .list [] false, .list [] false, .list [] false, .list [] false, .int .i64 0, .int .i64 0, .int .i64 0, .int .i64 0, .int .i64 0, .int .i64 0, .bool false, .bool false],
  .live [.list [] false, .list [] false, .list [] false, .list [] false, .list [] false, .list [] false, .list [] false, .int .i64 0, .int .i64 0, .int .i64 0, .int .i64 0, .int .i64 0, .int .i64 0, .bool false, .bool false],
  .live (wkC s x w 0 (inV s.data) (slosV s.ret))]
theorem acG_shift {n b : Nat} {T J : List Ob} {v : V} {l : List V} (h : AcG n (b + T.length) J v l) : AcG n b (T ++ J) v l := by
  obtain ⟨h1, h2, h3⟩ := h
  refine ⟨h1, h2, ?_⟩
  rcases h3 with h3 | ⟨j, cells, h3, h4, h5⟩
  · exact .inl h3
  · exact .inr ⟨T.length + j, cells, by rw [h3, Nat.add_assoc], by rw [List.getElem?_append_right (by omega)]; simpa using h4, h5⟩
theorem do_x {s s' : St} {x : Stp} {k w : Int} {g : FuncId} (hg : g ≠ 4000000000) (ca : Comes p 14 [.int .i64 k, inV s.data, .int .i64 x.depth] (.tuple [inV [], .int .i64 0, .bool false])) (cf : Comes p 44 [stV s, .int .i64 k] (.tuple [nrm zS, .int .i64 0, .bool false]))
    (cd : Comes p 45 [stV s, stpV x, .int .i64 k] (.tuple [nrm zS, .int .i64 0, .bool false])) (co : Comes p 46 [.int .i64 k] (.fn (.func g) [] []))
    (hw : ∀ Q : CR → List Ob → Prop, (∀ T rv, (AcG 2 6 T rv (s'.ret.map sloV) ∨ ∃ c, rv = .list (s'.ret.map sloV) c) → Q (.ret (.tuple [])) ((hpE s x w).set 5 (.live (wkC s' x w 0 (inV s'.data) rv)) ++ T)) → WCall p g [.ptr 5 0] (hpE s x w) Q) :
    Comes p 25 [stV s, stpV x, .int .i64 k, .int .i64 w] (.tuple [stV s', .int .i64 0]) := by
  refine Comes_of w25 rfl rfl k25 ?_ ?_ ?_ ?_
  · simp
  · simp
  · simp
  · simp only [stV, stpV] at cf cd
    simp -dsimp [w25, wFix_by, isInl, stV, stpV, zS, nrm, nrmL_eq, call_by ca, call_by cf, call_by cd, call_by co]
    refine ⟨hg, ?_⟩
    refine hw _ fun T rv h => ?_
    simp -dsimp [hpE]
    have ok0 : ∀ {H : List Ob} {Q : CR → List Ob → Prop}, H = (hpE s x w).set 5 (.live (wkC s' x w 0 (inV s'.data) rv)) ++ T → Q (.ret (.bool true)) H → xCall p 48 [.ptr 5 0] H Q := by
      rintro H Q rfl hq
      rcases h with h | ⟨c, rfl⟩
      · rcases h with ⟨h1, h2, ⟨h3, rfl⟩ | ⟨j, cells, rfl, h4, h5, h6, h7⟩⟩
        · have o := ok_D (s := s') (x := x) (w := w) (e := 0) (dv := inV s'.data) (rv := .list [] true) (inV.gd _) rfl
          exact doesQ_go o (by simp [hpE]) (by rw [setQ (by simp [hpE])]; simpa using hq)
        · refine ok_o (i := 5) (k := 6 + j) (s := s') (x := x) (w := w) (e := 0) (dv := inV s'.data) (len := (s'.ret.map sloV).length) (cells := cells) (by simp [hpE]) ?_ (inV.gd _) h7 (by simpa using hq)
          rw [List.getElem?_append_right (by simp [hpE])]
          simpa [hpE] using h4
      · have o := ok_D (s := s') (x := x) (w := w) (e := 0) (dv := inV s'.data) (rv := .list (s'.ret.map sloV) c) (inV.gd _) (by simp)
        exact doesQ_go o (by simp [hpE]) (by rw [setQ (by simp [hpE])]; simpa using hq)
    refine ok0 (by simp [hpE]) ?_
    clear ok0
    rcases h with ⟨h1, h2, ⟨h3, rfl⟩ | ⟨j, cells, rfl, h4, h5, h6, h7⟩⟩ | ⟨c, rfl⟩
    · have hs : slosV s'.ret = .list [] false := by unfold slosV; rw [h3]
      rw [hs]
      simp -dsimp [wkC, hpE, wFix_by, isInl]
    · simp -dsimp [wkC, hpE, wFix_by, isInl, -frz_own]
      have a6 : Ac 2 6 T (.own (6 + j) 0 s'.ret.length 2) (s'.ret.map sloV) := ⟨h1, h2, .inr ⟨j, cells, by simp, h4, h5, h6⟩⟩
      refine frz_acgQ (n := 2) (l := s'.ret.map sloV) (k := 9) 6 ?_ (by simp) (.inr ⟨by decide, by simp; exact fun x _ => ⟨_, rfl⟩⟩) fun H' _ _ => ?_
      · exact a6
      · simp -dsimp [slosV]
    · simp -dsimp [wkC, hpE, slosV, wFix_by, isInl]
end Fz.D
set_option maxRecDepth 100000
namespace Fz.D
open Go
def plus7 (s : St) (w : Int) (D : List Int) (n : Int) (R : List Slo) (a b c : Slo) : St :=
  if passQ (IntKind.i64.wrap (c.v - b.v)) n = true then { s with data := D, ret := R } else { s with data := D, ret := R ++ [⟨a.v, false⟩, ⟨b.v, false⟩, ⟨IntKind.i64.wrap (c.v + n), false⟩], ip := w }
theorem do7 {s : St} {x : Stp} {w n : Int} {D : List Int} {R : List Slo} {a b c : Slo} (hs : s.data = D ++ [n]) (hr : s.ret = R ++ [a, b, c]) (hD : D.length ≤ 10000) (hR : R.length ≤ 10000) (hd : (R.length : Int) + 3 ≤ x.depth) :
    Comes p 25 [stV s, stpV x, .int .i64 7, .int .i64 w] (.tuple [stV (plus7 s w D n R a b c), .int .i64 0]) := by
  refine do_x (g := 260) (by decide) (alu7 _ _) (flow7 s) (defs7 s x) own7 fun Q hq => ?_
  refine plus_s (i := 5) (s := s) (x := x) (w := w) (n := n) (D := D) (R := R) (a := a) (b := b) (c := c) (by rw [← hs, ← hr]; rfl) hD hR hd (fun hp J => ?_) (fun hp v T J h => ?_)
  · have q := hq J (.list (R.map sloV) true)
    rw [show plus7 s w D n R a b c = { s with data := D, ret := R } from if_pos hp] at q
    exact q (.inr ⟨true, rfl⟩)
  · have q := hq (T ++ J) v
    rw [show plus7 s w D n R a b c = { s with data := D, ret := R ++ [⟨a.v, false⟩, ⟨b.v, false⟩, ⟨IntKind.i64.wrap (c.v + n), false⟩], ip := w } from if_neg (by rw [hp]; simp)] at q
    exact q (.inl (acG_shift h))
theorem i32_of {v : V} (h : HasT (.int .i32) v) : ∃ n, v = .int .i32 n ∧ (-2147483648 ≤ n ∧ n < 2147483648) := by
  obtain ⟨n, rfl, h1, h2⟩ := h
  have h1 : -2147483648 ≤ n := h1
  have h2 : n ≤ 2147483647 := h2
  exact ⟨n, rfl, by omega⟩
theorem awakeX : Comes p 23 [] (.bool true) := by
  obtain ⟨H, h⟩ := isTrue_ok awake13
  exact Comes_gk (u := .bool true) (by rw [show acall p 1000 23 [] [] = _ from h]; rfl) rfl rfl rfl rfl rfl rfl
theorem lawPasses {i l n : Int} (hi : -2147483648 ≤ i ∧ i < 2147483648) (hl : -2147483648 ≤ l ∧ l < 2147483648) (hn : -2147483648 ≤ n ∧ n < 2147483648) : Comes p 10 [.int .i32 i, .int .i32 l, .int .i32 n] (.bool true) := by
  let s : St := { mem := [], data := [n], ret := [⟨1, false⟩, ⟨l, false⟩, ⟨i, false⟩], ctl := [], words := [], spots := [], out := [], ip := 8, here := 0, at_ := 0, tok := 0, in_ := 0, err := 0, comp := false, halt := false }
  let x : Stp := { source := ⟨#[]⟩, input := [], size := 0, depth := 9, room := 0 }
  have d := do7 (s := s) (x := x) (w := 300) (n := n) (D := []) (R := []) (a := ⟨1, false⟩) (b := ⟨l, false⟩) (c := ⟨i, false⟩) rfl rfl (by simp) (by simp) (by decide)
  refine Comes_of w10 rfl rfl k10 ?_ ?_ ?_ ?_
  · simp
  · simp
  · simp
  · have wi : IntKind.i64.wrap i = i := Fz.w64 (by omega) (by omega)
    have wl : IntKind.i64.wrap l = l := Fz.w64 (by omega) (by omega)
    have wn : IntKind.i64.wrap n = n := Fz.w64 (by omega) (by omega)
    have z3 : zeros [V.int .i64 0, V.bool false] 3 = [.int .i64 0, .bool false, .int .i64 0, .bool false, .int .i64 0, .bool false] := rfl
    simp -dsimp [w10, wFix_by, isInl, call_by awakeX, wi, wl, wn, z3]
    refine call_frz rfl ?_
    simp -dsimp []
    refine ⟨.inl (by decide), ?_⟩
    rw [show chunk 2 3 [V.int .i64 1, V.bool false, V.int .i64 l, V.bool false, V.int .i64 i, V.bool false] = [sloV ⟨1, false⟩, sloV ⟨l, false⟩, sloV ⟨i, false⟩] from rfl]
    simp -dsimp []
    refine Eq.mpr (callN_by (show Comes p 25 [V.agg [V.list [] false, V.list [V.int .i64 n] false, V.list [sloV ⟨1, false⟩, sloV ⟨l, false⟩, sloV ⟨i, false⟩] false, V.list [] false, V.list [] false, V.list [] false, V.list [] false, V.int .i64 8, V.int .i64 0, V.int .i64 0, V.int .i64 0, V.int .i64 0, V.int .i64 0, V.bool false, V.bool false],
      V.agg [V.str ⟨#[]⟩, V.list [] false, V.int .i64 0, V.int .i64 9, V.int .i64 0], V.int .i64 7, V.int .i64 300] (.tuple [stV (plus7 s 300 [] n [] ⟨1, false⟩ ⟨l, false⟩ ⟨i, false⟩), .int .i64 0]) from d)) ?_
    have wd : IntKind.i64.wrap (i - l) = i - l := Fz.w64 (by omega) (by omega)
    have wd2 : IntKind.i64.wrap (i - l + n) = i - l + n := Fz.w64 (by omega) (by omega)
    have wn2 : IntKind.i64.wrap (i + n) = i + n := Fz.w64 (by omega) (by omega)
    have pq : ∀ b, passQ (IntKind.i64.wrap (i - l)) n = b → plus7 s 300 [] n [] ⟨1, false⟩ ⟨l, false⟩ ⟨i, false⟩ = if b = true then { s with data := [], ret := [] } else { s with data := [], ret := [⟨1, false⟩, ⟨l, false⟩, ⟨i + n, false⟩], ip := 300 } := by
      intro b hb
      unfold plus7
      dsimp only
      rw [hb, wn2]
      rfl
    by_cases h2 : (0 : Int) ≤ n
    · have h2' : ¬ n < 0 := by omega
      by_cases h1 : i < l
      · by_cases h3 : i + n < l
        · rw [pq false (by simp [passQ, wd, wd2]; omega)]
          simp -dsimp [stV, s, h1, h2, h2', h3, wi, wl, wn, wn2, wFix_by, isInl]
        · rw [pq true (by simp [passQ, wd, wd2]; omega)]
          simp -dsimp [stV, s, h1, h2, h2', h3, wi, wl, wn, wn2, wFix_by, isInl]
      · rw [pq false (by simp [passQ, wd, wd2]; omega)]
        by_cases h3 : i + n < l
        · simp -dsimp [stV, s, h1, h2, h2', h3, wi, wl, wn, wn2, wFix_by, isInl]
        · simp -dsimp [stV, s, h1, h2, h2', h3, wi, wl, wn, wn2, wFix_by, isInl]
    · have h2' : n < 0 := by omega
      by_cases h1 : i < l
      · rw [pq false (by simp [passQ, wd, wd2]; omega)]
        by_cases h3 : i + n < l
        · simp -dsimp [stV, s, h1, h2, h2', h3, wi, wl, wn, wn2, wFix_by, isInl]
        · simp -dsimp [stV, s, h1, h2, h2', h3, wi, wl, wn, wn2, wFix_by, isInl]
      · by_cases h3 : i + n < l
        · rw [pq true (by simp [passQ, wd, wd2]; omega)]
          simp -dsimp [stV, s, h1, h2, h2', h3, wi, wl, wn, wn2, wFix_by, isInl]
        · rw [pq false (by simp [passQ, wd, wd2]; omega)]
          simp -dsimp [stV, s, h1, h2, h2', h3, wi, wl, wn, wn2, wFix_by, isInl]
end Fz.D
