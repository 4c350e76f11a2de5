import Derived.Test.YtagdmfgnnhlakaaGreatDoorFzRa4M5
import Derived.Test.YtagdmfgnnhlakaaGreatDoorChecked
import Derived.Shelf.Strings.Builder1
import Derived.BigCall
import Derived.WalkKit
import Derived.Test.YtagdmfgnnhlakaaGreatDoorRows
import Derived.Test.YtagdmfgnnhlakaaGreatDoorCards
import Derived.Test.YtagdmfgnnhlakaaGreatDoorTie
import Derived.Deep.DeepWitnessRowRef
import Derived.LaidMore
import Derived.Lib.LaidTab
set_option linter.all false
set_option linter.unusedVariables false
set_option linter.unusedSimpArgs false
set_option linter.unnecessarySimpa false
set_option maxRecDepth 100000
namespace Fz.D
open Go Go.Proofs
def isInl (f : FuncId) : Bool := f == 33 || f == 34 || f == 47 || f == 48 || f == 71 || f == 72 || f == 74 || f == 75 || f == 76 || f == 78 || f == 79 || f == 80 || f == 132 || f == 143 || f == 157 || f == 158 || f == 159 || f == 160 || f == 162 || f == 163 || f == 164 || f == 165 || f == 166 || f == 169 || f == 170 || f == 172 || f == 173 || f == 178 || f == 251 || f == 252 || f == 254 || f == 255 || f == 256 || f == 257 || f == 258 || f == 259 || f == 260 || f == 262 || f == 263 || f == 270 || f == 273 || f == 274 || f == 278 || f == 289 || f == 290 || f == 291 || f == 292 || f == 295 || f == 296 || f == 304 || f == 307 || f == 308 || f == 309 || f == 313 || f == 314 || f == 315 || f == 316 || f == 317 || f == 319 || f == 338 || f == 339 || f == 340 || f == 354 || f == 363
def prim0 (f : FuncId) : Option (List V → List Ob → Option (V × List Ob)) := if f = 41 then some (liftP foldP) else if f = 378 then some (liftP idxP) else if f = 321 then some (liftP (primV .fbits)) else if f = 184 then some (liftP (primV .ffrom)) else if f = 322 then some (liftP (primV .sqrt)) else if f = 323 then some (liftP (primV (.integral .down))) else if f = 328 then some (liftP (primV (.integral .zero))) else none
def p0 : AP := { fn := lk tab, prim := prim0, inl := isInl, body := bods }
@[simp] theorem inl_eq0 (f : FuncId) : p0.inlY f = (f == 4000000000 || isInl f) := (rfl)
end Fz.D
set_option maxRecDepth 100000
namespace Fz.D
open Go Go.Proofs
theorem asc_all : ∀ b : Fin 256, asciiN[b.val]? = some (if isSp (UInt8.ofNat b.val) then 1 else 0) := by decide +kernel
theorem asc (b : UInt8) : asciiN[b.toNat]? = some (if isSp b then 1 else 0) := by
  have := asc_all ⟨b.toNat, b.toNat_lt⟩
  simpa using this
theorem asc_len : asciiN.length = 256 := by kernel_rfl
theorem asc1 (b : UInt8) : List.take 1 (List.drop b.toNat (asciiN.map (V.int .u8))) = [V.int .u8 (if isSp b then 1 else 0)] := by
  have h := asc b
  obtain ⟨h1, h2⟩ := List.getElem?_eq_some_iff.1 h
  rw [← List.map_drop, List.drop_eq_getElem_cons h1, h2]
  rfl
@[simp] theorem glA_pr (P : Nat → Nat → Prop) (R : List V → Prop) : wPR glA P R = R (asciiN.map (V.int .u8)) := (rfl)
theorem asc_ok (b : UInt8) : ((b.toNat : Int) < 256 ∧ b.toNat ≤ 256) ∧ 1 ≤ 256 - b.toNat := by
  have := b.toNat_lt
  omega
theorem u8_or (b : Int) (c : UInt8) (h0 : 0 ≤ b) (h1 : b < 128) (hc : c.toNat < 128) : 0 ≤ IntKind.u8.wrap ((((b % 2 ^ IntKind.u8.bits).toNat ||| c.toNat % 2 ^ IntKind.u8.bits) : Nat) : Int) ∧ IntKind.u8.wrap ((((b % 2 ^ IntKind.u8.bits).toNat ||| c.toNat % 2 ^ IntKind.u8.bits) : Nat) : Int) < 128 := by
  have e1 : (b % 2 ^ IntKind.u8.bits).toNat = b.toNat := by show (b % 256).toNat = _; omega
  have e2 : c.toNat % 2 ^ IntKind.u8.bits = c.toNat := by show c.toNat % 256 = _; omega
  have h2 : b.toNat ||| c.toNat < 2 ^ 7 := Nat.or_lt_two_pow (by omega) (by omega)
  rw [e1, e2]
  have : IntKind.u8.wrap ((b.toNat ||| c.toNat : Nat) : Int) = ((b.toNat ||| c.toNat : Nat) : Int) := by
    show ((b.toNat ||| c.toNat : Nat) : Int) % 256 = _
    omega
  rw [this]
  omega
theorem cntF_le : ∀ (l : List UInt8) (w : Bool), cntF l w ≤ l.length
  | [], _ => Nat.le_refl _
  | c :: r, w => by
    have := cntF_le r (isSp c)
    rw [cntF, List.length_cons]
    split <;> omega
theorem ext_list (l : List UInt8) (a b : Nat) : (ByteArray.mk l.toArray).extract a b = ⟨((l.drop a).take (b - a)).toArray⟩ := by
  apply ByteArray.ext
  rw [ByteArray.data_extract]
  simp
def wV (w : List UInt8) : V := .str ⟨w.toArray⟩
abbrev emp : V := .str ⟨#[]⟩
theorem tk_snoc {l : List UInt8} {fs i : Nat} (h1 : fs ≤ i) (h2 : i < l.length) : (l.drop fs).take (i + 1 - fs) = (l.drop fs).take (i - fs) ++ [l[i]] := by
  rw [show i + 1 - fs = i - fs + 1 from by omega, List.take_add_one]
  congr 1
  rw [List.getElem?_drop, show fs + (i - fs) = i from by omega, List.getElem?_eq_getElem h2]
  rfl
theorem words_no {c : UInt8} {r p : List UInt8} (h : isSp c = false) : wordsF (c :: r) p = wordsF r (p ++ [c]) := by
  rw [wordsF, if_neg (by rw [h]; exact Bool.false_ne_true)]
theorem words_sp {c : UInt8} {r p : List UInt8} (h : isSp c = true) (hp : p ≠ []) : wordsF (c :: r) p = p :: wordsF r [] := by
  cases p with
  | nil => exact absurd rfl hp
  | cons a p => rw [wordsF, if_pos h]; rfl
theorem fields_s {l : List UInt8} {n : Nat} (ha : ∀ c ∈ l, c.toNat < 128) (hs : l.length ≤ 100000) (hn : (wordsF l []).length = n) (hc : cntF l true = n) (hp : 0 < n) {Q : CR → List Ob → Prop}
    (hq : Q (.ret (.own 0 0 n 1)) [.live ((wordsF l []).map wV)]) : WFun p0 143 [.str ⟨l.toArray⟩] [] Q := by
  have hnl : n ≤ 100000 := by have := cntF_le l true; omega
  have hsz : (ByteArray.mk l.toArray).size = l.length := by simp [ByteArray.size]
  refine WFun_of w143 rfl rfl k143 ?_
  simp -dsimp [w143]
  refine xL_by (by kernel_rfl) (fun k e H => ∃ (i m : Nat) (w : Bool) (b : Int), i ≤ l.length ∧ k = l.length - i ∧ e 0 = .str ⟨l.toArray⟩ ∧ e 3 = .int .i64 m ∧ e 4 = .int .i64 (if w then 1 else 0) ∧ e 5 = .int .u8 b ∧ e 6 = .int .i64 i ∧ H = [] ∧ 0 ≤ b ∧ b < 128 ∧ m + cntF (l.drop i) w = n) l.length ?_ ?_
  · refine ⟨0, 0, true, 0, by omega, rfl, ?_⟩
    simp -dsimp [hc]
  · rintro k e H ⟨i, m, w, b, hi, hk, h0, h3, h4, h5, h6, rfl, hb0, hb1, hm⟩
    by_cases c1 : i < l.length
    · have hq1 := asc_ok l[i]
      have hq2 := asc1 l[i]
      have hor := u8_or b l[i] hb0 hb1 (ha _ (List.getElem_mem c1))
      generalize hd : IntKind.u8.wrap ((((b % 2 ^ IntKind.u8.bits).toNat ||| (l[i]).toNat % 2 ^ IntKind.u8.bits) : Nat) : Int) = d at hor
      rw [List.drop_eq_getElem_cons c1, cntF] at hm
      cases hsp : isSp l[i] <;> cases w <;> (rw [hsp] at hm hq2) <;> simp only [Bool.not_false, Bool.not_true, Bool.and_true, Bool.and_false, Bool.true_and, Bool.false_and, if_true, if_false, Bool.false_eq_true] at hm
      · simp -dsimp [h0, h3, h4, h5, h6, c1, hsz, asc_len, hq1, hq2, hsp]
        refine ⟨l.length - (i + 1), by omega, i + 1, m, false, d, by omega, rfl, ?_⟩
        simp -dsimp [h0, h3, h4, h5, h6, hd, hor]
        refine ⟨?_, rfl, Fz.w64 (by omega) (by omega), by omega⟩
        exact (Fz.w64 (by omega) (by omega) : IntKind.i64.wrap ((m : Int) + 0) = (m : Int) + 0).trans (by omega)
      · simp -dsimp [h0, h3, h4, h5, h6, c1, hsz, asc_len, hq1, hq2, hsp]
        refine ⟨l.length - (i + 1), by omega, i + 1, m + 1, false, d, by omega, rfl, ?_⟩
        simp -dsimp [h0, h3, h4, h5, h6, hd, hor]
        refine ⟨?_, rfl, Fz.w64 (by omega) (by omega), by omega⟩
        exact (Fz.w64 (by omega) (by omega) : IntKind.i64.wrap ((m : Int) + 1) = (m : Int) + 1)
      · simp -dsimp [h0, h3, h4, h5, h6, c1, hsz, asc_len, hq1, hq2, hsp]
        refine ⟨l.length - (i + 1), by omega, i + 1, m, true, d, by omega, rfl, ?_⟩
        simp -dsimp [h0, h3, h4, h5, h6, hd, hor]
        refine ⟨?_, rfl, Fz.w64 (by omega) (by omega), by omega⟩
        exact (Fz.w64 (by omega) (by omega) : IntKind.i64.wrap ((m : Int) + 0) = (m : Int) + 0).trans (by omega)
      · simp -dsimp [h0, h3, h4, h5, h6, c1, hsz, asc_len, hq1, hq2, hsp]
        refine ⟨l.length - (i + 1), by omega, i + 1, m, true, d, by omega, rfl, ?_⟩
        simp -dsimp [h0, h3, h4, h5, h6, hd, hor]
        refine ⟨?_, rfl, Fz.w64 (by omega) (by omega), by omega⟩
        exact (Fz.w64 (by omega) (by omega) : IntKind.i64.wrap ((m : Int) + 0) = (m : Int) + 0).trans (by omega)
    · have hii : i = l.length := by omega
      subst hii
      rw [List.drop_length, cntF, Nat.add_zero] at hm
      subst hm
      have c2 : ¬ (128 : Int) ≤ b := by omega
      simp -dsimp [h0, h3, h4, h5, h6, c1, hsz, c2]
      have hm0 : ¬ m = 0 := by omega
      refine ⟨by omega, ?_⟩
      rw [if_neg hm0]
      refine xL_by (by kernel_rfl) (fun k e H => ∃ (j : Nat), j ≤ l.length ∧ k = l.length - j ∧ e 0 = .str ⟨l.toArray⟩ ∧ e 9 = .own 0 0 m 1 ∧ e 10 = .int .i64 0 ∧ e 12 = .int .i64 j ∧ H = [.live (List.replicate m (.str ⟨#[]⟩))] ∧ wordsF (l.drop j) [] = wordsF l [] ∧ cntF (l.drop j) true = m) l.length ?_ ?_
      · refine ⟨0, by omega, rfl, ?_⟩
        simp -dsimp [h0, h3, hc]
      · rintro k e H ⟨j, hj, hk, h0, h9, h10, h12, rfl, hw, hcj⟩
        by_cases c3 : j < l.length
        · have hq1 := asc_ok l[j]
          have hq2 := asc1 l[j]
          cases hsp : isSp l[j]
          · rw [hsp] at hq2
            simp -dsimp [h0, h9, h10, h12, c3, hsz, asc_len, hq1, hq2, hsp]
            refine xL_by (by kernel_rfl) (fun k e H => ∃ (i fs : Nat) (acc : List (List UInt8)), fs ≤ i ∧ i ≤ l.length ∧ k = l.length - i ∧ e 0 = .str ⟨l.toArray⟩ ∧ e 9 = .own 0 0 m 1 ∧ e 10 = .int .i64 acc.length ∧ e 11 = .int .i64 fs ∧ e 12 = .int .i64 i ∧ H = [.live (acc.map wV ++ List.replicate (m - acc.length) emp)] ∧
              acc ++ wordsF (l.drop i) ((l.drop fs).take (i - fs)) = wordsF l [] ∧ acc.length + (if fs < i then 1 else 0) + cntF (l.drop i) (decide (fs = i)) = m ∧ (∀ h : i < l.length, fs = i → isSp l[i] = false)) (l.length - j) ?_ ?_
            · refine ⟨j, j, [], by omega, by omega, rfl, ?_⟩
              simp -dsimp [h0, h9, h10, h12, hw, hcj, hsp]
            rintro k e H ⟨i, fs, acc, hfi, hi, hk, h0, h9, h10, h11, h12, rfl, hw, hci, hst⟩
            by_cases c4 : i < l.length
            · have hq1 := asc_ok l[i]
              have hq2 := asc1 l[i]
              have hst := hst c4
              have hsub := List.drop_eq_getElem_cons c4
              cases hsp : isSp l[i]
              · rw [hsp] at hq2
                simp -dsimp [h0, h9, h10, h11, h12, c4, hsz, asc_len, hq1, hq2, hsp]
                refine ⟨l.length - (i + 1), by omega, i + 1, fs, acc, by omega, by omega, rfl, ?_⟩
                simp -dsimp [h0, h9, h10, h11, h12]
                rw [hsub, words_no hsp] at hw
                rw [hsub, cntF, hsp] at hci
                refine ⟨Fz.w64 (by omega) (by omega), by rw [tk_snoc hfi c4]; exact hw, ?_, by omega⟩
                rw [if_pos (by omega), decide_eq_false (by omega)]
                by_cases c5 : fs = i
                · rw [if_neg (by omega), decide_eq_true c5] at hci
                  simp at hci; omega
                · rw [if_pos (by omega), decide_eq_false c5] at hci
                  simp at hci; omega
              · rw [hsp] at hq2
                have hlt : fs < i := by
                  rcases Nat.lt_or_ge fs i with h | h
                  · exact h
                  · have := hst (by omega); rw [hsp] at this; cases this
                have hpne : (l.drop fs).take (i - fs) ≠ [] := by
                  intro h
                  have := congrArg List.length h
                  simp at this; omega
                rw [hsub, words_sp hsp hpne] at hw
                rw [hsub, cntF, hsp, if_pos hlt] at hci
                simp at hci
                have hac : acc.length < m := by omega
                have hrep : List.replicate (m - acc.length) emp = emp :: List.replicate (m - (acc.length + 1)) emp := by
                  rw [show m - acc.length = m - (acc.length + 1) + 1 from by omega]; rfl
                have w1 : IntKind.i64.wrap ((acc.length : Int) + 1) = (acc.length : Int) + 1 := Fz.w64 (by omega) (by omega)
                have w2 : IntKind.i64.wrap ((i : Int) + 1) = (i : Int) + 1 := Fz.w64 (by omega) (by omega)
                simp -dsimp [h0, h9, h10, h11, h12, c4, hsz, asc_len, hq1, hq2, hsp, w1, w2]
                refine ⟨⟨hfi, hi⟩, hac, by omega, ?_⟩
                refine xL_by (by kernel_rfl) (fun k e H => ∃ (q : Nat), i + 1 ≤ q ∧ q ≤ l.length ∧ k = l.length - q ∧ e 0 = .str ⟨l.toArray⟩ ∧ e 9 = .own 0 0 m 1 ∧ e 10 = .int .i64 ((acc.length : Int) + 1) ∧ e 12 = .int .i64 q ∧ H = [.live ((acc ++ [(l.drop fs).take (i - fs)]).map wV ++ List.replicate (m - (acc.length + 1)) emp)] ∧ wordsF (l.drop q) [] = wordsF (l.drop (i + 1)) [] ∧ cntF (l.drop q) true = cntF (l.drop (i + 1)) true) (l.length - (i + 1)) ?_ ?_
                · refine ⟨i + 1, by omega, by omega, rfl, ?_⟩
                  have hdrop : List.drop (acc.length + 1) (List.map wV acc ++ List.replicate (m - acc.length) emp) = List.replicate (m - (acc.length + 1)) emp := by
                    rw [List.drop_append, List.length_map, List.drop_eq_nil_of_le (by simp), List.nil_append, List.drop_replicate]
                    congr 1; omega
                  simp -dsimp [h0, h9, h10, h11, h12]
                  exact ⟨by rw [ext_list]; rfl, hdrop⟩
                rintro k e H ⟨q, hq, hql, hk, h0, h9, h10, h12, rfl, hwq, hcq⟩
                by_cases c6 : q < l.length
                · have hq1 := asc_ok l[q]
                  have hq2 := asc1 l[q]
                  cases hsp2 : isSp l[q]
                  · rw [hsp2] at hq2
                    simp -dsimp [h0, h9, h10, h12, c6, hsz, asc_len, hq1, hq2, hsp2]
                    refine ⟨l.length - q, by omega, q, q, acc ++ [(l.drop fs).take (i - fs)], by omega, by omega, rfl, ?_⟩
                    simp -dsimp [h0, h9, h10, h12]
                    refine ⟨?_, ?_, ?_⟩
                    · rw [hwq]; exact hw
                    · rw [hcq]; omega
                    · intro _; exact hsp2
                  · rw [hsp2] at hq2
                    rw [List.drop_eq_getElem_cons c6, cntF, hsp2] at hcq
                    rw [List.drop_eq_getElem_cons c6, wordsF, hsp2] at hwq
                    simp -dsimp [h0, h9, h10, h12, c6, hsz, asc_len, hq1, hq2, hsp2]
                    refine ⟨l.length - (q + 1), by omega, q + 1, by omega, by omega, rfl, ?_⟩
                    simp -dsimp [h0, h9, h10, h12]
                    refine ⟨Fz.w64 (by omega) (by omega), by simpa using hwq, by simpa using hcq⟩
                · simp -dsimp [h0, h9, h10, h12, c6, hsz]
                  refine ⟨l.length - q, by omega, q, q, acc ++ [(l.drop fs).take (i - fs)], by omega, by omega, rfl, ?_⟩
                  simp -dsimp [h0, h9, h10, h12]
                  refine ⟨?_, ?_, ?_⟩
                  · rw [hwq]; exact hw
                  · rw [hcq]; omega
                  · intro h; omega
            · have hii : i = l.length := by omega
              subst hii
              by_cases c5 : fs < l.length
              · rw [if_pos c5, List.drop_length, cntF] at hci
                have hpne : (l.drop fs).take (l.length - fs) ≠ [] := by
                  intro h
                  have := congrArg List.length h
                  simp at this; omega
                have hwe : wordsF [] ((l.drop fs).take (l.length - fs)) = [(l.drop fs).take (l.length - fs)] := by
                  cases hx : (l.drop fs).take (l.length - fs) with
                  | nil => exact absurd hx hpne
                  | cons a r => rfl
                rw [List.drop_length, hwe] at hw
                simp -dsimp [h0, h9, h10, h11, h12, c5, hsz]
                refine ⟨hfi, by omega, by omega, ?_⟩
                have hdrop : List.drop (acc.length + 1) (List.map wV acc ++ List.replicate (m - acc.length) emp) = [] := by
                  apply List.drop_eq_nil_of_le
                  simp; omega
                rw [hdrop, ext_list, show V.str ⟨((l.drop fs).take (l.length - fs)).toArray⟩ = wV ((l.drop fs).take (l.length - fs)) from rfl]
                rw [← hw] at hq
                simpa using hq
              · have hfe : fs = l.length := by omega
                subst hfe
                rw [if_neg (by omega), List.drop_length, cntF] at hci
                simp -dsimp [h0, h9, h10, h11, h12, c5, hsz]
                rw [List.drop_length] at hw
                rw [show m - acc.length = 0 from by omega]
                have hw' : acc = wordsF l [] := by simpa [wordsF] using hw
                rw [hw']
                simpa using hq
          · rw [hsp] at hq2
            rw [List.drop_eq_getElem_cons c3, cntF, hsp] at hcj
            rw [List.drop_eq_getElem_cons c3, wordsF, hsp] at hw
            simp -dsimp [h0, h9, h10, h12, c3, hsz, asc_len, hq1, hq2, hsp]
            refine ⟨l.length - (j + 1), by omega, j + 1, by omega, rfl, ?_⟩
            simp -dsimp [h0, h9, h10, h12]
            exact ⟨Fz.w64 (by omega) (by omega), by simpa using hw, by simpa using hcj⟩
        · obtain rfl : j = l.length := by omega
          rw [List.drop_length, cntF] at hcj
          omega
end Fz.D
set_option maxRecDepth 100000
namespace Fz.D
open Go Go.Proofs
def allB : List UInt8 := [69, 88, 73, 84, 32, 40, 76, 73, 84, 41, 32, 40, 66, 82, 65, 78, 67, 72, 41, 32, 40, 48, 66, 82, 65, 78, 67, 72, 41, 32, 40, 68, 79, 41, 32, 40, 76, 79, 79, 80, 41, 32, 40, 43, 76, 79, 79, 80, 41, 32, 40, 86, 65, 82, 41, 32, 40, 68, 79, 69, 83, 41, 32, 40, 84, 69, 88, 84, 41, 32, 40, 77, 65, 82, 75, 41, 32, 67, 79, 77, 80, 73, 76, 69, 44, 32, 68, 85, 80, 32, 68, 82, 79, 80, 32, 83, 87, 65, 80, 32, 79, 86, 69, 82, 32, 82, 79, 84, 32, 78, 73, 80, 32, 84, 85, 67, 75, 32, 63, 68, 85, 80, 32, 50, 68, 85, 80, 32, 50, 68, 82, 79, 80, 32, 50, 83, 87, 65, 80, 32, 50, 79, 86, 69, 82, 32, 80, 73, 67, 75, 32, 82, 79, 76, 76, 32, 68, 69, 80, 84, 72, 32, 43, 32, 45, 32, 42, 32, 47, 32, 77, 79, 68, 32, 47, 77, 79, 68, 32, 42, 47, 32, 42, 47, 77, 79, 68, 32, 49, 43, 32, 49, 45, 32, 50, 42, 32, 50, 47, 32, 78, 69, 71, 65, 84, 69, 32, 65, 66, 83, 32, 77, 73, 78, 32, 77, 65, 88, 32, 65, 78, 68, 32, 79, 82, 32, 88, 79, 82, 32, 73, 78, 86, 69, 82, 84, 32, 76, 83, 72, 73, 70, 84, 32, 82, 83, 72, 73, 70, 84, 32, 61, 32, 60, 62, 32, 60, 32, 62, 32, 85, 60, 32, 48, 61, 32, 48, 60, 32, 48, 60, 62, 32, 48, 62, 32, 87, 73, 84, 72, 73, 78, 32, 84, 82, 85, 69, 32, 70, 65, 76, 83, 69, 32, 67, 69, 76, 76, 83, 32, 67, 69, 76, 76, 43, 32, 70, 43, 32, 70, 45, 32, 70, 42, 32, 70, 47, 32, 70, 77, 73, 78, 32, 70, 77, 65, 88, 32, 70, 78, 69, 71, 65, 84, 69, 32, 70, 65, 66, 83, 32, 70, 83, 81, 82, 84, 32, 70, 76, 79, 79, 82, 32, 70, 60, 32, 70, 61, 32, 83, 62, 70, 32, 70, 62, 83, 32, 64, 32, 33, 32, 43, 33, 32, 67, 64, 32, 67, 33, 32, 72, 69, 82, 69, 32, 65, 76, 76, 79, 84, 32, 44, 32, 67, 44, 32, 65, 76, 73, 71, 78, 32, 66, 65, 83, 69, 32, 68, 69, 67, 73, 77, 65, 76, 32, 72, 69, 88, 32, 62, 82, 32, 82, 62, 32, 82, 64, 32, 73, 32, 74, 32, 85, 78, 76, 79, 79, 80, 32, 76, 69, 65, 86, 69, 32, 73, 70, 32, 69, 76, 83, 69, 32, 84, 72, 69, 78, 32, 66, 69, 71, 73, 78, 32, 65, 71, 65, 73, 78, 32, 85, 78, 84, 73, 76, 32, 87, 72, 73, 76, 69, 32, 82, 69, 80, 69, 65, 84, 32, 68, 79, 32, 76, 79, 79, 80, 32, 43, 76, 79, 79, 80, 32, 82, 69, 67, 85, 82, 83, 69, 32, 58, 32, 59, 32, 73, 77, 77, 69, 68, 73, 65, 84, 69, 32, 67, 79, 78, 83, 84, 65, 78, 84, 32, 86, 65, 82, 73, 65, 66, 76, 69, 32, 67, 82, 69, 65, 84, 69, 32, 68, 79, 69, 83, 62, 32, 77, 65, 82, 75, 69, 82, 32, 39, 32, 91, 39, 93, 32, 76, 73, 84, 69, 82, 65, 76, 32, 80, 79, 83, 84, 80, 79, 78, 69, 32, 91, 32, 93, 32, 69, 88, 69, 67, 85, 84, 69, 32, 67, 72, 65, 82, 32, 91, 67, 72, 65, 82, 93, 32, 40, 32, 92, 32, 46, 34, 32, 69, 77, 73, 84, 32, 67, 82, 32, 83, 80, 65, 67, 69, 32, 46, 32, 84, 89, 80, 69, 32, 75, 69, 89, 32, 84, 72, 82, 79, 87, 32, 65, 66, 79, 82, 84]
def ctlB : List UInt8 := [73, 70, 32, 69, 76, 83, 69, 32, 84, 72, 69, 78, 32, 66, 69, 71, 73, 78, 32, 65, 71, 65, 73, 78, 32, 85, 78, 84, 73, 76, 32, 87, 72, 73, 76, 69, 32, 82, 69, 80, 69, 65, 84, 32, 68, 79, 32, 76, 79, 79, 80, 32, 43, 76, 79, 79, 80, 32, 82, 69, 67, 85, 82, 83, 69, 32, 59, 32, 68, 79, 69, 83, 62, 32, 91, 39, 93, 32, 76, 73, 84, 69, 82, 65, 76, 32, 80, 79, 83, 84, 80, 79, 78, 69, 32, 91, 67, 72, 65, 82, 93]
def opsL : List (List UInt8) := [[69, 88, 73, 84], [40, 76, 73, 84, 41], [40, 66, 82, 65, 78, 67, 72, 41], [40, 48, 66, 82, 65, 78, 67, 72, 41], [40, 68, 79, 41], [40, 76, 79, 79, 80, 41], [40, 43, 76, 79, 79, 80, 41], [40, 86, 65, 82, 41], [40, 68, 79, 69, 83, 41], [40, 84, 69, 88, 84, 41], [40, 77, 65, 82, 75, 41], [67, 79, 77, 80, 73, 76, 69, 44], [68, 85, 80], [68, 82, 79, 80], [83, 87, 65, 80], [79, 86, 69, 82], [82, 79, 84], [78, 73, 80], [84, 85, 67, 75], [63, 68, 85, 80], [50, 68, 85, 80], [50, 68, 82, 79, 80], [50, 83, 87, 65, 80], [50, 79, 86, 69, 82], [80, 73, 67, 75], [82, 79, 76, 76], [68, 69, 80, 84, 72], [43], [45], [42], [47], [77, 79, 68], [47, 77, 79, 68], [42, 47], [42, 47, 77, 79, 68], [49, 43], [49, 45], [50, 42], [50, 47], [78, 69, 71, 65, 84, 69], [65, 66, 83], [77, 73, 78], [77, 65, 88], [65, 78, 68], [79, 82], [88, 79, 82], [73, 78, 86, 69, 82, 84], [76, 83, 72, 73, 70, 84], [82, 83, 72, 73, 70, 84], [61], [60, 62], [60], [62], [85, 60], [48, 61], [48, 60], [48, 60, 62], [48, 62], [87, 73, 84, 72, 73, 78], [84, 82, 85, 69], [70, 65, 76, 83, 69], [67, 69, 76, 76, 83], [67, 69, 76, 76, 43], [70, 43], [70, 45], [70, 42], [70, 47], [70, 77, 73, 78], [70, 77, 65, 88], [70, 78, 69, 71, 65, 84, 69], [70, 65, 66, 83], [70, 83, 81, 82, 84], [70, 76, 79, 79, 82], [70, 60], [70, 61], [83, 62, 70], [70, 62, 83], [64], [33], [43, 33], [67, 64], [67, 33], [72, 69, 82, 69], [65, 76, 76, 79, 84], [44], [67, 44], [65, 76, 73, 71, 78], [66, 65, 83, 69], [68, 69, 67, 73, 77, 65, 76], [72, 69, 88], [62, 82], [82, 62], [82, 64], [73], [74], [85, 78, 76, 79, 79, 80], [76, 69, 65, 86, 69], [73, 70], [69, 76, 83, 69], [84, 72, 69, 78], [66, 69, 71, 73, 78], [65, 71, 65, 73, 78], [85, 78, 84, 73, 76], [87, 72, 73, 76, 69], [82, 69, 80, 69, 65, 84], [68, 79], [76, 79, 79, 80], [43, 76, 79, 79, 80], [82, 69, 67, 85, 82, 83, 69], [58], [59], [73, 77, 77, 69, 68, 73, 65, 84, 69], [67, 79, 78, 83, 84, 65, 78, 84], [86, 65, 82, 73, 65, 66, 76, 69], [67, 82, 69, 65, 84, 69], [68, 79, 69, 83, 62], [77, 65, 82, 75, 69, 82], [39], [91, 39, 93], [76, 73, 84, 69, 82, 65, 76], [80, 79, 83, 84, 80, 79, 78, 69], [91], [93], [69, 88, 69, 67, 85, 84, 69], [67, 72, 65, 82], [91, 67, 72, 65, 82, 93], [40], [92], [46, 34], [69, 77, 73, 84], [67, 82], [83, 80, 65, 67, 69], [46], [84, 89, 80, 69], [75, 69, 89], [84, 72, 82, 79, 87], [65, 66, 79, 82, 84]]
def ctlL : List (List UInt8) := [[73, 70], [69, 76, 83, 69], [84, 72, 69, 78], [66, 69, 71, 73, 78], [65, 71, 65, 73, 78], [85, 78, 84, 73, 76], [87, 72, 73, 76, 69], [82, 69, 80, 69, 65, 84], [68, 79], [76, 79, 79, 80], [43, 76, 79, 79, 80], [82, 69, 67, 85, 82, 83, 69], [59], [68, 79, 69, 83, 62], [91, 39, 93], [76, 73, 84, 69, 82, 65, 76], [80, 79, 83, 84, 80, 79, 78, 69], [91, 67, 72, 65, 82, 93]]
theorem allB_w : wordsF allB [] = opsL := by kernel_rfl
theorem allB_a : ∀ c ∈ allB, c.toNat < 128 := by decide +kernel
theorem ren_wV (g : Nat → Nat) : ∀ l : List (List UInt8), renL g (l.map wV) = l.map wV
  | [] => rfl
  | a :: r => by rw [List.map_cons, renL, ren_wV g r]; rfl
theorem refs_wV : ∀ l : List (List UInt8), refsL (l.map wV) = []
  | [] => rfl
  | a :: r => by rw [List.map_cons, refsL, refs_wV r]; rfl
theorem list_run : WFun p0 39 [] [] fun r H => r = .ret (.own 0 0 137 1) ∧ H = [.live (opsL.map wV)] := by
  refine WFun_of w39 rfl rfl k39 ?_
  simp -dsimp [w39]
  refine WCall_inl (ids := []) rfl rfl ?_
  refine fields_s (l := allB) (n := 137) allB_a (by decide +kernel) (by rw [allB_w]; kernel_rfl) (by kernel_rfl) (by decide) ?_
  have k0 : backK [] 0 0 = 0 := by simp [backK]
  simp -dsimp [allB_w, backH, setAll, renR, renOb, crV, refs, refsL, renL, ren, ren_wV, refs_wV, k0]
def laidP (l : List (List UInt8)) : List V → List Ob → Option (V × List Ob)
  | [], [] => some (.own 0 0 l.length 1, [.live (l.map wV)])
  | _, _ => none
def prim1 (f : FuncId) : Option (List V → List Ob → Option (V × List Ob)) := if f = 39 then some (laidP opsL) else prim0 f
def p1 : AP := { fn := lk tab, prim := prim1, inl := isInl, body := bods }
@[simp] theorem inl_eq1 (f : FuncId) : p1.inlY f = (f == 4000000000 || isInl f) := (rfl)
theorem fn_ok (f : FuncId) (af : AFun) (h : lk tab f = some af) : cFun Tryz.prog f = some af.erase := tab_ok _ (lk_mem _ _ _ h)
end Fz.D
set_option maxRecDepth 100000
namespace Fz.D
open Go Go.Proofs
def p : AP := p1
@[simp] theorem inl_eq (f : FuncId) : p.inlY f = (f == 4000000000 || isInl f) := (rfl)
def isTrue : Option (CR × List Ob) → Bool
  | some (.ret (.bool b), _) => b
  | _ => false
theorem isTrue_ok {r : Option (CR × List Ob)} (h : isTrue r = true) : ∃ H, r = some (.ret (.bool true), H) := by
  unfold isTrue at h
  split at h
  · subst h; exact ⟨_, rfl⟩
  · cases h
theorem awake9 : isTrue (acall p1 1000 13 [] []) = true := by kernel_rfl
end Fz.D
set_option maxRecDepth 100000
namespace Fz.D
open Go
def byV (b : List Int) : V := .list (b.map (V.int .u8)) false
@[simp] theorem byV.gd (b : List Int) : ground (byV b) = true := by simp [byV]
@[simp] theorem byV.gk (b : List Int) (k : Nat) : gk (k + 1) (byV b) = true := by simp [byV]
@[simp] theorem byV.nr (b : List Int) : nrm (byV b) = byV b := by simp [byV]
@[simp] theorem byV.nrc : nrm ∘ byV = byV := funext fun x => byV.nr x
@[simp] theorem byV.nm (b : List Int) : nm (byV b) = true := by simp [byV]
@[simp] theorem byV.any (b : List Int) : isAny (byV b) = false := rfl
@[simp] theorem byV.cells (b : List Int) : cellsOf (byV b) = [byV b] := rfl
@[simp] theorem byV.st (b : List Int) : storable (byV b) = true := rfl
@[simp] theorem byV.lf (b : List Int) : leafy (byV b) = true := rfl
@[simp] theorem byV.uni (l : List (List Int)) : uni 1 (l.map byV) = true := uni_map fun _ => rfl
@[simp] theorem byV.flat (l : List (List Int)) : flat (l.map byV) = l.map byV := flat_one fun _ => rfl
@[simp] theorem byV.sl (b : List Int) (L : List V → Bool → Prop) (O : Nat → Nat → Nat → Nat → Prop) : wSl (byV b) L O = L (b.map (V.int .u8)) false := (rfl)
@[simp] theorem byV.el (b : List Int) (H : List Ob) (n : Nat) (K : List V → Nat → Prop) : xElems H n (byV b) K = xElems H n (.list (b.map (V.int .u8)) false) K := (rfl)
@[simp] theorem byV.xs (b : List Int) (H : List Ob) (n : Nat) (lo hi mx : Option V) (K : V → Prop) : xSlice H (.sl n) (byV b) lo hi mx K = xSlice H (.sl n) (.list (b.map (V.int .u8)) false) lo hi mx K := (rfl)
def inV (b : List Int) : V := .list (b.map (V.int .i64)) false
@[simp] theorem inV.gd (b : List Int) : ground (inV b) = true := by simp [inV]
@[simp] theorem inV.gk (b : List Int) (k : Nat) : gk (k + 1) (inV b) = true := by simp [inV]
@[simp] theorem inV.nr (b : List Int) : nrm (inV b) = inV b := by simp [inV]
@[simp] theorem inV.nrc : nrm ∘ inV = inV := funext fun x => inV.nr x
@[simp] theorem inV.nm (b : List Int) : nm (inV b) = true := by simp [inV]
@[simp] theorem inV.any (b : List Int) : isAny (inV b) = false := rfl
@[simp] theorem inV.cells (b : List Int) : cellsOf (inV b) = [inV b] := rfl
@[simp] theorem inV.st (b : List Int) : storable (inV b) = true := rfl
@[simp] theorem inV.lf (b : List Int) : leafy (inV b) = true := rfl
@[simp] theorem inV.uni (l : List (List Int)) : uni 1 (l.map inV) = true := uni_map fun _ => rfl
@[simp] theorem inV.flat (l : List (List Int)) : flat (l.map inV) = l.map inV := flat_one fun _ => rfl
@[simp] theorem inV.sl (b : List Int) (L : List V → Bool → Prop) (O : Nat → Nat → Nat → Nat → Prop) : wSl (inV b) L O = L (b.map (V.int .i64)) false := (rfl)
@[simp] theorem inV.el (b : List Int) (H : List Ob) (n : Nat) (K : List V → Nat → Prop) : xElems H n (inV b) K = xElems H n (.list (b.map (V.int .i64)) false) K := (rfl)
@[simp] theorem inV.xs (b : List Int) (H : List Ob) (n : Nat) (lo hi mx : Option V) (K : V → Prop) : xSlice H (.sl n) (inV b) lo hi mx K = xSlice H (.sl n) (.list (b.map (V.int .i64)) false) lo hi mx K := (rfl)
structure Slo where
  v : Int
  call : Bool
deriving Inhabited, DecidableEq
structure Wor where
  name : ByteArray
  code : Int
  now : Bool
  hid : Bool
deriving Inhabited
structure Spo where
  addr : Int
  at_ : Int
deriving Inhabited, DecidableEq
structure Rn where
  at_ : Int
  b : List Int
deriving Inhabited, DecidableEq
def sloV (s : Slo) : V := .agg [.int .i64 s.v, .bool s.call]
@[simp] theorem sloV.gd (s : Slo) : ground (sloV s) = true := by simp [sloV]
@[simp] theorem sloV.gk (s : Slo) (k : Nat) : gk (k + 2) (sloV s) = true := by simp [sloV]
@[simp] theorem sloV.nr (s : Slo) : nrm (sloV s) = sloV s := by simp [sloV]
@[simp] theorem sloV.nrc : nrm ∘ sloV = sloV := funext fun x => sloV.nr x
@[simp] theorem sloV.nm (s : Slo) : nm (sloV s) = true := by simp [sloV]
@[simp] theorem sloV.any (s : Slo) : isAny (sloV s) = false := rfl
@[simp] theorem sloV.cells (s : Slo) : cellsOf (sloV s) = [.int .i64 s.v, .bool s.call] := rfl
@[simp] theorem sloV.uni (l : List (Slo)) : uni 2 (l.map sloV) = true := uni_map fun _ => rfl
@[simp] theorem sloV.flat (l : List (Slo)) : flat (l.map sloV) = l.flatMap fun s => [.int .i64 s.v, .bool s.call] := by rw [flat_map]; rfl
def worV (s : Wor) : V := .agg [.str s.name, .int .i64 s.code, .bool s.now, .bool s.hid]
@[simp] theorem worV.gd (s : Wor) : ground (worV s) = true := by simp [worV]
@[simp] theorem worV.gk (s : Wor) (k : Nat) : gk (k + 2) (worV s) = true := by simp [worV]
@[simp] theorem worV.nr (s : Wor) : nrm (worV s) = worV s := by simp [worV]
@[simp] theorem worV.nrc : nrm ∘ worV = worV := funext fun x => worV.nr x
@[simp] theorem worV.nm (s : Wor) : nm (worV s) = true := by simp [worV]
@[simp] theorem worV.any (s : Wor) : isAny (worV s) = false := rfl
@[simp] theorem worV.cells (s : Wor) : cellsOf (worV s) = [.str s.name, .int .i64 s.code, .bool s.now, .bool s.hid] := rfl
@[simp] theorem worV.uni (l : List (Wor)) : uni 4 (l.map worV) = true := uni_map fun _ => rfl
@[simp] theorem worV.flat (l : List (Wor)) : flat (l.map worV) = l.flatMap fun s => [.str s.name, .int .i64 s.code, .bool s.now, .bool s.hid] := by rw [flat_map]; rfl
def spoV (s : Spo) : V := .agg [.int .i64 s.addr, .int .i64 s.at_]
@[simp] theorem spoV.gd (s : Spo) : ground (spoV s) = true := by simp [spoV]
@[simp] theorem spoV.gk (s : Spo) (k : Nat) : gk (k + 2) (spoV s) = true := by simp [spoV]
@[simp] theorem spoV.nr (s : Spo) : nrm (spoV s) = spoV s := by simp [spoV]
@[simp] theorem spoV.nrc : nrm ∘ spoV = spoV := funext fun x => spoV.nr x
@[simp] theorem spoV.nm (s : Spo) : nm (spoV s) = true := by simp [spoV]
@[simp] theorem spoV.any (s : Spo) : isAny (spoV s) = false := rfl
@[simp] theorem spoV.cells (s : Spo) : cellsOf (spoV s) = [.int .i64 s.addr, .int .i64 s.at_] := rfl
@[simp] theorem spoV.uni (l : List (Spo)) : uni 2 (l.map spoV) = true := uni_map fun _ => rfl
@[simp] theorem spoV.flat (l : List (Spo)) : flat (l.map spoV) = l.flatMap fun s => [.int .i64 s.addr, .int .i64 s.at_] := by rw [flat_map]; rfl
def runV (s : Rn) : V := .agg [.int .i64 s.at_, byV s.b]
@[simp] theorem runV.gd (s : Rn) : ground (runV s) = true := by simp [runV]
@[simp] theorem runV.gk (s : Rn) (k : Nat) : gk (k + 2) (runV s) = true := by simp [runV]
@[simp] theorem runV.nr (s : Rn) : nrm (runV s) = runV s := by simp [runV]
@[simp] theorem runV.nrc : nrm ∘ runV = runV := funext fun x => runV.nr x
@[simp] theorem runV.nm (s : Rn) : nm (runV s) = true := by simp [runV]
@[simp] theorem runV.any (s : Rn) : isAny (runV s) = false := rfl
@[simp] theorem runV.cells (s : Rn) : cellsOf (runV s) = [.int .i64 s.at_, byV s.b] := rfl
@[simp] theorem runV.uni (l : List (Rn)) : uni 2 (l.map runV) = true := uni_map fun _ => rfl
@[simp] theorem runV.flat (l : List (Rn)) : flat (l.map runV) = l.flatMap fun s => [.int .i64 s.at_, byV s.b] := by rw [flat_map]; rfl
def slosV (l : List Slo) : V := .list (l.map sloV) false
@[simp] theorem slosV.gd (l : List Slo) : ground (slosV l) = true := by simp [slosV]
@[simp] theorem slosV.gk (l : List Slo) (k : Nat) : gk (k + 1) (slosV l) = true := by simp [slosV]
@[simp] theorem slosV.nr (l : List Slo) : nrm (slosV l) = slosV l := by simp [slosV]
@[simp] theorem slosV.nrc : nrm ∘ slosV = slosV := funext fun x => slosV.nr x
@[simp] theorem slosV.nm (l : List Slo) : nm (slosV l) = true := by simp [slosV]
@[simp] theorem slosV.any (l : List Slo) : isAny (slosV l) = false := rfl
@[simp] theorem slosV.cells (l : List Slo) : cellsOf (slosV l) = [slosV l] := rfl
@[simp] theorem slosV.st (l : List Slo) : storable (slosV l) = true := rfl
@[simp] theorem slosV.lf (l : List Slo) : leafy (slosV l) = true := rfl
@[simp] theorem slosV.uni (l : List (List Slo)) : uni 1 (l.map slosV) = true := uni_map fun _ => rfl
@[simp] theorem slosV.flat (l : List (List Slo)) : flat (l.map slosV) = l.map slosV := flat_one fun _ => rfl
@[simp] theorem slosV.sl (l : List Slo) (L : List V → Bool → Prop) (O : Nat → Nat → Nat → Nat → Prop) : wSl (slosV l) L O = L (l.map sloV) false := (rfl)
@[simp] theorem slosV.el (l : List Slo) (H : List Ob) (n : Nat) (K : List V → Nat → Prop) : xElems H n (slosV l) K = xElems H n (.list (l.map sloV) false) K := (rfl)
@[simp] theorem slosV.xs (l : List Slo) (H : List Ob) (n : Nat) (lo hi mx : Option V) (K : V → Prop) : xSlice H (.sl n) (slosV l) lo hi mx K = xSlice H (.sl n) (.list (l.map sloV) false) lo hi mx K := (rfl)
def worsV (l : List Wor) : V := .list (l.map worV) false
@[simp] theorem worsV.gd (l : List Wor) : ground (worsV l) = true := by simp [worsV]
@[simp] theorem worsV.gk (l : List Wor) (k : Nat) : gk (k + 1) (worsV l) = true := by simp [worsV]
@[simp] theorem worsV.nr (l : List Wor) : nrm (worsV l) = worsV l := by simp [worsV]
@[simp] theorem worsV.nrc : nrm ∘ worsV = worsV := funext fun x => worsV.nr x
@[simp] theorem worsV.nm (l : List Wor) : nm (worsV l) = true := by simp [worsV]
@[simp] theorem worsV.any (l : List Wor) : isAny (worsV l) = false := rfl
@[simp] theorem worsV.cells (l : List Wor) : cellsOf (worsV l) = [worsV l] := rfl
@[simp] theorem worsV.st (l : List Wor) : storable (worsV l) = true := rfl
@[simp] theorem worsV.lf (l : List Wor) : leafy (worsV l) = true := rfl
@[simp] theorem worsV.uni (l : List (List Wor)) : uni 1 (l.map worsV) = true := uni_map fun _ => rfl
@[simp] theorem worsV.flat (l : List (List Wor)) : flat (l.map worsV) = l.map worsV := flat_one fun _ => rfl
@[simp] theorem worsV.sl (l : List Wor) (L : List V → Bool → Prop) (O : Nat → Nat → Nat → Nat → Prop) : wSl (worsV l) L O = L (l.map worV) false := (rfl)
@[simp] theorem worsV.el (l : List Wor) (H : List Ob) (n : Nat) (K : List V → Nat → Prop) : xElems H n (worsV l) K = xElems H n (.list (l.map worV) false) K := (rfl)
@[simp] theorem worsV.xs (l : List Wor) (H : List Ob) (n : Nat) (lo hi mx : Option V) (K : V → Prop) : xSlice H (.sl n) (worsV l) lo hi mx K = xSlice H (.sl n) (.list (l.map worV) false) lo hi mx K := (rfl)
def sposV (l : List Spo) : V := .list (l.map spoV) false
@[simp] theorem sposV.gd (l : List Spo) : ground (sposV l) = true := by simp [sposV]
@[simp] theorem sposV.gk (l : List Spo) (k : Nat) : gk (k + 1) (sposV l) = true := by simp [sposV]
@[simp] theorem sposV.nr (l : List Spo) : nrm (sposV l) = sposV l := by simp [sposV]
@[simp] theorem sposV.nrc : nrm ∘ sposV = sposV := funext fun x => sposV.nr x
@[simp] theorem sposV.nm (l : List Spo) : nm (sposV l) = true := by simp [sposV]
@[simp] theorem sposV.any (l : List Spo) : isAny (sposV l) = false := rfl
@[simp] theorem sposV.cells (l : List Spo) : cellsOf (sposV l) = [sposV l] := rfl
@[simp] theorem sposV.st (l : List Spo) : storable (sposV l) = true := rfl
@[simp] theorem sposV.lf (l : List Spo) : leafy (sposV l) = true := rfl
@[simp] theorem sposV.uni (l : List (List Spo)) : uni 1 (l.map sposV) = true := uni_map fun _ => rfl
@[simp] theorem sposV.flat (l : List (List Spo)) : flat (l.map sposV) = l.map sposV := flat_one fun _ => rfl
@[simp] theorem sposV.sl (l : List Spo) (L : List V → Bool → Prop) (O : Nat → Nat → Nat → Nat → Prop) : wSl (sposV l) L O = L (l.map spoV) false := (rfl)
@[simp] theorem sposV.el (l : List Spo) (H : List Ob) (n : Nat) (K : List V → Nat → Prop) : xElems H n (sposV l) K = xElems H n (.list (l.map spoV) false) K := (rfl)
@[simp] theorem sposV.xs (l : List Spo) (H : List Ob) (n : Nat) (lo hi mx : Option V) (K : V → Prop) : xSlice H (.sl n) (sposV l) lo hi mx K = xSlice H (.sl n) (.list (l.map spoV) false) lo hi mx K := (rfl)
def runsV (l : List Rn) : V := .list (l.map runV) false
@[simp] theorem runsV.gd (l : List Rn) : ground (runsV l) = true := by simp [runsV]
@[simp] theorem runsV.gk (l : List Rn) (k : Nat) : gk (k + 1) (runsV l) = true := by simp [runsV]
@[simp] theorem runsV.nr (l : List Rn) : nrm (runsV l) = runsV l := by simp [runsV]
@[simp] theorem runsV.nrc : nrm ∘ runsV = runsV := funext fun x => runsV.nr x
@[simp] theorem runsV.nm (l : List Rn) : nm (runsV l) = true := by simp [runsV]
@[simp] theorem runsV.any (l : List Rn) : isAny (runsV l) = false := rfl
@[simp] theorem runsV.cells (l : List Rn) : cellsOf (runsV l) = [runsV l] := rfl
@[simp] theorem runsV.st (l : List Rn) : storable (runsV l) = true := rfl
@[simp] theorem runsV.lf (l : List Rn) : leafy (runsV l) = true := rfl
@[simp] theorem runsV.uni (l : List (List Rn)) : uni 1 (l.map runsV) = true := uni_map fun _ => rfl
@[simp] theorem runsV.flat (l : List (List Rn)) : flat (l.map runsV) = l.map runsV := flat_one fun _ => rfl
@[simp] theorem runsV.sl (l : List Rn) (L : List V → Bool → Prop) (O : Nat → Nat → Nat → Nat → Prop) : wSl (runsV l) L O = L (l.map runV) false := (rfl)
@[simp] theorem runsV.el (l : List Rn) (H : List Ob) (n : Nat) (K : List V → Nat → Prop) : xElems H n (runsV l) K = xElems H n (.list (l.map runV) false) K := (rfl)
@[simp] theorem runsV.xs (l : List Rn) (H : List Ob) (n : Nat) (lo hi mx : Option V) (K : V → Prop) : xSlice H (.sl n) (runsV l) lo hi mx K = xSlice H (.sl n) (.list (l.map runV) false) lo hi mx K := (rfl)
structure St where
  mem : List Int
  data : List Int
  ret : List Slo
  ctl : List Int
  words : List Wor
  spots : List Spo
  out : List Int
  ip : Int
  here : Int
  at_ : Int
  tok : Int
  in_ : Int
  err : Int
  comp : Bool
  halt : Bool
deriving Inhabited
structure De where
  mem : List Rn
  dk : Int
  dt : List Int
  rk : Int
  rt : List Slo
  ck : Int
  ct : List Int
  wk : Int
  wt : List Wor
  sk : Int
  st : List Spo
  out : Int
  r0 : Int
  r1 : Int
  r2 : Int
  r3 : Int
  r4 : Int
  r5 : Int
  comp : Bool
  halt : Bool
deriving Inhabited
def stV (s : St) : V := .agg [byV s.mem, inV s.data, slosV s.ret, inV s.ctl, worsV s.words, sposV s.spots, byV s.out, .int .i64 s.ip, .int .i64 s.here, .int .i64 s.at_, .int .i64 s.tok, .int .i64 s.in_, .int .i64 s.err, .bool s.comp, .bool s.halt]
@[simp] theorem stV.gd (s : St) : ground (stV s) = true := by simp [stV]
@[simp] theorem stV.gk (s : St) (k : Nat) : gk (k + 2) (stV s) = true := by simp [stV]
@[simp] theorem stV.nr (s : St) : nrm (stV s) = stV s := by simp [stV]
@[simp] theorem stV.nrc : nrm ∘ stV = stV := funext fun x => stV.nr x
@[simp] theorem stV.nm (s : St) : nm (stV s) = true := by simp [stV]
@[simp] theorem stV.any (s : St) : isAny (stV s) = false := rfl
@[simp] theorem stV.cells (s : St) : cellsOf (stV s) = [byV s.mem, inV s.data, slosV s.ret, inV s.ctl, worsV s.words, sposV s.spots, byV s.out, .int .i64 s.ip, .int .i64 s.here, .int .i64 s.at_, .int .i64 s.tok, .int .i64 s.in_, .int .i64 s.err, .bool s.comp, .bool s.halt] := rfl
@[simp] theorem stV.uni (l : List (St)) : uni 15 (l.map stV) = true := uni_map fun _ => rfl
@[simp] theorem stV.flat (l : List (St)) : flat (l.map stV) = l.flatMap fun s => [byV s.mem, inV s.data, slosV s.ret, inV s.ctl, worsV s.words, sposV s.spots, byV s.out, .int .i64 s.ip, .int .i64 s.here, .int .i64 s.at_, .int .i64 s.tok, .int .i64 s.in_, .int .i64 s.err, .bool s.comp, .bool s.halt] := by rw [flat_map]; rfl
def deV (d : De) : V := .agg [runsV d.mem, .int .i64 d.dk, inV d.dt, .int .i64 d.rk, slosV d.rt, .int .i64 d.ck, inV d.ct, .int .i64 d.wk, worsV d.wt, .int .i64 d.sk, sposV d.st, .int .i64 d.out, .int .i64 d.r0, .int .i64 d.r1, .int .i64 d.r2, .int .i64 d.r3, .int .i64 d.r4, .int .i64 d.r5, .bool d.comp, .bool d.halt]
@[simp] theorem deV.gd (d : De) : ground (deV d) = true := by simp [deV]
@[simp] theorem deV.gk (d : De) (k : Nat) : gk (k + 2) (deV d) = true := by simp [deV]
@[simp] theorem deV.nr (d : De) : nrm (deV d) = deV d := by simp [deV]
@[simp] theorem deV.nrc : nrm ∘ deV = deV := funext fun x => deV.nr x
@[simp] theorem deV.nm (d : De) : nm (deV d) = true := by simp [deV]
@[simp] theorem deV.any (d : De) : isAny (deV d) = false := rfl
@[simp] theorem deV.cells (d : De) : cellsOf (deV d) = [runsV d.mem, .int .i64 d.dk, inV d.dt, .int .i64 d.rk, slosV d.rt, .int .i64 d.ck, inV d.ct, .int .i64 d.wk, worsV d.wt, .int .i64 d.sk, sposV d.st, .int .i64 d.out, .int .i64 d.r0, .int .i64 d.r1, .int .i64 d.r2, .int .i64 d.r3, .int .i64 d.r4, .int .i64 d.r5, .bool d.comp, .bool d.halt] := rfl
@[simp] theorem deV.uni (l : List (De)) : uni 20 (l.map deV) = true := uni_map fun _ => rfl
@[simp] theorem deV.flat (l : List (De)) : flat (l.map deV) = l.flatMap fun d => [runsV d.mem, .int .i64 d.dk, inV d.dt, .int .i64 d.rk, slosV d.rt, .int .i64 d.ck, inV d.ct, .int .i64 d.wk, worsV d.wt, .int .i64 d.sk, sposV d.st, .int .i64 d.out, .int .i64 d.r0, .int .i64 d.r1, .int .i64 d.r2, .int .i64 d.r3, .int .i64 d.r4, .int .i64 d.r5, .bool d.comp, .bool d.halt] := by rw [flat_map]; rfl
end Fz.D
set_option maxRecDepth 100000
namespace Fz.D
open Go
def i64 (a : Int) : Prop := -9223372036854775808 ≤ a ∧ a ≤ 9223372036854775807
def nmB (s : ByteArray) : List Int := s.data.toList.map fun b => (b.toNat : Int)
def inQ (a b : Int) : Bool := decide (a = b)
def sloQ (a b : Slo) : Bool := decide (a.v = b.v) && (a.call == b.call)
def worQ (a b : Wor) : Bool := decide (a.name = b.name) && (decide (a.code = b.code) && ((a.now == b.now) && (a.hid == b.hid)))
def spoQ (a b : Spo) : Bool := decide (a.addr = b.addr) && decide (a.at_ = b.at_)
structure StLen (s : St) : Prop where
  mem : s.mem.length ≤ 100000
  data : s.data.length ≤ 100000
  ret : s.ret.length ≤ 100000
  ctl : s.ctl.length ≤ 100000
  words : s.words.length ≤ 100000
  spots : s.spots.length ≤ 100000
  out : s.out.length ≤ 100000000
def by8 (b : List Int) : Prop := ∀ x ∈ b, 0 ≤ x ∧ x < 256
def bstr (b : List Int) : ByteArray := bytesV (b.map (V.int .u8))
def u8f (x : Int) : UInt8 := x.toNat.toUInt8
def fewB (s : St) : Bool := (s.words.take 41).all (fun w => decide (w.name.size ≤ 60)) && (decide (s.mem.length ≤ 600) && (decide (s.data.length ≤ 40) && (decide (s.ret.length ≤ 40) && (decide (s.ctl.length ≤ 200) && (decide (s.words.length ≤ 40) && (decide (s.spots.length ≤ 100) && decide (s.out.length ≤ 200)))))))
structure StTy (s : St) : Prop where
  mem : by8 s.mem
  data : ∀ n ∈ s.data, i64 n
  ret : ∀ x ∈ s.ret, i64 x.v
  ctl : ∀ n ∈ s.ctl, i64 n
  words : ∀ x ∈ s.words, i64 x.code
  spots : ∀ x ∈ s.spots, i64 x.addr ∧ i64 x.at_
  out : by8 s.out
  regs : ∀ n ∈ [s.ip, s.here, s.at_, s.tok, s.in_, s.err], i64 n
def SloT : Ty := .agg [.int .i64, .bool]
def WorT : Ty := .agg [.str, .int .i64, .bool, .bool]
def SpoT : Ty := .agg [.int .i64, .int .i64]
def RnT : Ty := .agg [.int .i64, .sl (.int .u8)]
def StT : Ty := .agg [.sl (.int .u8), .sl (.int .i64), .sl SloT, .sl (.int .i64), .sl WorT, .sl SpoT, .sl (.int .u8), .int .i64, .int .i64, .int .i64, .int .i64, .int .i64, .int .i64, .bool, .bool]
theorem list_of {α : Type} {T : Ty} {f : α → V} {P : α → Prop} (h : ∀ v, HasT T v → ∃ a, v = f a ∧ P a) {v : V} (hv : HasT (.sl T) v) : ∃ l : List α, v = .list (l.map f) false ∧ ∀ a ∈ l, P a := by
  obtain ⟨vs, rfl, hh⟩ := hv
  have : ∃ l : List α, vs = l.map f ∧ ∀ a ∈ l, P a := by
    induction vs with
    | nil => exact ⟨[], rfl, fun a h => by cases h⟩
    | cons v vs ih =>
      obtain ⟨l, rfl, hl⟩ := ih fun x hx => hh x (List.mem_cons_of_mem _ hx)
      obtain ⟨a, rfl, ha⟩ := h v (hh v (List.mem_cons_self ..))
      refine ⟨a :: l, rfl, fun x hx => ?_⟩
      rcases List.mem_cons.1 hx with rfl | hx
      · exact ha
      · exact hl x hx
  obtain ⟨l, rfl, hl⟩ := this
  exact ⟨l, rfl, hl⟩
theorem i64_of {v : V} (h : HasT (.int .i64) v) : ∃ n, v = V.int .i64 n ∧ i64 n := by
  obtain ⟨n, rfl, h1, h2⟩ := h
  exact ⟨n, rfl, h1, h2⟩
end Fz.D
set_option maxRecDepth 100000
namespace Go.Proofs
open Go Go.Shelf Go.RowKit
open Fz (upB upS)
theorem Tryz.blSize : (Tryz.prog.info? 129).map (·.size) = some 2 := by kernel_rfl
theorem Tryz.blLies : liesAt Tryz.prog Tryz.prog.depth 129 (2 / Tryz.prog.cellsOf 129) 0 129 1 = true := by kernel_rfl
theorem Tryz.blByte : (Tryz.prog.info? 5).map (fun i => (i.zero, i.size, i.bytes)) = some (some (.int .u8 0), 1, 1) := by kernel_rfl
set_option maxHeartbeats 1000000 in
theorem Tryz.bl_used (b : Nat) (w : World) (h0 : w.cell? ⟨b, 0, none⟩ = some (.pointer (some ⟨b, 0, none⟩))) :
    Calls Tryz.prog 195 #[.pointer (some ⟨b, 0, none⟩)] w fun e w' => e = .returned (.tuple #[]) ∧ w' = w := by
  obtain ⟨j, hj, _⟩ := Option.map_eq_some_iff.1 Tryz.blSize
  go_enter Tryz.func195, Tryz.ntmps195
  go_wp2
  rw [Lib.run_neq_ptr_same w _ Tryz.underlying127 hj]
  go_wp2
  go_end0
  exact ⟨rfl, rfl⟩
set_option maxHeartbeats 1000000 in
theorem Tryz.bl_fresh (b : Nat) (w : World) (h0 : w.cell? ⟨b, 0, none⟩ = some (.pointer none)) (hsh : w.shape? b = some (129, 2)) (hfz : w.frozen? ⟨b, 0, none⟩ = false) :
    Calls Tryz.prog 195 #[.pointer (some ⟨b, 0, none⟩)] w fun e w' => e = .returned (.tuple #[]) ∧ w' = w.setCell ⟨b, 0, none⟩ (.pointer (some ⟨b, 0, none⟩)) := by
  obtain ⟨j, hj, hjs⟩ := Option.map_eq_some_iff.1 Tryz.blSize
  go_enter Tryz.func195, Tryz.ntmps195
  go_wp2
  rw [Lib.run_to_unsafe w ⟨b, 0, none⟩ Tryz.underlying127 Tryz.underlying210 hj (by rw [hjs]; decide) hsh (Nat.zero_lt_succ 1)]
  simp only [Result.andThen]
  rw [Oper.upon_value]
  go_wp2
  rw [run_callFunc_extern Tryz.func336 (by kernel_rfl) (by kernel_rfl) (by kernel_rfl) (e := Extern.AbiNoEscape.same) (by kernel_rfl)]
  rw [Lib.run_noEscape]
  simp only [Result.andThen]
  rw [Oper.upon_value]
  go_wp2
  rw [Lib.run_from_unsafe w ⟨b, 0, none⟩ Tryz.underlying210 Tryz.underlying127 hj hsh Tryz.blLies]
  simp only [Result.andThen]
  rw [Oper.upon_value]
  go_wp2
  go_end0
  exact ⟨rfl, rfl⟩
theorem Tryz.bl_check (B b : Nat) (bs : List Value) (w : World) (h : Lib.IsBuilder 129 5 B b bs w) :
    Calls Tryz.prog 195 #[.pointer (some ⟨b, 0, none⟩)] w fun e w' => e = .returned (.tuple #[]) ∧ (Lib.BuilderAt 129 5 B b (.pointer (some ⟨b, 0, none⟩)) bs w' ∧ Below B w w') := by
  rcases h with h | h
  · refine (Tryz.bl_fresh b w h.cell0 h.shape h.frozen0).mono ?_
    rintro e w' ⟨rfl, rfl⟩
    exact ⟨rfl, h.used _, (Below.refl B w).setCell (p := ⟨b, 0, none⟩) h.1 _⟩
  · refine (Tryz.bl_used b w h.cell0).mono ?_
    rintro e w' ⟨rfl, rfl⟩
    exact ⟨rfl, h, Below.refl B _⟩
set_option maxHeartbeats 2000000 in
theorem Tryz.bl_write (B b : Nat) (bs : List Value) (c : Int) (w : World) (h : Lib.IsBuilder 129 5 B b bs w) (hlen : bs.length + 1 ≤ 140737488355328) (hBw : B ≤ w.heap.size) :
    Calls Tryz.prog 145 #[.pointer (some ⟨b, 0, none⟩), .int .u8 c] w fun e w' => e = .returned .nilIface ∧ (Lib.BuilderAt 129 5 B b (.pointer (some ⟨b, 0, none⟩)) (bs ++ [.int .u8 c]) w' ∧ Below B w w') := by
  obtain ⟨i0, hi, hz0, hz1, hz2⟩ := info_parts Tryz.blByte
  go_enter Tryz.func145, Tryz.ntmps145
  go_wp2_with (go_at_call 195; refine (Tryz.bl_check B b bs _ h).mono ?_)
  rintro e w1 ⟨rfl, h1, hb1⟩
  obtain ⟨hB, v, hbk, hown, hne⟩ := h1
  have c0 : w1.cell? ⟨b, 0, none⟩ = some (.pointer (some ⟨b, 0, none⟩)) := by rw [Lib.cell_of_heap hbk]; rfl
  have c1 : w1.cell? ⟨b, 1, none⟩ = some v := by rw [Lib.cell_of_heap hbk]; rfl
  go_wp2_with (at_builtin; refine wpList_append_own _ rfl _ _ 38 rfl B 5 i0 (.int .u8 0) 1 1 Tryz.underlying38 hi hz0 hz1 hz2 rfl (by decide) _ _ _ rfl (hown.alloc _) ⟨w1.heap.size, 0, none⟩ 1 1 [.int .u8 c] rfl rfl ?c1 ?c2 ?c3 ?c4 ?c5 ?_)
  case c1 =>
    intro j u hj
    match j, hj with
    | 0, hj => simp at hj; subst hj; simp [Addr.add]
  case c2 => intro u hu; simp at hu; subst hu; rfl
  case c3 => unfold maxLen; omega
  case c4 => omega
  case c5 => have := hb1.size; simp; omega
  intro v' w2 hown' hgrow _
  have hlt : b < w1.heap.size := by
    rcases Nat.lt_or_ge b w1.heap.size with h' | h'
    · exact h'
    · simp [Array.getElem?_eq_none h'] at hbk
  have hb2 : w2.heap[b]? = some (.cells #[.pointer (some ⟨b, 0, none⟩), v] 129 (0, 0)) := by
    rw [hgrow.block b (by simp; omega) (fun e => hne e.symm), Lib.alloc_old w1 _ b hlt]
    exact hbk
  have d0 : w2.cell? ⟨b, 0, none⟩ = some (.pointer (some ⟨b, 0, none⟩)) := by rw [Lib.cell_of_heap hb2]; rfl
  have d1 : w2.cell? ⟨b, 1, none⟩ = some v := by rw [Lib.cell_of_heap hb2]; rfl
  have f1 : w2.frozen? ⟨b, 1, none⟩ = false := Lib.frozen_of_heap hb2 1
  obtain ⟨g, cap, rfl⟩ : ∃ g cap, v' = .slice (some ⟨g, 0, none⟩) (bs.length + 1) cap := by
    rcases hown'.2 with ⟨_, h0⟩ | ⟨g, cap, cur, hv, _⟩
    · omega
    · exact ⟨g, cap, hv⟩
  go_wp2
  go_ret
  refine ⟨rfl, ?_, ?_⟩
  · exact Lib.BuilderAt.put (T := 129) (e := 5) hB hb2 (bs' := bs ++ [.int .u8 c]) (by simpa using hown') (by decide)
  · exact ((hb1.alloc (by have := hb1.size; omega) _).grown hgrow (by have := hb1.size; simp; omega) (fun k hk => (hown.lt k hk).1)).setCell (p := ⟨b, 1, none⟩) hB _
def Tryz.blRen : Go.Shelf.Ren := ⟨fun | 169 => 146 | n => n, fun | 70 => 127 | 9 => 9 | 0 => 0 | 72 => 129 | 37 => 38 | 127 => 173 | 3 => 3 | 5 => 5 | n => n, fun | n => n⟩
theorem Tryz.blLays : Go.Proofs.Lays.n169 Tryz.prog Tryz.blRen := {
  mixed := by kernel_rfl
  f169 := Tryz.func146.trans (congrArg some (by kernel_rfl))
  t0 := Tryz.underlying0
  a0 := Tryz.isAgg0
  z0 := Tryz.sizeOf0
  v0 := Tryz.zeroValue0
  t3 := Tryz.underlying3
  a3 := Tryz.isAgg3
  z3 := Tryz.sizeOf3
  v3 := Tryz.zeroValue3
  t9 := Tryz.underlying9
  a9 := Tryz.isAgg9
  z9 := Tryz.sizeOf9
  v9 := Tryz.zeroValue9
  t37 := Tryz.underlying38
  a37 := Tryz.isAgg38
  z37 := Tryz.sizeOf38
  v37 := Tryz.zeroValue38
  t70 := Tryz.underlying127
  a70 := Tryz.isAgg127
  z70 := Tryz.sizeOf127
  v70 := Tryz.zeroValue127
  t72 := Tryz.underlying129
  a72 := Tryz.isAgg129
  z72 := Tryz.sizeOf129
  v72 := Tryz.zeroValue129
  t127 := Tryz.underlying173
  a127 := Tryz.isAgg173
  z127 := Tryz.sizeOf173
  v127 := Tryz.zeroValue173 }
theorem Tryz.blExtra : Builder.Extra Tryz.prog Tryz.blRen := {
  sizeBuilder := by kernel_rfl
  liesBuilder := by kernel_rfl
  t5 := Tryz.underlying5
  a5 := Tryz.isAgg5
  z5 := Tryz.sizeOf5
  v5 := Tryz.zeroValue5
  infoByte := by kernel_rfl
  cellsByte := by kernel_rfl
  sizeByte := by kernel_rfl
  neB5 := by decide }
theorem Tryz.bl_string (B b : Nat) (l : List UInt8) (w : World) (h : Lib.IsBuilder 129 5 B b (Lib.byteCells l) w) (hBw : B ≤ w.heap.size) :
    Calls Tryz.prog 146 #[.pointer (some ⟨b, 0, none⟩)] w fun e w' => e = .returned (.string ⟨l.toArray⟩) ∧ Below B w w' := Any.Builder_String_any Tryz.blLays Tryz.blExtra B b l w h hBw
set_option maxHeartbeats 4000000 in
theorem Tryz.bl_cap (s : ByteArray) (B k : Nat) (hk : k < s.size) (w : World) (hc : w.cell? ⟨B, 0, none⟩ = some (.string s)) :
    Calls Tryz.prog 144 #[.int .i64 k, .pointer (some ⟨B, 0, none⟩)] w fun e w' => e = .returned (.int .u8 (upB s[k]).toNat) ∧ w' = w := by
  go_enter Tryz.func144, Tryz.ntmps144
  go_wp2
  · rename_i h1 h2
    go_ret
    refine ⟨?_, rfl⟩
    show Ending.returned (Value.int .u8 ((s[k].toNat : Int) - 97 + 65)) = _
    unfold upB
    rw [if_pos ⟨by omega, by omega⟩, UInt8.toNat_sub_of_le _ _ (by rw [UInt8.le_iff_toNat_le]; show 32 ≤ _; omega)]
    rw [show ((s[k].toNat - UInt8.toNat 32 : Nat) : Int) = (s[k].toNat : Int) - 97 + 65 from by show ((s[k].toNat - 32 : Nat) : Int) = _; omega]
  · rename_i h1 h2
    go_ret
    refine ⟨?_, rfl⟩
    show Ending.returned (Value.int .u8 (s[k].toNat : Int)) = _
    unfold upB
    rw [if_neg (by omega)]
  · rename_i h1
    go_ret
    refine ⟨?_, rfl⟩
    show Ending.returned (Value.int .u8 (s[k].toNat : Int)) = _
    unfold upB
    rw [if_neg (by omega)]
set_option maxHeartbeats 4000000 in
theorem Tryz.bl_fold (s : ByteArray) (w : World) (hs : s.size ≤ 35184372088832) :
    Calls Tryz.prog 41 #[.string s] w fun e w' => e = .returned (.string (upS s)) ∧ Below w.heap.size w w' := by
  go_enter Tryz.func41, Tryz.ntmps41
  go_wp2
  go_loopw [9] (fun i wr => ∃ k : Nat, k ≤ s.size ∧ i = .int .i64 k ∧ Lib.IsBuilder 129 5 (w.heap.size + 1) (w.heap.size + 1) (Lib.byteCells ((s.data.toList.take k).map upB)) wr ∧ wr.heap[w.heap.size]? = some (.cells #[.string s] 9 (0, 0)) ∧ Below w.heap.size w wr ∧ w.heap.size + 1 < wr.heap.size) (fun i _ => s.size - (intOf i).toNat)
  case atStart =>
    have e0 : (w.alloc (Obj.cells #[Value.string s] 9)).heap.size = w.heap.size + 1 := by simp
    have hf := Lib.fresh_isBuilder 129 5 (w.alloc (Obj.cells #[Value.string s] 9))
    rw [e0] at hf
    refine ⟨0, by omega, rfl, hf, ?_, ((Below.refl _ w).alloc (Nat.le_refl _) _).alloc (by simp) _, by simp⟩
    rw [Lib.alloc_old _ _ _ (by simp)]
    exact heap_alloc_new w _
  case round =>
    obtain ⟨k, hk, rfl, hI, hb, hbw, hsz⟩ := hrel
    have c0 : wr.cell? ⟨w.heap.size, 0, none⟩ = some (.string s) := by rw [Lib.cell_of_heap hb]; rfl
    have sz : s.data.toList.length = s.size := by rw [Array.length_toList]; rfl
    have hlen : (Lib.byteCells ((s.data.toList.take k).map upB)).length + 1 ≤ 140737488355328 := by
      rw [Lib.byteCells_length, List.length_map, List.length_take, sz]; omega
    by_cases hp : k < s.size
    · go_wp2_with (first
        | (go_at_call 144; refine (Tryz.bl_cap s w.heap.size k hp _ c0).mono ?_; rintro e w1 ⟨rfl, rfl⟩)
        | (go_at_call 145; refine (Tryz.bl_write (w.heap.size + 1) (w.heap.size + 1) _ _ _ hI hlen (by omega)).mono ?_; rintro e w2 ⟨rfl, h1, b1⟩))
      go_roundw
      case rel =>
        refine ⟨k + 1, by omega, by go_num, ?_, by rw [b1.block _ (by omega)]; exact hb, hbw.trans (b1.mono (by omega)), ?_⟩
        · have e1 : (s.data.toList.take (k + 1)).map upB = (s.data.toList.take k).map upB ++ [upB s[k]] := by
            rw [List.take_add_one, List.map_append]
            have : s.data.toList[k]? = some s[k] := by rw [Array.getElem?_toList]; exact Array.getElem?_eq_getElem hp
            rw [this]; rfl
          rw [e1, Lib.byteCells_append]; exact .inr h1
        · have := b1.size; omega
      case measure =>
        show s.size - ((k : Int) + 1).toNat < s.size - (k : Int).toNat
        omega
    · obtain rfl : k = s.size := by omega
      go_wp2_with (go_at_call 146; refine (Tryz.bl_string (w.heap.size + 1) (w.heap.size + 1) _ _ hI (by omega)).mono ?_; rintro e w1 ⟨rfl, b1⟩)
      go_ret
      refine ⟨?_, hbw.trans (b1.mono (by omega))⟩
      rw [List.take_of_length_le (by first | (rw [List.length_map, sz]; exact Nat.le_refl _) | (rw [sz]; exact Nat.le_refl _))]
      rfl
end Go.Proofs
set_option maxRecDepth 100000
namespace Fz.D
open Go Go.Proofs Go.Proofs.YtagdmfgnnhlakaaGreatDoor Go.ChangeShapes Go.WideShapes Go.ChangeAt Go.RowKit
def nr (af : AFun) : Bool := !hasR af.code && match af.dfr with
  | some (pre, _, _, r) => pre.all (fun c => !hasR c) && !hasR r
  | none => true
theorem rOkF_of {q : AP} {af : AFun} (h : nr af = true) : rOkF q af := by
  unfold nr at h
  rw [Bool.and_eq_true, Bool.not_eq_true'] at h
  refine ⟨rOk_of _ h.1, fun x hx => ?_⟩
  obtain ⟨pre, a, b, r⟩ := x
  rw [hx] at h
  simp only [Bool.and_eq_true, List.all_eq_true, Bool.not_eq_true'] at h
  exact ⟨fun c hc => rOk_of _ (h.2.1 c hc), rOk_of _ h.2.2⟩
theorem tab_nr : tab.all (fun x => nr x.2) = true := by kernel_rfl
theorem rng_ok {q : AP} (f : FuncId) (af : AFun) (h : lk tab f = some af) : rOkF q af := rOkF_of (List.all_eq_true.1 tab_nr _ (lk_mem _ _ _ h))
theorem lift_ok {P : Program} {f : FuncId} {g : List V → Option V} (hg : ∀ args v, g args = some v → ∀ (K : Kn) (β : Bi) (H : List Ob) (w : World) (cargs : Array Value), Inv K β H w → LR K β args cargs.toList → DoesOk P f cargs w (CallPost K β H w (.ret v) H))
    (args : List V) (H : List Ob) (v : V) (H' : List Ob) (h : liftP g args H = some (v, H')) (K : Kn) (β : Bi) (w : World) (cargs : Array Value) (hI : Inv K β H w) (ha : LR K β args cargs.toList) : DoesOk P f cargs w (CallPost K β H w (.ret v) H') := by
  obtain ⟨u, hu, h⟩ := Option.map_eq_some_iff.1 h
  cases h
  exact hg _ _ hu K β H w cargs hI ha
theorem fold_ok (args : List V) (v : V) (h : foldP args = some v) (K : Kn) (β : Bi) (H : List Ob) (w : World) (cargs : Array Value) (hI : Inv K β H w) (ha : LR K β args cargs.toList) : DoesOk Tryz.prog 41 cargs w (CallPost K β H w (.ret v) H) := by
  unfold foldP at h
  split at h
  · rename_i s
    split at h
    · rename_i hs
      cases h
      obtain ⟨cs⟩ := cargs
      obtain ⟨c, r, e, h1, h2⟩ := ha.head
      obtain rfl : r = [] := List.eq_nil_of_length_eq_zero h2.1.symm
      have e : cs = [c] := e
      subst e
      cases h1
      exact walked_ok Tryz.func41 (by kernel_rfl) rfl (by decide) hI (Tryz.bl_fold s w hs) (.str _)
    · cases h
  · cases h
theorem prim0_ok (f : FuncId) (g : List V → List Ob → Option (V × List Ob)) (h : prim0 f = some g) (args : List V) (H : List Ob) (v : V) (H' : List Ob) (hv : g args H = some (v, H')) (K : Kn) (β : Bi) (w : World) (cargs : Array Value) (hI : Inv K β H w) (ha : LR K β args cargs.toList) :
    DoesOk Tryz.prog f cargs w (CallPost K β H w (.ret v) H') := by
  unfold prim0 at h
  split at h
  · rename_i e; subst e; cases h; exact lift_ok fold_ok _ _ _ _ hv K β w cargs hI ha
  split at h
  · rename_i e; subst e; cases h; exact lift_ok (fun a v h K β H w c => idx_ok Tryz.func378 (by kernel_rfl) (by kernel_rfl) (by kernel_rfl) (fun a => by kernel_rfl) (by decide) a v h K β H w c) _ _ _ _ hv K β w cargs hI ha
  split at h
  · rename_i e; subst e; cases h; exact lift_ok (fun a v h K β H w c hI ha => prim_ok Tryz.func321 (by kernel_rfl) (by kernel_rfl) (by kernel_rfl) (fun a => by kernel_rfl) a v h K β H w c hI ha) _ _ _ _ hv K β w cargs hI ha
  split at h
  · rename_i e; subst e; cases h; exact lift_ok (fun a v h K β H w c hI ha => prim_ok Tryz.func184 (by kernel_rfl) (by kernel_rfl) (by kernel_rfl) (fun a => by kernel_rfl) a v h K β H w c hI ha) _ _ _ _ hv K β w cargs hI ha
  split at h
  · rename_i e; subst e; cases h; exact lift_ok (fun a v h K β H w c hI ha => prim_ok Tryz.func322 (by kernel_rfl) (by kernel_rfl) (by kernel_rfl) (fun a => by kernel_rfl) a v h K β H w c hI ha) _ _ _ _ hv K β w cargs hI ha
  split at h
  · rename_i e; subst e; cases h; exact lift_ok (fun a v h K β H w c hI ha => prim_ok Tryz.func323 (by kernel_rfl) (by kernel_rfl) (by kernel_rfl) (fun a => by kernel_rfl) a v h K β H w c hI ha) _ _ _ _ hv K β w cargs hI ha
  split at h
  · rename_i e; subst e; cases h; exact lift_ok (fun a v h K β H w c hI ha => prim_ok Tryz.func328 (by kernel_rfl) (by kernel_rfl) (by kernel_rfl) (fun a => by kernel_rfl) a v h K β H w c hI ha) _ _ _ _ hv K β w cargs hI ha
  cases h
theorem apOk0 : APOk Tryz.prog p0 where
  mixed := by kernel_rfl
  fn f af h := fn_ok f af h
  prim f g h args H v H' hv K β w cargs _ hI ha := prim0_ok f g h args H v H' hv K β w cargs hI ha
  rng f af h := rng_ok f af h
  bods := bods_ok
theorem laid_ok {l : List (List UInt8)} {f : FuncId} {n : Nat} (hn : l.length = n) (h : WFun p0 f [] [] fun r H => r = .ret (.own 0 0 n 1) ∧ H = [.live (l.map wV)]) (args : List V) (H : List Ob) (v : V) (H' : List Ob) (hv : laidP l args H = some (v, H')) : H = [] ∧ ∃ k, acall p0 k f args [] = some (.ret v, H') := by
  unfold laidP at hv
  split at hv
  · cases hv
    obtain ⟨k, r, G, h1, rfl, rfl⟩ := h
    exact ⟨rfl, k, by rw [h1, hn]⟩
  · cases hv
theorem apOk1 : APOk Tryz.prog p1 where
  mixed := by kernel_rfl
  fn f af h := fn_ok f af h
  prim f g h args H v H' hv K β w cargs hL hI ha := by
    have h : prim1 f = some g := h
    unfold prim1 at h
    split at h
    · rename_i e; subst e; cases h; exact proved_own apOk0 (laid_ok (by kernel_rfl) list_run) args H v H' hv K β w cargs hL hI ha
    exact prim0_ok f g h args H v H' hv K β w cargs hI ha
  rng f af h := rng_ok f af h
  bods := bods_ok
theorem apOk : APOk Tryz.prog p := apOk1
theorem bulkOk : Bulk (fun {_} => Rows.uptoBulk) (fun {_} => Rows.uptoBulkAll) where
  lit b := by simp [Rows.uptoBulk]
  pos d := by
    cases d with
    | lit l => cases l <;> simp [Rows.uptoBulk]
    | _ => simp [Rows.uptoBulk]
  agg l := by simp [Rows.uptoBulk]
  slice l m := by simp [Rows.uptoBulk]
  nil := by simp [Rows.uptoBulkAll]
  cons d l := by simp [Rows.uptoBulkAll]
theorem own : ownKnob Tryz.prog.godebug = none := by kernel_rfl
theorem laidOut : laidOutB Tryz.prog = true := by kernel_rfl
theorem frz_bool {k : Nat} {u u' : V} {b : Bool} {H H' : List Ob} (h : freezeV k u H = some (u', H')) (hn : nrm u' = .bool b) : u = .bool b := by
  cases k with
  | zero => cases h
  | succ k =>
    have hu : ∀ x, nrm x = .bool b → x = .bool b := by
      intro x hx
      cases x <;> first | (rw [nr_bool] at hx; exact hx) | (simp [nrm] at hx)
    have := hu u' hn
    subst this
    cases u with
    | bool c => simp [freezeV] at h; rw [h.1]
    | own a b c d => exfalso; simp only [freezeV] at h; repeat' split at h
                     all_goals first | (cases h; done) | simp at h
    | mref a => exfalso; simp only [freezeV] at h; repeat' split at h
                all_goals first | (cases h; done) | simp at h
    | agg l => simp only [freezeV] at h; obtain ⟨x, _, h⟩ := Option.map_eq_some_iff.1 h; simp at h
    | tuple l => simp only [freezeV] at h; obtain ⟨x, _, h⟩ := Option.map_eq_some_iff.1 h; simp at h
    | _ => simp [freezeV] at h
theorem done {f : FuncId} {args : List V} (h : Comes p f args (.bool true)) (hi : p.inlY f = false) : ∃ n H', acall p n f args [] = some (.ret (.bool true), H') := by
  obtain ⟨_, _, _, n, u, H', h3, h4⟩ := h
  rcases h4 with ⟨h4, rfl⟩ | ⟨_, u', H'', h5, h6⟩
  · rw [hi] at h4; cases h4
  · exact ⟨n, H', by rw [h3, frz_bool h5 h6]⟩
end Fz.D
set_option maxRecDepth 100000
namespace Go.Proofs.YtagdmfgnnhlakaaGreatDoor
open Fz Fz.D Go.ChangeShapes Go.WideShapes Go.ChangeAt Go.RowKit
theorem gTab : Tryz.prog.globalNamed "strings.asciiSpace" = some 0 := by kernel_rfl
theorem gTabType : (Tryz.prog.globals[0]?).map (·.type) = some 170 := by kernel_rfl
theorem cellsTab : Tryz.prog.cellsOf 170 = 256 := by kernel_rfl
theorem cells8 : Tryz.prog.cellsOf 5 = 1 := by kernel_rfl
theorem tab_data : (Rows.laid_strings_asciiSpace : DataW Unit) = Lib.tabData .u8 asciiN := by kernel_rfl
theorem glob_ok {W : World} (hL : laidMet Tryz.prog (("strings.asciiSpace", Lib.tabData .u8 asciiN) :: []) W) : GlobW W := by
  have t : Lib.TabIs Tryz.prog W "strings.asciiSpace" .u8 asciiN := Lib.tabIs_of_head (rest := []) gTab gTabType Tryz.underlying170 Tryz.underlying5 cells8 cellsTab hL
  intro g l hg
  unfold globs at hg
  split at hg
  · rename_i e
    subst e
    cases hg
    have hc : ∀ i, i < 256 → W.cell? ⟨0, i, none⟩ = some (.int .u8 (asciiN.getD i 0)) := fun i hi => t.cell gTab i (by rw [show asciiN.length = 256 from by kernel_rfl]; exact hi)
    obtain ⟨_, cs, e, fr, h1, h2⟩ := cell_block (hc 255 (by omega))
    have h1 : W.heap[0]? = some (.cells cs e fr) := h1
    have hsz : 255 < cs.size := (Array.getElem?_eq_some_iff.1 (show cs[255]? = _ from h2)).1
    refine ⟨cs, e, fr, h1, by rw [List.length_map, show asciiN.length = 256 from by kernel_rfl]; omega, fun i v hv => ?_⟩
    rw [List.getElem?_map, Option.map_eq_some_iff] at hv
    obtain ⟨n, hn, rfl⟩ := hv
    refine ⟨.u8, n, rfl, ?_⟩
    have hi : i < 256 := by rw [← show asciiN.length = 256 from by kernel_rfl]; exact (List.getElem?_eq_some_iff.1 hn).1
    obtain ⟨_, cs', e', fr', h3, h4⟩ := cell_block (hc i hi)
    have h3 : W.heap[0]? = some (.cells cs' e' fr') := h3
    rw [h1] at h3
    cases h3
    have h4 : cs[i]? = some (.int .u8 (asciiN.getD i 0)) := h4
    rw [Array.getD_eq_getD_getElem?, h4, List.getD_eq_getElem?_getD, hn]
    rfl
  · cases hg
def seatLaid : List (String × DataW Unit) := [("unicode.White_Space", Rows.laid_unicode_White_Space), ("strings.asciiSpace", Rows.laid_strings_asciiSpace)]
theorem glob_seat {W : World} (hL : laidMetH Tryz.prog seatLaid W) : GlobW W := by
  rw [MakeChecks.laidMetH_plain _ _ _ (by kernel_rfl)] at hL
  have h := hL.filter fun x => x.1 == "strings.asciiSpace"
  refine glob_ok ?_
  rw [← tab_data]
  exact h
theorem door_met (os : Os) (args : Array Value) : laidMetH Tryz.prog seatLaid ((World.doorLaid Tryz.prog 400 os).forCall (fun _ _ => 0) ⟨#[], args, []⟩).memory :=
  laidMetH_of_parts3 (fuel := 8) (laidMet_of_run' 8 (by kernel_rfl) (by kernel_rfl)) (by kernel_rfl) (by kernel_rfl)
end Go.Proofs.YtagdmfgnnhlakaaGreatDoor
set_option maxRecDepth 100000
namespace Fz.D
open Go
def nameF (op : Int) : ByteArray := if 1 ≤ op ∧ op ≤ 137 then ⟨(opsL[op.toNat - 1]?.getD []).toArray⟩ else ⟨#[]⟩
end Fz.D
set_option maxRecDepth 100000
namespace Fz.D
open Go
def madeF (f : FuncId) (args : List V) : Option V := (acall p 1000 f args []).bind fun x => match x.1 with
  | .ret u => (freezeV depthF u x.2).map fun y => nrm y.1
  | .panic _ => none
theorem Comes_made {f : FuncId} {args : List V} {v : V} (h : madeF f args = some v) (ha : args.all gr = true) (hv : gr v = true) (hn : args.all nm = true) (hi : p.inlY f = false) : Comes p f args v := by
  unfold madeF at h
  obtain ⟨⟨r, H⟩, h1, h2⟩ := Option.bind_eq_some_iff.1 h
  cases r with
  | ret u =>
    obtain ⟨⟨u', H'⟩, h3, h4⟩ := Option.map_eq_some_iff.1 h2
    exact ⟨ha, hv, by rw [hn, Bool.or_true], 1000, u, H, h1, .inr ⟨hi, u', H', h3, h4⟩⟩
  | panic u => cases h2
end Fz.D
set_option maxRecDepth 100000
namespace Fz.D
open Go
def thrown (e : Int) : V := .iface 67 (.int .i64 e)
theorem aMust_0 {H : List Ob} {Q : CR → List Ob → Prop} (hq : Q (.ret (.tuple [])) H) : xCall p 74 [.int .i64 0] H Q := by
  refine WCall_inl (ids := []) rfl rfl ?_
  refine WFun_of w74 rfl rfl k74 ?_
  simp -dsimp [w74, backH, setAll, renR, crV, refs, refsL, renL, ren, hq]
theorem aMust_x {e : Int} (he : e ≠ 0) {H : List Ob} {Q : CR → List Ob → Prop} (hq : Q (.panic (thrown e)) H) : xCall p 74 [.int .i64 e] H Q := by
  refine WCall_inl (ids := []) rfl rfl ?_
  refine WFun_of w74 rfl rfl k74 ?_
  unfold thrown at hq
  simp -dsimp [w74, backH, setAll, renR, crV, refs, refsL, renL, ren, he, hq]
theorem aIs_t {e : Int} {H : List Ob} {Q : CR → List Ob → Prop} (hq : Q (.ret (.tuple [])) H) : xCall p 34 [.bool true, .int .i64 e] H Q := by
  refine WCall_inl (ids := []) rfl rfl ?_
  refine WFun_of w34 rfl rfl k34 ?_
  simp -dsimp [w34, backH, setAll, renR, crV, refs, refsL, renL, ren, hq]
theorem aIs_f {e : Int} (he : e ≠ 0) {H : List Ob} {Q : CR → List Ob → Prop} (hq : Q (.panic (thrown e)) H) : xCall p 34 [.bool false, .int .i64 e] H Q := by
  refine WCall_inl (ids := []) rfl rfl ?_
  refine WFun_of w34 rfl rfl k34 ?_
  simp -dsimp [w34, renL, ren]
  refine aMust_x he ?_
  simp [thrown, backH, setAll, renR, crV, refs, refsL, renL, ren]
  exact hq
theorem aPop_s {l : List Int} (hl : l.length ≤ 100000) : Comes p 167 [inV l, .int .i64 1] (if l = [] then .tuple [inV [], inV [], .int .i64 (-4)] else .tuple [inV (l.take (l.length - 1)), inV (l.drop (l.length - 1)), .int .i64 0]) := by
  refine Comes_of w167 rfl rfl k167 ?_ ?_ ?_ ?_
  · simp
  · simp
  · split <;> simp
  · by_cases h : l = []
    · subst h
      have w1 : IntKind.i64.wrap (0 - 1) = -1 := by decide
      have w2 : IntKind.i64.wrap (-1) = -1 := by decide
      simp -dsimp [w167, wFix_by, isInl, inV, w1, w2]
    · have hp : 0 < l.length := List.length_pos_iff.2 h
      have w1 : IntKind.i64.wrap ((l.length : Int) - 1) = ((l.length - 1 : Nat) : Int) := by rw [Fz.w64 (by omega) (by omega)]; omega
      rw [if_neg h]
      simp -dsimp [w167, wFix_by, isInl, inV, w1]
      have e1 : List.take (l.length - 1) (l.map (V.int .i64)) = (l.take (l.length - 1)).map (V.int .i64) := List.map_take.symm
      have e2 : List.take (l.length - (l.length - 1)) (List.drop (l.length - 1) (l.map (V.int .i64))) = (l.drop (l.length - 1)).map (V.int .i64) := by
        rw [← List.map_drop, ← List.map_take, List.take_of_length_le (by simp)]
      have e3 : List.drop (l.length - 1) (l.map (V.int .i64)) = (l.drop (l.length - 1)).map (V.int .i64) := List.map_drop.symm
      rw [e1, e2, e3]
      generalize List.take (l.length - 1) l = A
      generalize List.drop (l.length - 1) l = B
      simp -dsimp []
theorem doesQ_of {p : AP} {f : FuncId} {l gs : List V} {v : V} {l' : List V} (hi : p.inlY f = true) (h1 : groundL l = true) (h2 : groundL gs = true) (h3 : ground v = true) (h4 : groundL l' = true)
    (h : WFun p f (.ptr 0 0 :: gs) [.live l] fun r H => r = .ret v ∧ ∃ Hx, H = .live l' :: Hx) : Does p f l gs v l' := by
  obtain ⟨n, r, H, e, rfl, Hx, rfl⟩ := h
  exact ⟨hi, h1, h2, h3, h4, n, Hx, e⟩
theorem doesQ_go {p : AP} {f : FuncId} {l gs : List V} {v : V} {l' : List V} {H : List Ob} {i : Nat} {Q : CR → List Ob → Prop} (h : Does p f l gs v l') (hi : H[i]? = some (.live l)) (hq : Q (.ret v) (H.set i (.live l'))) : xCall p f (.ptr i 0 :: gs) H Q := by
  show WCall p f (.ptr i 0 :: gs) H Q
  rw [WCall_does h hi]; exact hq
theorem reachQ {H : List Ob} {i : Nat} {l : List V} (hi : H[i]? = some (.live l)) (hl : refsL l = []) : reach H 1000 [i] [] = some [i] := by
  refine (reach_go (k := 999) rfl hi).trans ?_
  rw [show refsOb (.live l) = [] from hl]
  exact reach_end (k := 998)
theorem setQ {α : Type} {H : List α} {i : Nat} {x : α} (h : H[i]? = some x) : H.set i x = H := by
  apply List.ext_getElem?
  intro j
  rw [List.getElem?_set]
  split
  · rename_i e; subst e; rw [h]; simp [(List.getElem?_eq_some_iff.1 h).1]
  · rfl
def PV (b : Nat) (J : List Ob) (v : V) (l : List Int) : Prop := (∃ c, v = .list (l.map (V.int .i64)) c) ∨ ∃ j, v = .own (b + j) 0 l.length 1 ∧ J[j]? = some (.live (l.map (V.int .i64)))
theorem popD {l : List Int} {a : Int} (hl : l.length ≤ 50000) : Does p 72 [inV (l ++ [a])] [] (.int .i64 a) [inV l] := by
  have c := aPop_s (l := l ++ [a]) (by simp; omega)
  rw [if_neg (by simp)] at c
  simp only [List.length_append, List.length_singleton, Nat.add_sub_cancel, List.take_left, List.drop_left] at c
  refine doesQ_of (by kernel_rfl) (by simp) rfl rfl (by simp) ?_
  refine WFun_of w72 rfl rfl k72 ?_
  simp -dsimp [w72, call_by c]
  refine aMust_0 ?_
  simp -dsimp [inV]
theorem needD {l : List Int} {m : Int} (h : m ≤ l.length) : Does p 164 [inV l] [.int .i64 m] (.tuple []) [inV l] := by
  refine doesQ_of (by kernel_rfl) (by simp) rfl rfl (by simp) ?_
  refine WFun_of w164 rfl rfl k164 ?_
  simp -dsimp [w164, h]
  refine aIs_t ?_
  simp -dsimp []
theorem push_s {H : List Ob} {i : Nat} {l vs : List Int} (hi : H[i]? = some (.live [inV l])) (hl : l.length + vs.length ≤ 100000) {Q : CR → List Ob → Prop} (hq : ∀ v J, PV H.length J v (l ++ vs) → Q (.ret (.tuple [])) (H.set i (.live [v]) ++ J)) : xCall p 75 [.ptr i 0, inV vs] H Q := by
  have rb : ∀ g b, ren g (inV b) = inV b := fun g b => ground_ren g _ (inV.gd b)
  have r0 : ∀ b, refs (inV b) = [] := fun b => ground_refs _ (inV.gd b)
  have hre : reach H 1000 (refsL [.ptr i 0, inV vs]) [] = some [i] := by
    have : refsL [.ptr i 0, inV vs] = [i] := by simp [refsL, refs, r0]
    rw [this]
    exact reachQ hi (groundL_refs _ (by simp))
  refine WCall_inl (by kernel_rfl) hre ?_
  have e1 : ([i] : List Nat).idxOf i = 0 := by simp
  have hi' : H[i]?.getD .dead = .live [inV l] := by rw [hi]; rfl
  simp -dsimp [renL, ren, renOb, e1, hi', rb]
  refine WFun_of w75 rfl rfl k75 ?_
  by_cases hv : vs = []
  · subst hv
    simp -dsimp [w75]
    have := hq (.list (l.map (V.int .i64)) true) [] (.inl ⟨true, by simp⟩)
    have rI : ∀ g, renL g (l.map (V.int .i64)) = l.map (V.int .i64) := fun g => groundL_ren g _ (by simp)
    have rx : refsL (l.map (V.int .i64)) = [] := groundL_refs _ (by simp)
    simpa [backH, setAll, renOb, ren, renL, renR, crV, refs, refsL, refsOb, rI, rx] using this
  · have hp : 0 < vs.length := List.length_pos_iff.2 hv
    have hv0 : ¬ vs.length = 0 := by omega
    simp -dsimp [w75, hv, hv0]
    refine ⟨by simp [capOk]; omega, ?_⟩
    have rI : ∀ g, renL g (l.map (V.int .i64) ++ vs.map (V.int .i64)) = l.map (V.int .i64) ++ vs.map (V.int .i64) := fun g => groundL_ren g _ (by simp)
    have := hq (.own H.length 0 (l.length + vs.length) 1) [.live (l.map (V.int .i64) ++ vs.map (V.int .i64))] (.inr ⟨0, by simp, by simp⟩)
    have k1 : backK [i] H.length 1 = H.length := by simp [backK]
    simpa [backH, setAll, renOb, ren, renL, renR, crV, refs, refsL, refsOb, rI, k1] using this
end Fz.D
set_option maxRecDepth 100000
namespace Fz.D
open Go
theorem pv_val {b : Nat} {J : List Ob} {v : V} {l : List Int} (h : PV b J v l) : cellsOf v = [v] ∧ isAny v = false ∧ storable v = true := by
  rcases h with ⟨c, rfl⟩ | ⟨j, rfl, _⟩ <;> exact ⟨rfl, rfl, rfl⟩
theorem pv_len {b : Nat} {J : List Ob} {v : V} {l : List Int} (h : PV b J v l) {K : V → Prop} : wSl v (fun l _ => wVal (V.int .i64 l.length) fun v => K v) (fun _ _ n _ => K (.int .i64 n)) = K (.int .i64 l.length) := by
  rcases h with ⟨c, rfl⟩ | ⟨j, rfl, _⟩
  · simp
  · simp
theorem pv_back {ids : List Nat} {H J : List Ob} {v : V} {l : List Int} (h : PV ids.length J v l) : PV H.length (J.map (renOb (backK ids H.length))) (ren (backK ids H.length) v) l := by
  have rI : ∀ g, renL g (l.map (V.int .i64)) = l.map (V.int .i64) := fun g => groundL_ren g _ (by simp)
  rcases h with ⟨c, rfl⟩ | ⟨j, rfl, h2⟩
  · exact .inl ⟨c, by simp [ren, rI]⟩
  · refine .inr ⟨j, ?_, ?_⟩
    · simp [ren, backK]; omega
    · rw [List.getElem?_map, h2]
      simp [renOb, rI]
theorem two_back {H J : List Ob} {i k : Nat} {v x : V} {l : List Int} (hk : H[k]? = some (.live [x])) (hx : ∀ g, ren g x = x) (hik : i ≠ k) (hpv : PV 2 J v l) {Q : CR → List Ob → Prop} (hq : ∀ v J, PV H.length J v l → Q (.ret (.tuple [])) (H.set i (.live [v]) ++ J)) :
    Q (renR (backK [i, k] H.length) (.ret (.tuple []))) (backH [i, k] (.ret (.tuple [])) (.live [v] :: .live [x] :: J) H) := by
  have hb := pv_back (ids := [i, k]) (H := H) hpv
  have hk2 : ∀ o, (H.set i o).set k (.live [x]) = H.set i o := fun o => by
    apply setQ
    rw [List.getElem?_set_ne hik]; exact hk
  rcases hpv with ⟨c, rfl⟩ | ⟨j, rfl, h2⟩
  · have rI : ∀ g, renL g (l.map (V.int .i64)) = l.map (V.int .i64) := fun g => groundL_ren g _ (by simp)
    have rx : refsL (l.map (V.int .i64)) = [] := groundL_refs _ (by simp)
    by_cases hr : (refs x).any (fun j => 2 ≤ j) = true
    · have := hq (.list (l.map (V.int .i64)) c) (J.map (renOb (backK [i, k] H.length))) (.inl ⟨c, rfl⟩)
      simp only [List.any_eq_true, decide_eq_true_eq] at hr
      simp [backH, setAll, renOb, ren, renL, renR, crV, refs, refsL, refsOb, rI, rx, hx, hk2, hr]
      simpa using this
    · have := hq (.list (l.map (V.int .i64)) c) [] (.inl ⟨c, rfl⟩)
      simp only [List.any_eq_true, decide_eq_true_eq] at hr
      simp [backH, setAll, renOb, ren, renL, renR, crV, refs, refsL, refsOb, rI, rx, hx, hk2, hr]
      simpa using this
  · have := hq _ _ hb
    have e1 : backH [i, k] (.ret (.tuple [])) (.live [.own (2 + j) 0 l.length 1] :: .live [x] :: J) H = H.set i (.live [ren (backK [i, k] H.length) (.own (2 + j) 0 l.length 1)]) ++ J.map (renOb (backK [i, k] H.length)) := by
      unfold backH
      rw [if_pos (by simp [crV, refs, refsL, refsOb])]
      simp [setAll, renOb, renL, hx, hk2]
    have e2 : ([i, k] : List Nat).length + j = 2 + j := rfl
    rw [e1]
    simpa [renR, ren, renL] using this
theorem reach2 {H : List Ob} {i k : Nat} {l : List Int} {x : V} (hi : H[i]? = some (.live [inV l])) (hk : H[k]? = some (.live [x])) (hx : refs x = []) (hik : i ≠ k) : reach H 1000 (refsL [.ptr i 0, .ptr k 0]) [] = some [i, k] := by
  have : refsL [.ptr i 0, .ptr k 0] = [i, k] := by simp [refsL, refs]
  rw [this]
  refine (reach_go (k := 999) rfl hi).trans ?_
  have r0 : refsOb (.live [inV l]) = [] := groundL_refs _ (by simp)
  have r1 : refsOb (.live [x]) = [] := by simp [refsOb, refsL, hx]
  rw [r0]
  refine (reach_go (k := 998) (by simp; omega) hk).trans ?_
  rw [r1]
  exact reach_end (k := 997)
def woneD : WF := { nt := 9, results := [], code :=
(.draw [mv 3 0,
ao 4 (.load false 1 (.t 1)),
mv 5 0,
⟨(some 6), .call 72 [(.t 5)], none, [2], true⟩,
⟨(some 7), .callv (.t 4) [(.t 6)], none, [1, 3, 3], true⟩,
⟨(some 8), .call 75 [(.t 3), (.t 7)], none, [0, 4, 4], true⟩]) }
def wtwoD : WF := { nt := 15, results := [], code :=
(.seq (.reg [mv 4 0,
ao 5 (.call 164 [(.t 4), (.c (.int .i64 2))])])
(.seq (.reg [mv 6 0,
ao 7 (.call 72 [(.t 6)]),
mv 3 7])
(.draw [mv 8 0,
ao 9 (.load false 1 (.t 1)),
mv 10 0,
⟨(some 11), .call 72 [(.t 10)], none, [2], true⟩,
mv 12 3,
⟨(some 13), .callv (.t 9) [(.t 11), (.t 12)], none, [1, 3, 4, 3], true⟩,
⟨(some 14), .call 75 [(.t 8), (.t 13)], none, [0, 5, 5], true⟩]))) }
theorem ktwoD : okW wtwoD.code = true := by kernel_rfl
def wthreeD : WF := { nt := 19, results := [], code :=
(.seq (.reg [mv 5 0,
ao 6 (.call 164 [(.t 5), (.c (.int .i64 3))])])
(.seq (.reg [mv 7 0,
ao 8 (.call 72 [(.t 7)]),
mv 9 0,
ao 10 (.call 72 [(.t 9)]),
mv 3 8,
mv 4 10])
(.draw [mv 11 0,
ao 12 (.load false 1 (.t 1)),
mv 13 0,
⟨(some 14), .call 72 [(.t 13)], none, [2], true⟩,
mv 15 4,
mv 16 3,
⟨(some 17), .callv (.t 12) [(.t 14), (.t 15), (.t 16)], none, [1, 3, 4, 5, 3], true⟩,
⟨(some 18), .call 75 [(.t 11), (.t 17)], none, [0, 6, 6], true⟩]))) }
def wfourD : WF := { nt := 23, results := [], code :=
(.seq (.reg [mv 6 0,
ao 7 (.call 164 [(.t 6), (.c (.int .i64 4))])])
(.seq (.reg [mv 8 0,
ao 9 (.call 72 [(.t 8)]),
mv 10 0,
ao 11 (.call 72 [(.t 10)]),
mv 12 0,
ao 13 (.call 72 [(.t 12)]),
mv 3 9,
mv 4 11,
mv 5 13])
(.draw [mv 14 0,
ao 15 (.load false 1 (.t 1)),
mv 16 0,
⟨(some 17), .call 72 [(.t 16)], none, [2], true⟩,
mv 18 5,
mv 19 4,
mv 20 3,
⟨(some 21), .callv (.t 15) [(.t 17), (.t 18), (.t 19), (.t 20)], none, [1, 3, 4, 5, 6, 3], true⟩,
⟨(some 22), .call 75 [(.t 14), (.t 21)], none, [0, 7, 7], true⟩]))) }
theorem two_s {H : List Ob} {i k : Nat} {l r : List Int} {a b : Int} {f : FuncId} (hf : Comes p f [.int .i64 a, .int .i64 b] (inV r)) (hi : H[i]? = some (.live [inV (l ++ [a, b])])) (hk : H[k]? = some (.live [.fn (.func f) [] []])) (hl : l.length ≤ 10000) (hr : r.length ≤ 10) (hY : ¬ f = 4000000000)
    {Q : CR → List Ob → Prop} (hq : ∀ v J, PV H.length J v (l ++ r) → Q (.ret (.tuple [])) (H.set i (.live [v]) ++ J)) : xCall p 163 [.ptr i 0, .ptr k 0] H Q := by
  have hik : i ≠ k := by
    rintro rfl
    rw [hi] at hk
    simp [inV] at hk
  refine WCall_inl (by kernel_rfl) (reach2 hi hk rfl hik) ?_
  have e1 : ([i, k] : List Nat).idxOf i = 0 := by simp
  have e2 : ([i, k] : List Nat).idxOf k = 1 := by
    have e0 : (i == k) = false := by rw [beq_eq_false_iff_ne]; exact hik
    simp [List.idxOf_cons, e0]
  have hi' : H[i]?.getD .dead = .live [inV (l ++ [a, b])] := by rw [hi]; rfl
  have hk' : H[k]?.getD .dead = .live [.fn (.func f) [] []] := by rw [hk]; rfl
  have rb : ∀ g b, ren g (inV b) = inV b := fun g b => ground_ren g _ (inV.gd b)
  simp -dsimp [renL, ren, renOb, e1, e2, hi', hk', rb]
  refine WFun_of wtwoD rfl rfl ktwoD ?_
  simp -dsimp [wtwoD]
  refine doesQ_go (needD (m := 2) (by simp; omega)) rfl ?_
  simp -dsimp []
  rw [show l ++ [a, b] = (l ++ [a]) ++ [b] from by simp]
  refine doesQ_go (popD (l := l ++ [a]) (a := b) (by first | omega | (simp; omega))) rfl ?_
  simp -dsimp [call_by hf, hY]
  refine WDraw_see (R := [.dead, .live [.fn (.func f) [] []]]) (by kernel_rfl) (by simp) ?_
  simp -dsimp [call_by hf, hY]
  rw [show l ++ [a] = (l) ++ [a] from by simp]
  refine doesQ_go (popD (l := l) (a := a) (by first | omega | (simp; omega))) rfl ?_
  simp -dsimp [call_by hf, hY]
  refine push_s (i := 0) (l := l) (vs := r) ?_ (by omega) fun v J pv => ?_
  · rfl
  simp -dsimp []
  exact two_back hk (fun g => rfl) hik pv hq
theorem Comes_wfQ {p : AP} {f : FuncId} {args : List V} {v : V} (ha : args.all gr = true) (hn : (p.inlY f || args.all nm) = true) (hv : gr v = true) (h : WFun p f args [] (wFix p f v)) : Comes p f args v := by
  obtain ⟨n, r, H', h1, h2⟩ := h
  cases r with
  | panic _ => cases h2
  | ret u => exact ⟨ha, hv, hn, n, u, H', h1, h2⟩
def aluPre : List WC := match w14.dfr with
  | some x => x.1
  | none => []
def AluPre (op : Int) (d dep : V) (g f : FuncId) : Prop := ∃ n e1 H1 k, runL (exec p n) (aluPre.map toA) (env0 [.int .i64 op, d, dep]) [] = some (.normal, e1, H1) ∧ e1 1 = d ∧ e1 2 = dep ∧ e1 6 = .ptr 0 0 ∧ e1 7 = .ptr 1 0 ∧ e1 10 = .fn (.func g) [] [.ptr k 0] ∧
  H1[0]? = some (.live [.list [] true]) ∧ H1[1]? = some (.live [.int .i64 0]) ∧ H1[k]? = some (.live [.fn (.func f) [] []])
theorem aRcv_none {H : List Ob} {K : Bool → List Ob → Prop} (hk : K false H) : WDef p (.fn (.func 33) [] [.ptr 0 0, .ptr 1 0]) none H K := by
  refine WDef_rcv w33 (t := 5) rfl rfl rfl k33 (by kernel_rfl) ?_
  simp -dsimp [w33, finD]
  exact hk
theorem get01 {H : List Ob} {A B : Ob} (h0 : H[0]? = some A) (h1 : H[1]? = some B) : ∃ T, H = A :: B :: T := by
  match H, h0, h1 with
  | a :: b :: T, h0, h1 => simp at h0 h1; exact ⟨T, by rw [h0, h1]⟩
theorem do_two {op dep : Int} {l r : List Int} {a b : Int} {f : FuncId} (hp : AluPre op (inV (l ++ [a, b])) (.int .i64 dep) 163 f) (hf : Comes p f [.int .i64 a, .int .i64 b] (inV r)) (hl : l.length ≤ 10000) (hr : r.length ≤ 10) (hd : ((l ++ r).length : Int) ≤ dep) (hY : ¬ f = 4000000000 := by decide) :
    Comes p 14 [.int .i64 op, inV (l ++ [a, b]), .int .i64 dep] (.tuple [inV (l ++ r), .int .i64 0, .bool true]) := by
  obtain ⟨n, e1, H1, k, h1, g1, g2, g6, g7, g10, k0, k1, hk⟩ := hp
  have hres : w14.results = [(6, some (false, 1)), (7, some (false, 1)), (8, none)] := rfl
  refine Comes_wfQ ?_ ?_ ?_ ?_
  · simp
  · simp
  · simp
  refine WFun_dfrK w14 rfl rfl rfl (by kernel_rfl) h1 ?_
  obtain ⟨T, rfl⟩ := get01 k0 k1
  simp -dsimp [w14, g1, g2, g6, g7, g10]
  have hkT : (Ob.live [V.list [] true] :: Ob.live [V.int IntKind.i64 0] :: T ++ [Ob.live [inV (l ++ [a, b])]])[k]? = some (.live [.fn (.func f) [] []]) := by
    rw [List.getElem?_append_left (List.getElem?_eq_some_iff.1 hk).1]; exact hk
  refine two_s (H := Ob.live [V.list [] true] :: Ob.live [V.int IntKind.i64 0] :: T ++ [Ob.live [inV (l ++ [a, b])]]) hf (by simp) hkT hl hr hY fun v J pv => ?_
  obtain ⟨x1, x2, x3⟩ := pv_val pv
  have hset : (Ob.live [V.list [] true] :: Ob.live [V.int IntKind.i64 0] :: T ++ [Ob.live [inV (l ++ [a, b])]]).set (T.length + 1 + 1) (Ob.live [v]) ++ J = Ob.live [V.list [] true] :: Ob.live [V.int IntKind.i64 0] :: (T ++ (Ob.live [v] :: J)) := by simp
  have pv2 : PV (T.length + 1 + 1 + 1) J v (l ++ r) := by simpa using pv
  have hd2 : (l.length : Int) + r.length ≤ dep := by simpa using hd
  rw [hset]
  simp -dsimp [g1, g2, g6, g7, g10, x1, x2, x3, pv_len pv]
  rw [decide_eq_true hd2]
  refine aIs_t ?_
  simp -dsimp [g1, g2, g6, g7, g10, x1, x2, x3, hres]
  refine aRcv_none ?_
  rcases pv2 with ⟨c, rfl⟩ | ⟨j, rfl, hj⟩
  · simp -dsimp [g1, g2, g6, g7, g10, wFix_by, isInl]
    simp -dsimp [inV]
  · simp -dsimp [-frz_own, g1, g2, g6, g7, g10, wFix_by, isInl]
    have ha : Ac 1 (T.length + 1 + 1 + 1) J (.own (T.length + 1 + 1 + 1 + j) 0 (l.length + r.length) 1) ((l ++ r).map (V.int .i64)) := ⟨by simp, by decide, .inr ⟨j, (l ++ r).map (V.int .i64), by simp, hj, by simp, by rw [flat_int]; exact List.take_of_length_le (by simp)⟩⟩
    refine frz_acgQ (T.length + 1 + 1 + 1) (k := 10) (by simpa using ha) (by simp) (.inl ⟨rfl, by simp⟩) fun H' _ _ => ?_
    simp -dsimp [inV]
end Fz.D
set_option maxRecDepth 100000
namespace Fz.D
open Go
def chainF (H : List Ob) : Nat → V → Option (List FuncId × V)
  | 0, _ => none
  | n + 1, v => if ground v then some ([], v) else match v with
    | .fn (.func g) [] [.ptr k 0] => match H[k]? with
      | some (.live [w]) => (chainF H n w).map fun x => (g :: x.1, x.2)
      | _ => none
    | _ => none
def Chain (H : List Ob) : List FuncId → V → V → Prop
  | [], u, v => v = u
  | g :: gs, u, v => ∃ k w, v = .fn (.func g) [] [.ptr k 0] ∧ H[k]? = some (.live [w]) ∧ Chain H gs u w
theorem chain_of {H : List Ob} : ∀ {n : Nat} {v : V} {gs : List FuncId} {u : V}, chainF H n v = some (gs, u) → Chain H gs u v
  | 0, _, _, _, h => by cases h
  | n + 1, v, gs, u, h => by
    unfold chainF at h
    split at h
    · cases h; rfl
    · split at h
      · rename_i g k hgr
        split at h
        · rename_i w hw
          obtain ⟨⟨a, b⟩, h1, h2⟩ := Option.map_eq_some_iff.1 h
          cases h2
          exact ⟨k, w, rfl, hw, chain_of h1⟩
        · cases h
      · cases h
def AluPreG (op : Int) (d dep : V) (gs : List FuncId) (u : V) : Prop := ∃ n e1 H1 v, runL (exec p n) (aluPre.map toA) (env0 [.int .i64 op, d, dep]) [] = some (.normal, e1, H1) ∧ e1 1 = d ∧ e1 2 = dep ∧ e1 6 = .ptr 0 0 ∧ e1 7 = .ptr 1 0 ∧ e1 8 = .bool true ∧ e1 10 = v ∧ Chain H1 gs u v ∧
  H1[0]? = some (.live [.list [] true]) ∧ H1[1]? = some (.live [.int .i64 0])
def preG (op : Int) (d dep : V) : Option (X × V × V × V × V × V × Option (List FuncId × V) × Option Ob × Option Ob) := (runL (exec p 200) (aluPre.map toA) (env0 [.int .i64 op, d, dep]) []).map fun r =>
  (r.1, r.2.1 1, r.2.1 2, r.2.1 6, r.2.1 7, r.2.1 8, chainF r.2.2 4 (r.2.1 10), r.2.2[0]?, r.2.2[1]?)
theorem preG_of {op : Int} {d dep : V} {gs : List FuncId} {u : V} (h : preG op d dep = some (.normal, d, dep, .ptr 0 0, .ptr 1 0, .bool true, some (gs, u), some (.live [.list [] true]), some (.live [.int .i64 0]))) : AluPreG op d dep gs u := by
  unfold preG at h
  obtain ⟨⟨x, e1, H1⟩, h1, h2⟩ := Option.map_eq_some_iff.1 h
  simp only [Prod.mk.injEq] at h2
  obtain ⟨rfl, g1, g2, g6, g7, g8, g10, k0, k1⟩ := h2
  exact ⟨200, e1, H1, _, h1, g1, g2, g6, g7, g8, rfl, chain_of g10, k0, k1⟩
def WordOk (H : List Ob) (v : V) (l r : List Int) : Prop := ∃ g caps, v = .fn (.func g) [] caps ∧ (¬ g = 4000000000) ∧ ∀ Q : CR → List Ob → Prop, (∀ v J, PV (H.length + 1) J v r → Q (.ret (.tuple [])) (H ++ .live [v] :: J)) → WCall p g (.ptr H.length 0 :: caps) (H ++ [.live [inV l]]) Q
def WordThr (H : List Ob) (v : V) (l : List Int) (e : Int) : Prop := ∃ g caps, v = .fn (.func g) [] caps ∧ (¬ g = 4000000000) ∧ ∀ Q : CR → List Ob → Prop, (∀ x J, Q (.panic (thrown e)) (H ++ .live x :: J)) → WCall p g (.ptr H.length 0 :: caps) (H ++ [.live [inV l]]) Q
theorem aRcv_x {e : Int} {T : List Ob} {K : Bool → List Ob → Prop} {a b : V} (hk : K true (.live [.list [] true] :: .live [.int .i64 e] :: T)) : WDef p (.fn (.func 33) [] [.ptr 0 0, .ptr 1 0]) (some (thrown e)) (.live [a] :: .live [b] :: T) K := by
  refine WDef_rcv w33 (t := 5) rfl rfl rfl k33 (by kernel_rfl) ?_
  simp -dsimp [w33, finD, thrown]
  exact hk
theorem do_ok {op dep : Int} {l r : List Int} {gs : List FuncId} {u : V} (hp : AluPreG op (inV l) (.int .i64 dep) gs u) (hw : ∀ H v, Chain H gs u v → WordOk H v l r) (hd : (r.length : Int) ≤ dep) :
    Comes p 14 [.int .i64 op, inV l, .int .i64 dep] (.tuple [inV r, .int .i64 0, .bool true]) := by
  obtain ⟨n, e1, H1, v, h1, g1, g2, g6, g7, g8, g10, hk, k0, k1⟩ := hp
  have hres : w14.results = [(6, some (false, 1)), (7, some (false, 1)), (8, none)] := rfl
  obtain ⟨g, caps, rfl, hY, hwo⟩ := hw _ _ hk
  refine Comes_wfQ ?_ ?_ ?_ ?_
  · simp
  · simp
  · simp
  refine WFun_dfrK w14 rfl rfl rfl (by kernel_rfl) h1 ?_
  obtain ⟨T, rfl⟩ := get01 k0 k1
  simp -dsimp [w14, g1, g2, g6, g7, g10, hY]
  refine hwo _ fun v J pv => ?_
  obtain ⟨x1, x2, x3⟩ := pv_val pv
  have pv2 : PV (T.length + 1 + 1 + 1) J v r := by simpa using pv
  have hset : Ob.live [V.list [] true] :: Ob.live [V.int IntKind.i64 0] :: T ++ Ob.live [v] :: J = Ob.live [V.list [] true] :: Ob.live [V.int IntKind.i64 0] :: (T ++ (Ob.live [v] :: J)) := by simp
  rw [hset]
  simp -dsimp [g1, g2, g6, g7, g10, x1, x2, x3, pv_len pv]
  rw [decide_eq_true hd]
  refine aIs_t ?_
  simp -dsimp [g1, g2, g6, g7, g10, x1, x2, x3, hres]
  refine aRcv_none ?_
  rcases pv2 with ⟨c, rfl⟩ | ⟨j, rfl, hj⟩
  · simp -dsimp [g1, g2, g6, g7, g10, wFix_by, isInl]
    simp -dsimp [inV]
  · simp -dsimp [-frz_own, g1, g2, g6, g7, g10, wFix_by, isInl]
    have ha : Ac 1 (T.length + 1 + 1 + 1) J (.own (T.length + 1 + 1 + 1 + j) 0 r.length 1) (r.map (V.int .i64)) := ⟨by simp, by decide, .inr ⟨j, r.map (V.int .i64), by simp, hj, by simp, by rw [flat_int]; exact List.take_of_length_le (by simp)⟩⟩
    refine frz_acgQ (T.length + 1 + 1 + 1) (k := 10) (by simpa using ha) (by simp) (.inl ⟨rfl, by simp⟩) fun H' _ _ => ?_
    simp -dsimp [inV]
theorem do_thr {op dep e : Int} {l : List Int} {gs : List FuncId} {u : V} (hp : AluPreG op (inV l) (.int .i64 dep) gs u) (hw : ∀ H v, Chain H gs u v → WordThr H v l e) :
    Comes p 14 [.int .i64 op, inV l, .int .i64 dep] (.tuple [inV [], .int .i64 e, .bool true]) := by
  obtain ⟨n, e1, H1, v, h1, g1, g2, g6, g7, g8, g10, hk, k0, k1⟩ := hp
  have hres : w14.results = [(6, some (false, 1)), (7, some (false, 1)), (8, none)] := rfl
  obtain ⟨g, caps, rfl, hY, hwo⟩ := hw _ _ hk
  refine Comes_wfQ ?_ ?_ ?_ ?_
  · simp
  · simp
  · simp
  refine WFun_dfrK w14 rfl rfl rfl (by kernel_rfl) h1 ?_
  obtain ⟨T, rfl⟩ := get01 k0 k1
  simp -dsimp [w14, g1, g2, g6, g7, g10, hY]
  refine hwo _ fun x J => ?_
  have hset : Ob.live [V.list [] true] :: Ob.live [V.int IntKind.i64 0] :: T ++ Ob.live x :: J = Ob.live [V.list [] true] :: Ob.live [V.int IntKind.i64 0] :: (T ++ (Ob.live x :: J)) := by simp
  rw [hset]
  simp -dsimp [g1, g2, g6, g7, g8, g10, hres]
  refine aRcv_x ?_
  simp -dsimp [g1, g2, g6, g7, g8, g10, wFix_by, isInl]
  simp -dsimp [inV]
end Fz.D
set_option maxRecDepth 100000
namespace Fz.D
open Go
def andI (a b : Int) : Int := IntKind.i64.wrap (((a % 2 ^ IntKind.i64.bits).toNat &&& (b % 2 ^ IntKind.i64.bits).toNat : Nat))
def orI (a b : Int) : Int := IntKind.i64.wrap (((a % 2 ^ IntKind.i64.bits).toNat ||| (b % 2 ^ IntKind.i64.bits).toNat : Nat))
def xorI (a b : Int) : Int := IntKind.i64.wrap (((a % 2 ^ IntKind.i64.bits).toNat ^^^ (b % 2 ^ IntKind.i64.bits).toNat : Nat))
def invI (a : Int) : Int := IntKind.i64.wrap (((-1 % 2 ^ IntKind.i64.bits : Int).toNat ^^^ (a % 2 ^ IntKind.i64.bits).toNat : Nat))
def flagI (c : Prop) [Decidable c] : Int := if c then -1 else 0
theorem vv_s (l : List Int) : Comes p 56 [inV l] (inV l) := by
  refine Comes_of w56 rfl rfl k56 ?_ ?_ ?_ ?_
  · simp
  · simp
  · simp
  · simp -dsimp [w56, wFix_by, isInl]
theorem v_s {H : List Ob} {id n : Nat} {l : List Int} (hid : H[id]? = some (.live (l.map (V.int .i64)))) (hn : n = l.length) {Q : CR → List Ob → Prop} (hq : ∀ H', Q (.ret (inV l)) H') : xCall p 56 [.own id 0 n 1] H Q := by
  subst hn
  refine call_frz rfl ?_
  rw [frzL_cons]
  have ha : Ac 1 0 H (.own id 0 l.length 1) (l.map (V.int .i64)) := ⟨by simp, by decide, .inr ⟨id, _, by simp, hid, by simp, by simp⟩⟩
  refine frz_acgQ 0 (k := 11) (by simpa using ha) (by simp) (.inl ⟨rfl, by simp⟩) fun H' _ _ => ?_
  rw [frzL_nil, show V.list ((l.map (V.int .i64)).map nrm) false = inV l from by simp [inV], callN_by (vv_s l)]
  exact hq _
theorem flagC_s (b : Bool) : Comes p 22 [.bool b] (.int .i64 (if b then -1 else 0)) := by
  refine Comes_of w22 rfl rfl k22 ?_ ?_ ?_ ?_
  · simp
  · simp
  · simp
  · cases b <;> simp -dsimp [w22, wFix_by, isInl]
theorem flag_s (b : Bool) : Comes p 108 [.bool b] (inV [if b then -1 else 0]) := by
  have c := flagC_s b
  refine Comes_of w108 rfl rfl k108 ?_ ?_ ?_ ?_
  · simp
  · simp
  · simp
  · simp -dsimp [w108, call_by c]
    refine v_s (l := [if b then -1 else 0]) rfl rfl fun H' => ?_
    simp -dsimp [wFix_by, isInl]
theorem fn_add (a b : Int) : Comes p 81 [.int .i64 a, .int .i64 b] (inV [IntKind.i64.wrap (a + b)]) := by
  refine Comes_of w81 rfl rfl k81 ?_ ?_ ?_ ?_
  · simp
  · simp
  · simp
  · simp -dsimp [w81]
    refine v_s (l := [IntKind.i64.wrap (a + b)]) rfl rfl fun H' => ?_
    simp -dsimp [wFix_by, isInl]
theorem fn_sub (a b : Int) : Comes p 82 [.int .i64 a, .int .i64 b] (inV [IntKind.i64.wrap (a - b)]) := by
  refine Comes_of w82 rfl rfl k82 ?_ ?_ ?_ ?_
  · simp
  · simp
  · simp
  · simp -dsimp [w82]
    refine v_s (l := [IntKind.i64.wrap (a - b)]) rfl rfl fun H' => ?_
    simp -dsimp [wFix_by, isInl]
theorem fn_MIN (a b : Int) : Comes p 95 [.int .i64 a, .int .i64 b] (inV [if b < a then b else a]) := by
  refine Comes_of w95 rfl rfl k95 ?_ ?_ ?_ ?_
  · simp
  · simp
  · simp
  · simp -dsimp [w95]
    refine v_s (l := [if b < a then b else a]) rfl rfl fun H' => ?_
    simp -dsimp [wFix_by, isInl]
theorem fn_MAX (a b : Int) : Comes p 96 [.int .i64 a, .int .i64 b] (inV [if a < b then b else a]) := by
  refine Comes_of w96 rfl rfl k96 ?_ ?_ ?_ ?_
  · simp
  · simp
  · simp
  · simp -dsimp [w96]
    refine v_s (l := [if a < b then b else a]) rfl rfl fun H' => ?_
    simp -dsimp [wFix_by, isInl]
theorem fn_AND (a b : Int) : Comes p 97 [.int .i64 a, .int .i64 b] (inV [andI a b]) := by
  refine Comes_of w97 rfl rfl k97 ?_ ?_ ?_ ?_
  · simp
  · simp
  · simp
  · simp -dsimp [w97]
    refine v_s (l := [andI a b]) rfl rfl fun H' => ?_
    simp -dsimp [wFix_by, isInl]
theorem fn_OR (a b : Int) : Comes p 98 [.int .i64 a, .int .i64 b] (inV [orI a b]) := by
  refine Comes_of w98 rfl rfl k98 ?_ ?_ ?_ ?_
  · simp
  · simp
  · simp
  · simp -dsimp [w98]
    refine v_s (l := [orI a b]) rfl rfl fun H' => ?_
    simp -dsimp [wFix_by, isInl]
theorem fn_XOR (a b : Int) : Comes p 99 [.int .i64 a, .int .i64 b] (inV [xorI a b]) := by
  refine Comes_of w99 rfl rfl k99 ?_ ?_ ?_ ?_
  · simp
  · simp
  · simp
  · simp -dsimp [w99]
    refine v_s (l := [xorI a b]) rfl rfl fun H' => ?_
    simp -dsimp [wFix_by, isInl]
theorem fn_eq (a b : Int) : Comes p 107 [.int .i64 a, .int .i64 b] (inV [flagI (a = b)]) := by
  refine Comes_of w107 rfl rfl k107 ?_ ?_ ?_ ?_
  · simp
  · simp
  · simp
  · have c := flag_s (decide (a = b))
    have e : (if decide (a = b) = true then (-1 : Int) else 0) = flagI (a = b) := by unfold flagI; by_cases h : a = b <;> simp [h]
    rw [e] at c
    by_cases h : a = b <;> simp -dsimp [h, decide_true, decide_false] at c <;> simp -dsimp [w107, wFix_by, isInl, h, call_by c]
theorem fn_ne (a b : Int) : Comes p 109 [.int .i64 a, .int .i64 b] (inV [flagI (a ≠ b)]) := by
  refine Comes_of w109 rfl rfl k109 ?_ ?_ ?_ ?_
  · simp
  · simp
  · simp
  · have c := flag_s (decide (a ≠ b))
    have e : (if decide (a ≠ b) = true then (-1 : Int) else 0) = flagI (a ≠ b) := by unfold flagI; by_cases h : a ≠ b <;> simp [h]
    rw [e] at c
    by_cases h : a ≠ b <;> simp -dsimp [h, decide_true, decide_false] at c <;> simp -dsimp [w109, wFix_by, isInl, h, call_by c]
theorem fn_lt (a b : Int) : Comes p 110 [.int .i64 a, .int .i64 b] (inV [flagI (a < b)]) := by
  refine Comes_of w110 rfl rfl k110 ?_ ?_ ?_ ?_
  · simp
  · simp
  · simp
  · have c := flag_s (decide (a < b))
    have e : (if decide (a < b) = true then (-1 : Int) else 0) = flagI (a < b) := by unfold flagI; by_cases h : a < b <;> simp [h]
    rw [e] at c
    by_cases h : a < b <;> simp -dsimp [h, decide_true, decide_false] at c <;> simp -dsimp [w110, wFix_by, isInl, h, call_by c]
theorem fn_gt (a b : Int) : Comes p 111 [.int .i64 a, .int .i64 b] (inV [flagI (b < a)]) := by
  refine Comes_of w111 rfl rfl k111 ?_ ?_ ?_ ?_
  · simp
  · simp
  · simp
  · have c := flag_s (decide (b < a))
    have e : (if decide (b < a) = true then (-1 : Int) else 0) = flagI (b < a) := by unfold flagI; by_cases h : b < a <;> simp [h]
    rw [e] at c
    by_cases h : b < a <;> simp -dsimp [h, decide_true, decide_false] at c <;> simp -dsimp [w111, wFix_by, isInl, h, call_by c]
end Fz.D
set_option maxRecDepth 100000
namespace Fz.D
open Go
def cloOf : V → Option (FuncId × Nat)
  | .fn (.func g) [] [.ptr k 0] => some (g, k)
  | _ => none
theorem cloOf_eq {v : V} {g : FuncId} {k : Nat} (h : cloOf v = some (g, k)) : v = .fn (.func g) [] [.ptr k 0] := by
  unfold cloOf at h
  split at h
  · cases h; rfl
  · cases h
def preJ (op : Int) (d dep : V) : Option (X × V × V × V × V × Option FuncId × Option Ob × Option Ob × Option Ob) := (runL (exec p 200) (aluPre.map toA) (env0 [.int .i64 op, d, dep]) []).map fun r =>
  (r.1, r.2.1 1, r.2.1 2, r.2.1 6, r.2.1 7, (cloOf (r.2.1 10)).map (·.1), r.2.2[0]?, r.2.2[1]?, (cloOf (r.2.1 10)).bind fun x => r.2.2[x.2]?)
theorem pre_of {op : Int} {d dep : V} {g f : FuncId} (h : preJ op d dep = some (.normal, d, dep, .ptr 0 0, .ptr 1 0, some g, some (.live [.list [] true]), some (.live [.int .i64 0]), some (.live [.fn (.func f) [] []]))) : AluPre op d dep g f := by
  unfold preJ at h
  obtain ⟨⟨x, e1, H1⟩, h1, h2⟩ := Option.map_eq_some_iff.1 h
  simp only [Prod.mk.injEq] at h2
  obtain ⟨rfl, g1, g2, g6, g7, g10, k0, k1, hk⟩ := h2
  obtain ⟨⟨g', k⟩, c1, rfl⟩ := Option.map_eq_some_iff.1 g10
  rw [c1, Option.bind_some] at hk
  exact ⟨200, e1, H1, k, h1, g1, g2, g6, g7, cloOf_eq c1, k0, k1, hk⟩
end Fz.D
set_option maxRecDepth 100000
namespace Fz.D
open Go
def divQ (a b : Int) : Int := if b = -1 then IntKind.i64.wrap (-a) else if a.tmod b ≠ 0 ∧ ¬ (a.tmod b < 0 ↔ b < 0) then IntKind.i64.wrap (IntKind.i64.wrap (a.tdiv b) - 1) else IntKind.i64.wrap (a.tdiv b)
def divR (a b : Int) : Int := if b = -1 then 0 else if a.tmod b ≠ 0 ∧ ¬ (a.tmod b < 0 ↔ b < 0) then IntKind.i64.wrap (a.tmod b + b) else a.tmod b
theorem div_s {a b : Int} (hb : b ≠ 0) : Comes p 171 [.int .i64 a, .int .i64 b] (.tuple [.int .i64 (divQ a b), .int .i64 (divR a b), .bool true]) := by
  refine Comes_of w171 rfl rfl k171 ?_ ?_ ?_ ?_
  · simp
  · simp
  · simp
  · by_cases h1 : b = -1
    · have e1 : divQ a b = IntKind.i64.wrap (-a) := by unfold divQ; rw [if_pos h1]
      have e2 : divR a b = 0 := by unfold divR; rw [if_pos h1]
      rw [e1, e2]
      simp -dsimp [w171, wFix_by, isInl, hb, h1]
    · have e1 : divQ a b = if a.tmod b ≠ 0 ∧ ¬ (a.tmod b < 0 ↔ b < 0) then IntKind.i64.wrap (IntKind.i64.wrap (a.tdiv b) - 1) else IntKind.i64.wrap (a.tdiv b) := by unfold divQ; rw [if_neg h1]
      have e2 : divR a b = if a.tmod b ≠ 0 ∧ ¬ (a.tmod b < 0 ↔ b < 0) then IntKind.i64.wrap (a.tmod b + b) else a.tmod b := by unfold divR; rw [if_neg h1]
      rw [e1, e2]
      by_cases h2 : a.tmod b = 0
      · simp -dsimp [w171, wFix_by, isInl, hb, h1, h2]
      · by_cases h3 : a.tmod b < 0
        · by_cases h4 : b < 0
          · simp -dsimp [w171, wFix_by, isInl, hb, h1, h2, h3, h4]
          · simp -dsimp [w171, wFix_by, isInl, hb, h1, h2, h3, h4]
        · by_cases h4 : b < 0
          · simp -dsimp [w171, wFix_by, isInl, hb, h1, h2, h3, h4]
          · simp -dsimp [w171, wFix_by, isInl, hb, h1, h2, h3, h4]
end Fz.D
set_option maxRecDepth 100000
namespace Fz.D
open Go
theorem both_s (q r : Int) : Comes p 87 [.int .i64 q, .int .i64 r] (inV [r, q]) := by
  refine Comes_of w87 rfl rfl k87 ?_ ?_ ?_ ?_
  · simp
  · simp
  · simp
  · simp -dsimp [w87]
    refine v_s (l := [r, q]) rfl rfl fun H' => ?_
    simp -dsimp [wFix_by, isInl]
theorem div_0 (a : Int) : Comes p 171 [.int .i64 a, .int .i64 0] (.tuple [.int .i64 0, .int .i64 0, .bool false]) := by
  refine Comes_of w171 rfl rfl k171 ?_ ?_ ?_ ?_
  · simp
  · simp
  · simp
  · simp -dsimp [w171, wFix_by, isInl]
theorem retQ {H : List Ob} {Q : CR → List Ob → Prop} {v : V} (hg : ground v = true) (hq : Q (.ret v) H) : Q (renR (backK [] H.length) (CR.ret v)) (backH [] (CR.ret v) [] H) := by
  have r1 : ∀ g, ren g v = v := fun g => ground_ren g _ hg
  simp only [renR, r1]
  unfold backH
  split <;> simpa [setAll] using hq
theorem quot_ok {q r b : Int} {g : FuncId} {l : List Int} (hb : b ≠ 0) (hw : Comes p g [.int .i64 q, .int .i64 r] (inV l)) (hY : ¬ g = 4000000000) {H : List Ob} {Q : CR → List Ob → Prop} (hq : Q (.ret (inV l)) H) : xCall p 172 [.int .i64 q, .int .i64 r, .bool true, .int .i64 b, .fn (.func g) [] []] H Q := by
  refine WCall_inl (ids := []) (by kernel_rfl) rfl ?_
  refine WFun_of w172 rfl rfl k172 ?_
  simp -dsimp [w172, renL, ren, hb]
  refine aIs_t ?_
  simp -dsimp []
  refine aIs_t ?_
  simp -dsimp [call_by hw, hY]
  exact retQ (inV.gd l) hq
theorem quot_0 {q r : Int} {ok : Bool} {g : FuncId} {H : List Ob} {Q : CR → List Ob → Prop} (hq : Q (.panic (thrown (-10))) H) : xCall p 172 [.int .i64 q, .int .i64 r, .bool ok, .int .i64 0, .fn (.func g) [] []] H Q := by
  refine WCall_inl (ids := []) (by kernel_rfl) rfl ?_
  refine WFun_of w172 rfl rfl k172 ?_
  simp -dsimp [w172, renL, ren]
  refine aIs_f (by decide) ?_
  simp -dsimp [thrown]
  unfold thrown at hq
  simp [renR, ren, backH, setAll]
  exact hq
theorem div_ok {a b : Int} {g : FuncId} {l : List Int} (hb : b ≠ 0) (hw : Comes p g [.int .i64 (divQ a b), .int .i64 (divR a b)] (inV l)) (hY : ¬ g = 4000000000) {H : List Ob} {k : Nat} (hk : H[k]? = some (.live [.fn (.func g) [] []])) {Q : CR → List Ob → Prop} (hq : Q (.ret (inV l)) H) : xCall p 170 [.int .i64 a, .int .i64 b, .ptr k 0] H Q := by
  have d := div_s (a := a) hb
  have hre : reach H 1000 (refsL [.int .i64 a, .int .i64 b, .ptr k 0]) [] = some [k] := by
    rw [show refsL [.int .i64 a, .int .i64 b, .ptr k 0] = [k] from by simp [refsL, refs]]
    exact reachQ hk rfl
  refine WCall_inl (by kernel_rfl) hre ?_
  have e1 : ([k] : List Nat).idxOf k = 0 := by simp
  have hi' : H[k]?.getD .dead = .live [.fn (.func g) [] []] := by rw [hk]; rfl
  simp -dsimp [renL, ren, renOb, e1, hi']
  refine WFun_of w170 rfl rfl k170 ?_
  simp -dsimp [w170, call_by d]
  refine quot_ok hb hw hY ?_
  simp -dsimp []
  have rb : ∀ g b, ren g (inV b) = inV b := fun g b => ground_ren g _ (inV.gd b)
  have r0 : ∀ b, refs (inV b) = [] := fun b => ground_refs _ (inV.gd b)
  simp [renR, rb, r0, backH, setAll, renOb, renL, ren, crV, refsOb, refsL, refs, setQ hk]
  exact hq
theorem div_thr {a : Int} {g : FuncId} {H : List Ob} {k : Nat} (hk : H[k]? = some (.live [.fn (.func g) [] []])) {Q : CR → List Ob → Prop} (hq : Q (.panic (thrown (-10))) H) : xCall p 170 [.int .i64 a, .int .i64 0, .ptr k 0] H Q := by
  have d := div_0 a
  have hre : reach H 1000 (refsL [.int .i64 a, .int .i64 0, .ptr k 0]) [] = some [k] := by
    rw [show refsL [.int .i64 a, .int .i64 0, .ptr k 0] = [k] from by simp [refsL, refs]]
    exact reachQ hk rfl
  refine WCall_inl (by kernel_rfl) hre ?_
  have e1 : ([k] : List Nat).idxOf k = 0 := by simp
  have hi' : H[k]?.getD .dead = .live [.fn (.func g) [] []] := by rw [hk]; rfl
  simp -dsimp [renL, ren, renOb, e1, hi']
  refine WFun_of w170 rfl rfl k170 ?_
  simp -dsimp [w170, call_by d]
  refine quot_0 ?_
  simp -dsimp [thrown]
  unfold thrown at hq
  simp [renR, backH, setAll, renOb, renL, ren, crV, refsOb, refsL, refs, setQ hk]
  exact hq
theorem reach3 {H : List Ob} {i k k2 : Nat} {l : List Int} {f : FuncId} {u : V} (hi : H[i]? = some (.live [inV l])) (hk : H[k]? = some (.live [.fn (.func f) [] [.ptr k2 0]])) (hk2 : H[k2]? = some (.live [u])) (hu : ground u = true) (hik : i ≠ k) (h2 : k2 ≠ i) (h3 : k2 ≠ k) : reach H 1000 (refsL [.ptr i 0, .ptr k 0]) [] = some [i, k, k2] := by
  have : refsL [.ptr i 0, .ptr k 0] = [i, k] := by simp [refsL, refs]
  rw [this]
  refine (reach_go (k := 999) rfl hi).trans ?_
  have r0 : refsOb (.live [inV l]) = [] := groundL_refs _ (by simp)
  have r1 : refsOb (.live [.fn (.func f) [] [.ptr k2 0]]) = [k2] := by simp [refsOb, refsL, refs]
  have r2 : refsOb (.live [u]) = [] := groundL_refs _ (by simp [hu])
  rw [r0]
  refine (reach_go (k := 998) (by simp; omega) hk).trans ?_
  rw [r1]
  refine (reach_go (k := 997) (by simp; omega) hk2).trans ?_
  rw [r2]
  exact reach_end (k := 996)
theorem back3 {H J : List Ob} {i k k2 : Nat} {v u : V} {l : List Int} {f : FuncId} (hk : H[k]? = some (.live [.fn (.func f) [] [.ptr k2 0]])) (hk2 : H[k2]? = some (.live [u])) (hu : ground u = true) (hik : i ≠ k) (h2 : k2 ≠ i) (hpv : PV 3 J v l) {Q : CR → List Ob → Prop} (hq : ∀ v J, PV H.length J v l → Q (.ret (.tuple [])) (H.set i (.live [v]) ++ J)) :
    Q (renR (backK [i, k, k2] H.length) (.ret (.tuple []))) (backH [i, k, k2] (.ret (.tuple [])) (.live [v] :: .live [.fn (.func f) [] [.ptr 2 0]] :: .live [u] :: J) H) := by
  have hb := pv_back (ids := [i, k, k2]) (H := H) hpv
  have ru : ∀ g, ren g u = u := fun g => ground_ren g _ hu
  have qu : refs u = [] := ground_refs _ hu
  have b2 : backK [i, k, k2] H.length 2 = k2 := rfl
  have s1 : ∀ o, ((H.set i o).set k (.live [.fn (.func f) [] [.ptr k2 0]])).set k2 (.live [u]) = H.set i o := fun o => by
    have e1 : (H.set i o).set k (.live [.fn (.func f) [] [.ptr k2 0]]) = H.set i o := setQ (by rw [List.getElem?_set_ne hik]; exact hk)
    rw [e1]
    exact setQ (by rw [List.getElem?_set_ne (by omega)]; exact hk2)
  rcases hpv with ⟨c, rfl⟩ | ⟨j, rfl, h4⟩
  · have rI : ∀ g, renL g (l.map (V.int .i64)) = l.map (V.int .i64) := fun g => groundL_ren g _ (by simp)
    have rx : refsL (l.map (V.int .i64)) = [] := groundL_refs _ (by simp)
    have := hq (.list (l.map (V.int .i64)) c) [] (.inl ⟨c, rfl⟩)
    simp [backH, setAll, renOb, ren, renL, renR, crV, refs, refsL, refsOb, rI, rx, ru, qu, b2, s1]
    simpa using this
  · have := hq _ _ hb
    have e1 : backH [i, k, k2] (.ret (.tuple [])) (.live [.own (3 + j) 0 l.length 1] :: .live [.fn (.func f) [] [.ptr 2 0]] :: .live [u] :: J) H = H.set i (.live [ren (backK [i, k, k2] H.length) (.own (3 + j) 0 l.length 1)]) ++ J.map (renOb (backK [i, k, k2] H.length)) := by
      unfold backH
      rw [if_pos (by simp [crV, refs, refsL, refsOb])]
      simp [setAll, renOb, renL, ren, ru, b2, s1]
    have e2 : ([i, k, k2] : List Nat).length + j = 3 + j := rfl
    rw [e1]
    simpa [renR, ren, renL] using this
theorem back3p {H J : List Ob} {i k k2 : Nat} {x u : V} {e : Int} {f : FuncId} (hx : ground x = true) (hk : H[k]? = some (.live [.fn (.func f) [] [.ptr k2 0]])) (hk2 : H[k2]? = some (.live [u])) (hu : ground u = true) (hik : i ≠ k) (h2 : k2 ≠ i) {Q : CR → List Ob → Prop} (hq : ∀ x J, Q (.panic (thrown e)) (H.set i (.live x) ++ J)) :
    Q (renR (backK [i, k, k2] H.length) (.panic (thrown e))) (backH [i, k, k2] (.panic (thrown e)) (.live [x] :: .live [.fn (.func f) [] [.ptr 2 0]] :: .live [u] :: J) H) := by
  have ru : ∀ g, ren g u = u := fun g => ground_ren g _ hu
  have rx : ∀ g, ren g x = x := fun g => ground_ren g _ hx
  have qu : refs u = [] := ground_refs _ hu
  have qx : refs x = [] := ground_refs _ hx
  have b2 : backK [i, k, k2] H.length 2 = k2 := rfl
  have s1 : ∀ o, ((H.set i o).set k (.live [.fn (.func f) [] [.ptr k2 0]])).set k2 (.live [u]) = H.set i o := fun o => by
    have e1 : (H.set i o).set k (.live [.fn (.func f) [] [.ptr k2 0]]) = H.set i o := setQ (by rw [List.getElem?_set_ne hik]; exact hk)
    rw [e1]
    exact setQ (by rw [List.getElem?_set_ne (by omega)]; exact hk2)
  have := hq [x] []
  simp [thrown, backH, setAll, renOb, ren, renL, renR, crV, refs, refsL, refsOb, rx, qx, ru, qu, b2, s1]
  simpa [thrown] using this
theorem two_cok {H : List Ob} {i k k2 : Nat} {l r : List Int} {a b  : Int} {f : FuncId} {u : V} (hf : ∀ (H : List Ob) (k2 : Nat) (Q : CR → List Ob → Prop), H[k2]? = some (.live [u]) → Q (.ret (inV r)) H → xCall p f [.int .i64 a, .int .i64 b, .ptr k2 0] H Q) (hu : ground u = true) (hY : ¬ f = 4000000000) (hi : H[i]? = some (.live [inV (l ++ [a, b])])) (hk : H[k]? = some (.live [.fn (.func f) [] [.ptr k2 0]])) (hk2 : H[k2]? = some (.live [u])) (hl : l.length ≤ 10000) (hr : r.length ≤ 10) (hik : i ≠ k) (h2 : k2 ≠ i) (h3 : k2 ≠ k)
    {Q : CR → List Ob → Prop} (hq : ∀ v J, PV H.length J v (l ++ r) → Q (.ret (.tuple [])) (H.set i (.live [v]) ++ J)) : xCall p 163 [.ptr i 0, .ptr k 0] H Q := by
  refine WCall_inl (by kernel_rfl) (reach3 hi hk hk2 hu hik h2 h3) ?_
  have e1 : ([i, k, k2] : List Nat).idxOf i = 0 := by simp
  have e2 : ([i, k, k2] : List Nat).idxOf k = 1 := by
    have e0 : (i == k) = false := by rw [beq_eq_false_iff_ne]; exact hik
    simp [List.idxOf_cons, e0]
  have e3 : ([i, k, k2] : List Nat).idxOf k2 = 2 := by
    have e0 : (i == k2) = false := by rw [beq_eq_false_iff_ne]; omega
    have e0' : (k == k2) = false := by rw [beq_eq_false_iff_ne]; omega
    simp [List.idxOf_cons, e0, e0']
  have hi' : H[i]?.getD .dead = .live [inV (l ++ [a, b])] := by rw [hi]; rfl
  have hk' : H[k]?.getD .dead = .live [.fn (.func f) [] [.ptr k2 0]] := by rw [hk]; rfl
  have hk2' : H[k2]?.getD .dead = .live [u] := by rw [hk2]; rfl
  have rb : ∀ g b, ren g (inV b) = inV b := fun g b => ground_ren g _ (inV.gd b)
  have ru : ∀ g, ren g u = u := fun g => ground_ren g _ hu
  simp -dsimp [renL, ren, renOb, e1, e2, e3, hi', hk', hk2', rb, ru]
  refine WFun_of wtwoD rfl rfl ktwoD ?_
  simp -dsimp [wtwoD]
  refine doesQ_go (needD (m := 2) (by simp; omega)) rfl ?_
  simp -dsimp []
  rw [show l ++ [a, b] = (l ++ [a]) ++ [b] from by simp]
  refine doesQ_go (popD (l := l ++ [a]) (a := b) (by first | omega | (simp; omega))) rfl ?_
  simp -dsimp []
  refine WDraw_see (R := [.dead, .live [.fn (.func f) [] [.ptr 2 0]], .live [u]]) (by kernel_rfl) (by simp) ?_
  simp -dsimp []
  refine doesQ_go (popD (l := l) (a := a) (by first | omega | (simp; omega))) rfl ?_
  simp -dsimp [hY]
  refine hf _ 2 _ rfl ?_
  simp -dsimp []
  refine push_s (i := 0) (l := l) (vs := r) ?_ (by omega) fun v J pv => ?_
  · rfl
  simp -dsimp []
  exact back3 hk hk2 hu hik h2 pv hq
theorem two_cthr {H : List Ob} {i k k2 : Nat} {l  : List Int} {a b e : Int} {f : FuncId} {u : V} (hf : ∀ (H : List Ob) (k2 : Nat) (Q : CR → List Ob → Prop), H[k2]? = some (.live [u]) → Q (.panic (thrown e)) H → xCall p f [.int .i64 a, .int .i64 b, .ptr k2 0] H Q) (hu : ground u = true) (hY : ¬ f = 4000000000) (hi : H[i]? = some (.live [inV (l ++ [a, b])])) (hk : H[k]? = some (.live [.fn (.func f) [] [.ptr k2 0]])) (hk2 : H[k2]? = some (.live [u])) (hl : l.length ≤ 10000)  (hik : i ≠ k) (h2 : k2 ≠ i) (h3 : k2 ≠ k)
    {Q : CR → List Ob → Prop} (hq : ∀ x J, Q (.panic (thrown e)) (H.set i (.live x) ++ J)) : xCall p 163 [.ptr i 0, .ptr k 0] H Q := by
  refine WCall_inl (by kernel_rfl) (reach3 hi hk hk2 hu hik h2 h3) ?_
  have e1 : ([i, k, k2] : List Nat).idxOf i = 0 := by simp
  have e2 : ([i, k, k2] : List Nat).idxOf k = 1 := by
    have e0 : (i == k) = false := by rw [beq_eq_false_iff_ne]; exact hik
    simp [List.idxOf_cons, e0]
  have e3 : ([i, k, k2] : List Nat).idxOf k2 = 2 := by
    have e0 : (i == k2) = false := by rw [beq_eq_false_iff_ne]; omega
    have e0' : (k == k2) = false := by rw [beq_eq_false_iff_ne]; omega
    simp [List.idxOf_cons, e0, e0']
  have hi' : H[i]?.getD .dead = .live [inV (l ++ [a, b])] := by rw [hi]; rfl
  have hk' : H[k]?.getD .dead = .live [.fn (.func f) [] [.ptr k2 0]] := by rw [hk]; rfl
  have hk2' : H[k2]?.getD .dead = .live [u] := by rw [hk2]; rfl
  have rb : ∀ g b, ren g (inV b) = inV b := fun g b => ground_ren g _ (inV.gd b)
  have ru : ∀ g, ren g u = u := fun g => ground_ren g _ hu
  simp -dsimp [renL, ren, renOb, e1, e2, e3, hi', hk', hk2', rb, ru]
  refine WFun_of wtwoD rfl rfl ktwoD ?_
  simp -dsimp [wtwoD]
  refine doesQ_go (needD (m := 2) (by simp; omega)) rfl ?_
  simp -dsimp []
  rw [show l ++ [a, b] = (l ++ [a]) ++ [b] from by simp]
  refine doesQ_go (popD (l := l ++ [a]) (a := b) (by first | omega | (simp; omega))) rfl ?_
  simp -dsimp []
  refine WDraw_pan (R := [.dead, .live [.fn (.func f) [] [.ptr 2 0]], .live [u]]) 5 rfl (by kernel_rfl) (by simp) ?_
  simp -dsimp []
  refine doesQ_go (popD (l := l) (a := a) (by first | omega | (simp; omega))) rfl ?_
  simp -dsimp [hY]
  refine hf _ 2 _ rfl ?_
  refine ⟨by simp, ?_⟩
  exact back3p (J := []) (inV.gd l) hk hk2 hu hik h2 hq
end Fz.D
set_option maxRecDepth 100000
namespace Fz.D
open Go
theorem set_last {H J : List Ob} {x y : Ob} : (H ++ [x]).set H.length y ++ J = H ++ y :: J := by
  rw [List.set_append_right _ _ (Nat.le_refl _)]; simp
theorem get_last {H : List Ob} {x : Ob} : (H ++ [x])[H.length]? = some x := by simp
theorem get_old {H : List Ob} {x y : Ob} {k : Nat} (h : H[k]? = some y) : (H ++ [x])[k]? = some y := by
  rw [List.getElem?_append_left (List.getElem?_eq_some_iff.1 h).1]; exact h
theorem old_ne {H : List Ob} {y : Ob} {k : Nat} (h : H[k]? = some y) : H.length ≠ k := by
  have := (List.getElem?_eq_some_iff.1 h).1; omega
theorem two_okC {H : List Ob} {v u : V} {f : FuncId} {l r : List Int} {a b : Int} (hc : Chain H [163, f] u v) (hf : ∀ (H : List Ob) (k2 : Nat) (Q : CR → List Ob → Prop), H[k2]? = some (.live [u]) → Q (.ret (inV r)) H → xCall p f [.int .i64 a, .int .i64 b, .ptr k2 0] H Q) (hl : l.length ≤ 10000) (hr : r.length ≤ 10) (hu : ground u = true) (hY : ¬ f = 4000000000 := by decide) : WordOk H v (l ++ [a, b]) (l ++ r) := by
  obtain ⟨k, w, rfl, hk, k2, w2, rfl, hk2, rfl⟩ := hc
  have hne : k2 ≠ k := by
    rintro rfl
    rw [hk] at hk2
    cases hk2
    simp [ground] at hu
  refine ⟨_, _, rfl, by decide, fun Q hq => ?_⟩
  refine two_cok (i := H.length) (k := k) (k2 := k2) hf hu hY get_last (get_old hk) (get_old hk2) hl hr (old_ne hk) (fun e => old_ne hk2 e.symm) hne fun v J pv => ?_
  rw [set_last]
  exact hq v J (by simpa using pv)
theorem two_thrC {H : List Ob} {v u : V} {f : FuncId} {l  : List Int} {a b e : Int} (hc : Chain H [163, f] u v) (hf : ∀ (H : List Ob) (k2 : Nat) (Q : CR → List Ob → Prop), H[k2]? = some (.live [u]) → Q (.panic (thrown e)) H → xCall p f [.int .i64 a, .int .i64 b, .ptr k2 0] H Q) (hl : l.length ≤ 10000) (hu : ground u = true) (hY : ¬ f = 4000000000 := by decide) : WordThr H v (l ++ [a, b]) e := by
  obtain ⟨k, w, rfl, hk, k2, w2, rfl, hk2, rfl⟩ := hc
  have hne : k2 ≠ k := by
    rintro rfl
    rw [hk] at hk2
    cases hk2
    simp [ground] at hu
  refine ⟨_, _, rfl, by decide, fun Q hq => ?_⟩
  refine two_cthr (i := H.length) (k := k) (k2 := k2) hf hu hY get_last (get_old hk) (get_old hk2) hl (old_ne hk) (fun e => old_ne hk2 e.symm) hne fun x J => ?_
  rw [set_last]
  exact hq x J
end Fz.D
set_option maxRecDepth 100000
namespace Fz.D
open Go
theorem pre_sub (d dep : V) : AluPre 29 d dep 163 82 := pre_of (by kernel_rfl)
theorem find_sub : Comes p 21 [.str ⟨#[45]⟩] (.int .i64 29) := Comes_made (by kernel_rfl) rfl (by kernel_rfl) rfl rfl
theorem pre_OR (d dep : V) : AluPre 45 d dep 163 98 := pre_of (by kernel_rfl)
theorem find_OR : Comes p 21 [.str ⟨#[79, 82]⟩] (.int .i64 45) := Comes_made (by kernel_rfl) rfl (by kernel_rfl) rfl rfl
theorem pre_lt (d dep : V) : AluPre 52 d dep 163 110 := pre_of (by kernel_rfl)
theorem find_lt : Comes p 21 [.str ⟨#[60]⟩] (.int .i64 52) := Comes_made (by kernel_rfl) rfl (by kernel_rfl) rfl rfl
end Fz.D
set_option maxRecDepth 100000
namespace Fz.D
open Go
theorem pre_MIN (d dep : V) : AluPre 42 d dep 163 95 := pre_of (by kernel_rfl)
theorem find_MIN : Comes p 21 [.str ⟨#[77, 73, 78]⟩] (.int .i64 42) := Comes_made (by kernel_rfl) rfl (by kernel_rfl) rfl rfl
theorem pre_XOR (d dep : V) : AluPre 46 d dep 163 99 := pre_of (by kernel_rfl)
theorem find_XOR : Comes p 21 [.str ⟨#[88, 79, 82]⟩] (.int .i64 46) := Comes_made (by kernel_rfl) rfl (by kernel_rfl) rfl rfl
theorem pre_gt (d dep : V) : AluPre 53 d dep 163 111 := pre_of (by kernel_rfl)
theorem find_gt : Comes p 21 [.str ⟨#[62]⟩] (.int .i64 53) := Comes_made (by kernel_rfl) rfl (by kernel_rfl) rfl rfl
end Fz.D
set_option maxRecDepth 100000
namespace Fz.D
open Go
theorem pre_MAX (d dep : V) : AluPre 43 d dep 163 96 := pre_of (by kernel_rfl)
theorem find_MAX : Comes p 21 [.str ⟨#[77, 65, 88]⟩] (.int .i64 43) := Comes_made (by kernel_rfl) rfl (by kernel_rfl) rfl rfl
theorem pre_eq (d dep : V) : AluPre 50 d dep 163 107 := pre_of (by kernel_rfl)
theorem find_eq : Comes p 21 [.str ⟨#[61]⟩] (.int .i64 50) := Comes_made (by kernel_rfl) rfl (by kernel_rfl) rfl rfl
end Fz.D
set_option maxRecDepth 100000
namespace Fz.D
open Go
theorem pre_add (d dep : V) : AluPre 28 d dep 163 81 := pre_of (by kernel_rfl)
theorem find_add : Comes p 21 [.str ⟨#[43]⟩] (.int .i64 28) := Comes_made (by kernel_rfl) rfl (by kernel_rfl) rfl rfl
theorem pre_AND (d dep : V) : AluPre 44 d dep 163 97 := pre_of (by kernel_rfl)
theorem find_AND : Comes p 21 [.str ⟨#[65, 78, 68]⟩] (.int .i64 44) := Comes_made (by kernel_rfl) rfl (by kernel_rfl) rfl rfl
theorem pre_ne (d dep : V) : AluPre 51 d dep 163 109 := pre_of (by kernel_rfl)
theorem find_ne : Comes p 21 [.str ⟨#[60, 62]⟩] (.int .i64 51) := Comes_made (by kernel_rfl) rfl (by kernel_rfl) rfl rfl
end Fz.D
set_option maxRecDepth 100000
namespace Fz.D
open Go
theorem awake09_s : Comes p 13 [] (.bool true) := by
  obtain ⟨H, h⟩ := isTrue_ok awake9
  exact ⟨rfl, rfl, rfl, 1000, .bool true, H, h, .inr ⟨rfl, .bool true, H, rfl, rfl⟩⟩
theorem word09_s {nm : ByteArray} {op : Int} {l r : List Int} (hf : Comes p 21 [.str nm] (.int .i64 op)) (hd : Comes p 14 [.int .i64 op, inV l, .int .i64 1000] (.tuple [inV r, .int .i64 0, .bool true])) : Comes p 18 [.str nm, inV l] (inV r) := by
  refine Comes_of w18 rfl rfl k18 ?_ ?_ ?_ ?_
  · simp
  · simp
  · simp
  · simp -dsimp [w18, wFix_by, isInl, call_by hf, call_by hd]
def gtQ (a : List Int) (i : Nat) : Int := a.getD i 0
def i64Q (n : Int) : Prop := -9223372036854775808 ≤ n ∧ n ≤ 9223372036854775807
end Fz.D
set_option maxRecDepth 100000
namespace Fz.D
open Go
theorem wr_ex (n : Int) : ∃ k : Int, IntKind.i64.wrap n = n + k * 18446744073709551616 := by
  rw [IntKind.wrap_i64]
  refine ⟨-((n + 9223372036854775808) / 18446744073709551616), ?_⟩
  omega
theorem wr_eq {n m : Int} (h : ∃ k : Int, n = m + k * 18446744073709551616) : IntKind.i64.wrap n = IntKind.i64.wrap m := by
  obtain ⟨k, rfl⟩ := h
  rw [IntKind.wrap_i64, IntKind.wrap_i64]
  omega
theorem wr_addL (a b : Int) : IntKind.i64.wrap (IntKind.i64.wrap a + b) = IntKind.i64.wrap (a + b) := by
  obtain ⟨k, h⟩ := wr_ex a
  exact wr_eq ⟨k, by rw [h]; omega⟩
theorem wr_addR (a b : Int) : IntKind.i64.wrap (a + IntKind.i64.wrap b) = IntKind.i64.wrap (a + b) := by
  obtain ⟨k, h⟩ := wr_ex b
  exact wr_eq ⟨k, by rw [h]; omega⟩
theorem wr_subL (a b : Int) : IntKind.i64.wrap (IntKind.i64.wrap a - b) = IntKind.i64.wrap (a - b) := by
  obtain ⟨k, h⟩ := wr_ex a
  exact wr_eq ⟨k, by rw [h]; omega⟩
theorem wr_mulL (a b : Int) : IntKind.i64.wrap (IntKind.i64.wrap a * b) = IntKind.i64.wrap (a * b) := by
  obtain ⟨k, h⟩ := wr_ex a
  refine wr_eq ⟨k * b, ?_⟩
  rw [h, Int.add_mul]
  congr 1
  rw [Int.mul_assoc, Int.mul_assoc, Int.mul_comm b]
theorem wr_wr (a : Int) : IntKind.i64.wrap (IntKind.i64.wrap a) = IntKind.i64.wrap a := by
  obtain ⟨k, h⟩ := wr_ex a
  exact wr_eq ⟨k, h⟩
theorem divQR {a b : Int} (ha : -9223372036854775808 ≤ a ∧ a ≤ 9223372036854775807) : IntKind.i64.wrap (IntKind.i64.wrap (divQ a b * b) + divR a b) = a := by
  have wa : IntKind.i64.wrap a = a := Fz.w64 (by omega) (by omega)
  rw [wr_addL]
  unfold divQ divR
  by_cases h1 : b = -1
  · rw [if_pos h1, if_pos h1, h1, Int.add_zero, wr_mulL]
    rw [show -a * -1 = a from by omega]; exact wa
  · rw [if_neg h1, if_neg h1]
    have hd : a.tdiv b * b + a.tmod b = a := by rw [Int.mul_comm]; exact Int.mul_tdiv_add_tmod a b
    by_cases h2 : a.tmod b ≠ 0 ∧ ¬ (a.tmod b < 0 ↔ b < 0)
    · rw [if_pos h2, if_pos h2, wr_addR]
      rw [show IntKind.i64.wrap (IntKind.i64.wrap (a.tdiv b) - 1) = IntKind.i64.wrap (a.tdiv b - 1) from wr_subL _ _]
      rw [← wr_addL, wr_mulL, wr_addL]
      rw [show (a.tdiv b - 1) * b + (a.tmod b + b) = a from by rw [Int.sub_mul, Int.one_mul]; omega]
      exact wa
    · rw [if_neg h2, if_neg h2]
      rw [← wr_addL, wr_mulL, wr_addL, hd]
      exact wa
theorem and_xor_or : ∀ (n a b : Nat), a ≤ n → (a &&& b) + (a ^^^ b) = a ||| b
  | 0, a, b, h => by
    obtain rfl : a = 0 := by omega
    simp
  | n + 1, a, b, h => by
    by_cases h0 : a = 0
    · subst h0; simp
    have ih := and_xor_or n (a / 2) (b / 2) (by omega)
    have e1 := Nat.div_add_mod (a &&& b) 2
    have e2 := Nat.div_add_mod (a ^^^ b) 2
    have e3 := Nat.div_add_mod (a ||| b) 2
    rw [Nat.and_div_two] at e1
    rw [Nat.xor_div_two] at e2
    rw [Nat.or_div_two] at e3
    have m : (a &&& b) % 2 + (a ^^^ b) % 2 = (a ||| b) % 2 := by
      have f1 := Nat.and_mod_two_pow (a := a) (b := b) (n := 1)
      have f2 := Nat.xor_mod_two_pow (a := a) (b := b) (n := 1)
      have f3 := Nat.or_mod_two_pow (a := a) (b := b) (n := 1)
      rw [Nat.pow_one] at f1 f2 f3
      rw [f1, f2, f3]
      rcases Nat.mod_two_eq_zero_or_one a with h | h <;> rcases Nat.mod_two_eq_zero_or_one b with h' | h' <;> rw [h, h'] <;> rfl
    omega
theorem orQ {a b : Int} : orI a b = IntKind.i64.wrap (andI a b + xorI a b) := by
  unfold orI andI xorI
  rw [wr_addL, wr_addR, ← and_xor_or _ _ _ (Nat.le_refl _)]
  congr 1
theorem top09_s {nm : ByteArray} {l : List Int} {t : Int} (h : Comes p 18 [.str nm, inV l] (inV [t])) : Comes p 20 [.str nm, inV l] (.int .i64 t) := by
  have hI : inV [t] = .list [.int .i64 t] false := rfl
  rw [hI] at h
  refine Comes_of w20 rfl rfl k20 ?_ ?_ ?_ ?_
  · simp
  · simp
  · simp
  · have w1 : IntKind.i64.wrap (1 - 1) = 0 := by decide
    have w0 : IntKind.i64.wrap 0 = 0 := by decide
    simp -dsimp [w20, wFix_by, isInl, call_by h, w1, w0]
theorem t_add (a b : Int) : Comes p 20 [.str ⟨#[43]⟩, inV [a, b]] (.int .i64 (IntKind.i64.wrap (a + b))) :=
  top09_s (word09_s find_add (do_two (l := []) (pre_add _ _) (fn_add a b) (by simp) (by simp) (by simp)))
theorem t_MIN (a b : Int) : Comes p 20 [.str ⟨#[77, 73, 78]⟩, inV [a, b]] (.int .i64 (if b < a then b else a)) :=
  top09_s (word09_s find_MIN (do_two (l := []) (pre_MIN _ _) (fn_MIN a b) (by simp) (by simp) (by simp)))
theorem t_MAX (a b : Int) : Comes p 20 [.str ⟨#[77, 65, 88]⟩, inV [a, b]] (.int .i64 (if a < b then b else a)) :=
  top09_s (word09_s find_MAX (do_two (l := []) (pre_MAX _ _) (fn_MAX a b) (by simp) (by simp) (by simp)))
theorem t_OR (a b : Int) : Comes p 20 [.str ⟨#[79, 82]⟩, inV [a, b]] (.int .i64 (orI a b)) :=
  top09_s (word09_s find_OR (do_two (l := []) (pre_OR _ _) (fn_OR a b) (by simp) (by simp) (by simp)))
theorem t_AND (a b : Int) : Comes p 20 [.str ⟨#[65, 78, 68]⟩, inV [a, b]] (.int .i64 (andI a b)) :=
  top09_s (word09_s find_AND (do_two (l := []) (pre_AND _ _) (fn_AND a b) (by simp) (by simp) (by simp)))
theorem t_XOR (a b : Int) : Comes p 20 [.str ⟨#[88, 79, 82]⟩, inV [a, b]] (.int .i64 (xorI a b)) :=
  top09_s (word09_s find_XOR (do_two (l := []) (pre_XOR _ _) (fn_XOR a b) (by simp) (by simp) (by simp)))
theorem t_lt (a b : Int) : Comes p 20 [.str ⟨#[60]⟩, inV [a, b]] (.int .i64 (flagI (a < b))) :=
  top09_s (word09_s find_lt (do_two (l := []) (pre_lt _ _) (fn_lt a b) (by simp) (by simp) (by simp)))
theorem t_gt (a b : Int) : Comes p 20 [.str ⟨#[62]⟩, inV [a, b]] (.int .i64 (flagI (b < a))) :=
  top09_s (word09_s find_gt (do_two (l := []) (pre_gt _ _) (fn_gt a b) (by simp) (by simp) (by simp)))
theorem t_eq (a b : Int) : Comes p 20 [.str ⟨#[61]⟩, inV [a, b]] (.int .i64 (flagI (a = b))) :=
  top09_s (word09_s find_eq (do_two (l := []) (pre_eq _ _) (fn_eq a b) (by simp) (by simp) (by simp)))
theorem t_sub (a b : Int) : Comes p 20 [.str ⟨#[45]⟩, inV [a, b]] (.int .i64 (IntKind.i64.wrap (a - b))) :=
  top09_s (word09_s find_sub (do_two (l := []) (pre_sub _ _) (fn_sub a b) (by simp) (by simp) (by simp)))
theorem t_ne (a b : Int) : Comes p 20 [.str ⟨#[60, 62]⟩, inV [a, b]] (.int .i64 (flagI (a ≠ b))) :=
  top09_s (word09_s find_ne (do_two (l := []) (pre_ne _ _) (fn_ne a b) (by simp) (by simp) (by simp)))
theorem pre_div (d dep : V) : AluPreG 33 d dep [163, 170] (.fn (.func 87) [] []) := preG_of (by kernel_rfl)
theorem find_div : Comes p 21 [.str ⟨#[47, 77, 79, 68]⟩] (.int .i64 33) := Comes_made (by kernel_rfl) rfl (by kernel_rfl) rfl rfl
theorem do_div {a b : Int} (hb : b ≠ 0) : Comes p 14 [.int .i64 33, inV [a, b], .int .i64 9] (.tuple [inV [divR a b, divQ a b], .int .i64 0, .bool true]) :=
  do_ok (pre_div _ _) (fun _ _ hc => two_okC (l := []) (r := [divR a b, divQ a b]) hc (fun _ _ _ h1 h2 => div_ok hb (both_s _ _) (by decide) h1 h2) (by simp) (by simp) rfl (by decide)) (by simp)
theorem do_div0 (a : Int) : Comes p 14 [.int .i64 33, inV [a, 0], .int .i64 9] (.tuple [inV [], .int .i64 (-10), .bool true]) :=
  do_thr (pre_div _ _) (fun _ _ hc => two_thrC (l := []) hc (fun _ _ _ h1 h2 => div_thr h1 h2) (by simp) rfl (by decide))
theorem lawReckons {a b : Int} (ha : i64Q a) (hb : i64Q b) : Comes p 6 [.int .i64 a, .int .i64 b] (.bool true) := by
  have aw := awake09_s
  have hd := find_div
  refine Comes_of w6 rfl rfl k6 ?_ ?_ ?_ ?_
  · simp
  · simp
  · simp
  · simp -dsimp [w6, call_by aw]
    refine call_frz rfl ?_
    simp -dsimp []
    refine Eq.mpr (callN_by (show Comes p 20 [.str ⟨#[43]⟩, .list [.int .i64 (a), .int .i64 b] false] (.int .i64 (IntKind.i64.wrap (a + b))) from t_add (a) b)) ?_
    simp -dsimp []
    refine call_frz rfl ?_
    simp -dsimp []
    refine Eq.mpr (callN_by (show Comes p 20 [.str ⟨#[77, 73, 78]⟩, .list [.int .i64 (a), .int .i64 b] false] (.int .i64 (if b < a then b else a)) from t_MIN (a) b)) ?_
    simp -dsimp []
    refine call_frz rfl ?_
    simp -dsimp []
    refine Eq.mpr (callN_by (show Comes p 20 [.str ⟨#[77, 65, 88]⟩, .list [.int .i64 (a), .int .i64 b] false] (.int .i64 (if a < b then b else a)) from t_MAX (a) b)) ?_
    simp -dsimp []
    refine call_frz rfl ?_
    simp -dsimp []
    refine Eq.mpr (callN_by (show Comes p 20 [.str ⟨#[79, 82]⟩, .list [.int .i64 (a), .int .i64 b] false] (.int .i64 (orI a b)) from t_OR (a) b)) ?_
    simp -dsimp []
    refine call_frz rfl ?_
    simp -dsimp []
    refine Eq.mpr (callN_by (show Comes p 20 [.str ⟨#[65, 78, 68]⟩, .list [.int .i64 (a), .int .i64 b] false] (.int .i64 (andI a b)) from t_AND (a) b)) ?_
    simp -dsimp []
    refine call_frz rfl ?_
    simp -dsimp []
    refine Eq.mpr (callN_by (show Comes p 20 [.str ⟨#[88, 79, 82]⟩, .list [.int .i64 (a), .int .i64 b] false] (.int .i64 (xorI a b)) from t_XOR (a) b)) ?_
    simp -dsimp []
    refine call_frz rfl ?_
    simp -dsimp []
    refine Eq.mpr (callN_by (show Comes p 20 [.str ⟨#[60]⟩, .list [.int .i64 (a), .int .i64 b] false] (.int .i64 (flagI (a < b))) from t_lt (a) b)) ?_
    simp -dsimp []
    refine call_frz rfl ?_
    simp -dsimp []
    refine Eq.mpr (callN_by (show Comes p 20 [.str ⟨#[62]⟩, .list [.int .i64 (a), .int .i64 b] false] (.int .i64 (flagI (b < a))) from t_gt (a) b)) ?_
    simp -dsimp []
    refine call_frz rfl ?_
    simp -dsimp []
    refine Eq.mpr (callN_by (show Comes p 20 [.str ⟨#[61]⟩, .list [.int .i64 (a), .int .i64 b] false] (.int .i64 (flagI (a = b))) from t_eq (a) b)) ?_
    simp -dsimp []
    refine call_frz rfl ?_
    simp -dsimp []
    refine Eq.mpr (callN_by (show Comes p 20 [.str ⟨#[45]⟩, .list [.int .i64 (IntKind.i64.wrap (a + b)), .int .i64 b] false] (.int .i64 (IntKind.i64.wrap (IntKind.i64.wrap (a + b) - b))) from t_sub (IntKind.i64.wrap (a + b)) b)) ?_
    simp -dsimp []
    refine call_frz rfl ?_
    simp -dsimp []
    refine Eq.mpr (callN_by (show Comes p 20 [.str ⟨#[60, 62]⟩, .list [.int .i64 (a), .int .i64 b] false] (.int .i64 (flagI (a ≠ b))) from t_ne (a) b)) ?_
    simp -dsimp []
    refine call_frz rfl ?_
    simp -dsimp []
    refine Eq.mpr (callN_by (show Comes p 20 [.str ⟨#[61]⟩, .list [.int .i64 (a), .int .i64 b] false] (.int .i64 (flagI (a = b))) from t_eq (a) b)) ?_
    simp -dsimp []
    simp -dsimp [call_by hd]
    refine call_frz rfl ?_
    simp -dsimp []
    have hm : IntKind.i64.wrap (IntKind.i64.wrap (a + b) - b) = a := by
      rw [wr_subL, show a + b - b = a from by omega]
      exact Fz.w64 (by unfold i64Q at ha; omega) (by unfold i64Q at ha; omega)
    have ho : orI a b = IntKind.i64.wrap (andI a b + xorI a b) := orQ
    have w0 : IntKind.i64.wrap 0 = 0 := by decide
    have w1 : IntKind.i64.wrap 1 = 1 := by decide
    have wm : IntKind.i64.wrap (-1) = -1 := by decide
    have wq : IntKind.i64.wrap (-1 - -1) = 0 := by decide
    have wn : IntKind.i64.wrap (-1 + 0) = -1 := by decide
    have wp : IntKind.i64.wrap (0 + -1) = -1 := by decide
    have hle : (if b < a then b else a) ≤ (if a < b then b else a) := by
      by_cases c1 : b < a
      · rw [if_pos c1, if_neg (by omega)]; omega
      · rw [if_neg c1]
        split <;> omega
    have h1 : IntKind.i64.wrap (IntKind.i64.wrap (flagI (a < b) + flagI (b < a)) + flagI (a = b)) = -1 := by
      unfold flagI
      by_cases c1 : a < b
      · rw [if_pos c1, if_neg (by omega), if_neg (by omega)]; decide
      · by_cases c2 : b < a
        · rw [if_neg c1, if_pos c2, if_neg (by omega)]; decide
        · rw [if_neg c1, if_neg c2, if_pos (by omega)]; decide
    have h2 : flagI (¬ a = b) = IntKind.i64.wrap (-1 - flagI (a = b)) := by
      unfold flagI
      by_cases c1 : a = b
      · rw [if_neg (by omega), if_pos c1]; decide
      · rw [if_pos c1, if_neg c1]; decide
    by_cases hb0 : b = 0
    · subst hb0
      have hm0 : IntKind.i64.wrap (IntKind.i64.wrap a) = a := by rw [wr_wr]; exact Fz.w64 (by unfold i64Q at ha; omega) (by unfold i64Q at ha; omega)
      refine Eq.mpr (callN_by (show Comes p 14 [.int .i64 33, .list [.int .i64 a, .int .i64 0] false, .int .i64 9] (.tuple [.list [] false, .int .i64 (-10), .bool true]) from do_div0 a)) ?_
      simp -dsimp []
      repeat rw [if_pos hle]
      repeat rw [if_pos ho]
      repeat rw [if_pos h1]
      repeat rw [if_pos hm0]
      repeat rw [if_pos h2]
      simp -dsimp [wFix_by, isInl]
    · refine Eq.mpr (callN_by (show Comes p 14 [.int .i64 33, .list [.int .i64 a, .int .i64 b] false, .int .i64 9] (.tuple [.list [.int .i64 (divR a b), .int .i64 (divQ a b)] false, .int .i64 0, .bool true]) from do_div hb0)) ?_
      have hqr := divQR (a := a) (b := b) ha
      simp -dsimp [hb0, hqr, w1, w0]
      repeat rw [if_pos hle]
      repeat rw [if_pos ho]
      repeat rw [if_pos h1]
      repeat rw [if_pos hm]
      repeat rw [if_pos h2]
      simp -dsimp [wFix_by, isInl]
end Fz.D
