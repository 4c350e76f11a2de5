/- Each operation is carried out as the abstract interpreter says: the theorem, the rest of it. -/
import Derived.Test.YtpojglkaohhbkaaFzK
namespace Fz
open Go
section
variable {P : Program} {K : Kn} {β : Bi} {H : List Ob} {w : World} {nt : Nat} {e : Env} {a : Act} (hI : Inv K β H w) (hE : ER K β nt e a)
variable {dst : Option Tmp} {ty : TypeId} {pos : String} {after : Array Edge} {guard : Option (Nat × Bool)} {op : AOp} {r : OR}
include hI hE

theorem ok_slice {t : TypeId} {x : Operand} {lo hi mx : Option Operand} (hc : cOp P ⟨dst, .slice t x lo hi mx, ty, pos, after, guard⟩ = some op) (hr : evOp (evO e) H op = some r) : OpOk P K β H w ((execOp a.eval ⟨dst, .slice t x lo hi mx, ty, pos, after, guard⟩).run P w) r := by
  simp only [cOp] at hc
  split at hc
  case h_2 => cases hc
  rename_i x' lo' hi' mx' hx hlo hhi hmx
  have fin : ∀ {k : SlK}, (match k with
      | .str => P.underlying t = some .string
      | .sl n => ∃ e, P.underlying t = some (.slice e) ∧ tSize P e = some n ∧ n ≠ 0
      | .arr len n => ∃ e, (P.underlying t = some (.array len e) ∨ ∃ a, P.underlying t = some (.pointer a) ∧ P.underlying a = some (.array len e)) ∧ tSize P e = some n ∧ n ≠ 0) →
      op = .slice k x' lo' hi' mx' → OpOk P K β H w ((execOp a.eval ⟨dst, .slice t x lo hi mx, ty, pos, after, guard⟩).run P w) r := by
    intro k hk hop
    subst hop
    simp only [evOp, ans, Option.map_eq_some_iff] at hr
    obtain ⟨v, hv, rfl⟩ := hr
    obtain ⟨c, h1, h2⟩ := slice_sound (P := P) hI hk (hE.opd hx) (cOOpd_R hE hlo) (cOOpd_R hE hhi) (cOOpd_R hE hmx) hv
    exact .pure hI (execOp_v h1) h2
  split at hc
  · rename_i hu; cases hc; exact fin (k := .str) hu rfl
  · rename_i et hu
    simp only [Option.bind_eq_some_iff] at hc
    obtain ⟨n, hn, hc⟩ := hc
    split at hc <;> cases hc
    exact fin (k := .sl n) ⟨et, hu, hn, ‹_›⟩ rfl
  · rename_i len et hu
    simp only [Option.bind_eq_some_iff] at hc
    obtain ⟨n, hn, hc⟩ := hc
    split at hc <;> cases hc
    exact fin (k := .arr len n) ⟨et, .inl hu, hn, ‹_›⟩ rfl
  · rename_i arr hu
    split at hc
    · rename_i len et hu2
      simp only [Option.bind_eq_some_iff] at hc
      obtain ⟨n, hn, hc⟩ := hc
      split at hc <;> cases hc
      exact fin (k := .arr len n) ⟨et, .inr ⟨arr, hu, hu2⟩, hn, ‹_›⟩ rfl
    · cases hc
  · cases hc

omit hI hE in
theorem ref_drop {K : Kn} {β : Bi} {l : List V} {b o : Nat} (h : VR K β (.ref l) (.pointer (some ⟨b, o, none⟩))) (n : Nat) (hn : n ≤ l.length) : VR K β (.ref (l.drop n)) (.pointer (some ⟨b, o + n, none⟩)) := by
  cases h with
  | ref hb hl h =>
    refine .ref hb (by simp; omega) fun i v hv => ?_
    simp only [List.getElem?_drop] at hv
    have := h _ v hv
    rwa [show o + (n + i) = o + n + i from by omega] at this

theorem ok_fieldAddr {t : TypeId} {x : Operand} {f : Nat} (hc : cOp P ⟨dst, .fieldAddr t x f, ty, pos, after, guard⟩ = some op) (hr : evOp (evO e) H op = some r) : OpOk P K β H w ((execOp a.eval ⟨dst, .fieldAddr t x f, ty, pos, after, guard⟩).run P w) r := by
  simp only [cOp] at hc
  split at hc
  · rename_i fs x' hu hx
    split at hc
    · rename_i fd hf
      simp only [Option.bind_eq_some_iff] at hc
      obtain ⟨s, hs, hc⟩ := hc
      split at hc <;> cases hc
      rename_i hs0
      have hv := hE.opd hx
      have h1 := run_underlying hu w
      have h2 := sizeOf_run hs w
      have run : ∀ b o, a.eval x = .pointer (some ⟨b, o, none⟩) → (Instr.fieldAt t (a.eval x) f).run P w = .ok (.pointer (some ⟨b, o + fd.offset, none⟩)) w := by
        intro b o hcx
        simp [Instr.fieldAt, h1, hf, hcx, Instr.sureAddr, fieldPlace, h2, hs0, addr_add]
      simp only [evOp] at hr
      split at hr
      · rename_i id o heq
        cases hr
        rw [heq] at hv
        generalize hcx : a.eval x = cx at hv
        cases hv with
        | ptr hβ => exact .pure hI (execOp_v (run _ _ hcx)) (.ptr hβ)
      · rename_i l heq
        split at hr <;> cases hr
        rename_i hle
        rw [heq] at hv
        have hv' := hv
        generalize hcx : a.eval x = cx at hv
        cases hv with
        | ref hb hl h =>
          rw [hcx] at hv'
          exact .pure hI (execOp_v (run _ _ hcx)) (ref_drop hv' _ hle)
      · cases hr
    · cases hc
  · cases hc

omit hI hE in
theorem part_sound {K : Kn} {β : Bi} {l : List V} {cs : Array Value} (h : LR K β l cs.toList) {t : TypeId} {g : Bool} {n off : Nat} (hg : tAgg P t = some g) (hn : tSize P t = some n) (hl : off + n ≤ l.length) :
    (g = true → ∃ c, (part t cs off).run P w = .ok c w ∧ VR K β (.agg ((l.drop off).take n)) c) ∧ (g = false → ∀ v, l[off]? = some v → ∃ c, (part t cs off).run P w = .ok c w ∧ VR K β v c) := by
  refine ⟨fun hgt => ?_, fun hgf v hv => ?_⟩
  · subst hgt
    have := (h.drop off).take n
    refine ⟨.agg (cs.extract off (off + n)), by simp [part, isAgg_run hg, sizeOf_run hn], ?_⟩
    have e1 : (cs.extract off (off + n)).toList = (cs.toList.drop off).take n := by
      simp [Array.toList_extract, List.extract_eq_take_drop]
    rw [← e1] at this
    exact .agg this.to_arr.1 this.to_arr.2
  · subst hgf
    obtain ⟨c, hc, hv⟩ := h.get hv
    refine ⟨c, ?_, hv⟩
    have : cs[off]? = some c := by simpa using hc
    simp [part, isAgg_run hg, this]

theorem ok_field {t : TypeId} {x : Operand} {f : Nat} (hc : cOp P ⟨dst, .field t x f, ty, pos, after, guard⟩ = some op) (hr : evOp (evO e) H op = some r) : OpOk P K β H w ((execOp a.eval ⟨dst, .field t x f, ty, pos, after, guard⟩).run P w) r := by
  simp only [cOp] at hc
  split at hc
  · rename_i fs x' hu hx
    split at hc
    · rename_i fd hf
      split at hc
      · rename_i g s hg hs
        split at hc <;> cases hc
        have hv := hE.opd hx
        have h1 := run_underlying hu w
        simp only [evOp] at hr
        split at hr
        · rename_i l heq
          rw [heq] at hv
          split at hr
          · rename_i hle
            generalize hcx : a.eval x = cx at hv
            cases hv with
            | agg hl h =>
              rename_i cs
              obtain ⟨p1, p2⟩ := part_sound (P := P) (w := w) (LR.of_arr hl h) hg hs hle
              cases g with
              | true =>
                simp only [if_true, Option.some.injEq] at hr; subst hr
                obtain ⟨c, hc1, hc2⟩ := p1 rfl
                exact .pure hI (execOp_v (by simp [Instr.field, h1, hf, hcx, asAgg, hc1])) hc2
              | false =>
                simp only [Bool.false_eq_true, if_false] at hr
                split at hr <;> cases hr
                obtain ⟨c, hc1, hc2⟩ := p2 rfl _ ‹_›
                exact .pure hI (execOp_v (by simp [Instr.field, h1, hf, hcx, asAgg, hc1])) hc2
          · cases hr
        · cases hr
      · cases hc
    · cases hc
  · cases hc

theorem ok_extract {x : Operand} {i : Nat} (hc : cOp P ⟨dst, .extract x i, ty, pos, after, guard⟩ = some op) (hr : evOp (evO e) H op = some r) : OpOk P K β H w ((execOp a.eval ⟨dst, .extract x i, ty, pos, after, guard⟩).run P w) r := by
  simp only [cOp] at hc
  obtain ⟨y, hy, rfl⟩ := Option.map_eq_some_iff.1 hc
  have hv := hE.opd hy
  simp only [evOp] at hr
  split at hr
  · rename_i l heq
    split at hr <;> cases hr
    rename_i hi
    rw [heq] at hv
    generalize hcx : a.eval x = cx at hv
    cases hv with
    | tuple hl h =>
      obtain ⟨c, hc, hv⟩ := (LR.of_arr hl h).get hi
      refine .pure hI (execOp_v (c := c) ?_) hv
      simp only [Array.getElem?_toList] at hc
      simp [Instr.extract, hcx, hc]
  · cases hr

theorem ok_indexAddr {t : TypeId} {x i : Operand} (hc : cOp P ⟨dst, .indexAddr t x i, ty, pos, after, guard⟩ = some op) (hr : evOp (evO e) H op = some r) : OpOk P K β H w ((execOp a.eval ⟨dst, .indexAddr t x i, ty, pos, after, guard⟩).run P w) r := by
  simp only [cOp] at hc
  split at hc
  · rename_i et x' i' hu hx hi
    simp only [Option.bind_eq_some_iff] at hc
    obtain ⟨n, hn, hc⟩ := hc
    split at hc <;> cases hc
    rename_i hn0
    have h1 := run_underlying hu w
    have h2 := sizeOf_run hn w
    have hvx := hE.opd hx
    have hvi := hE.opd hi
    simp only [evOp] at hr
    split at hr
    · rename_i k j hij
      split at hr
      · cases hr
      · rename_i hj0
        rw [hij] at hvi
        generalize hci : a.eval i = ci at hvi
        cases hvi
        split at hr
        · rename_i l c heq
          split at hr
          · rename_i v hv
            split at hr <;> cases hr
            rename_i hvn
            rw [heq] at hvx
            have hjl : j.toNat < l.length := (List.getElem?_eq_some_iff.1 hv).1
            generalize hcx : a.eval x = cx at hvx
            cases hvx with
            | lnil => simp at hv
            | list hb hun hnn hl hcap hcl h =>
              rename_i b o n' cap cs et' fr
              have hnn' : n' = n := by rw [← hun v (List.mem_of_getElem? hv), hvn]
              subst hnn'
              refine .pure hI (execOp_v (c := .pointer (some ⟨b, o + j.toNat * n', none⟩)) ?_) ?_
              · have : 0 ≤ j ∧ j < (l.length : Int) := by omega
                simp [Instr.indexAt, hci, asIntOf, h1, hcx, this, h2, addr_add]
              · have hle : (j.toNat + 1) * n' ≤ l.length * n' := Nat.mul_le_mul_right n' hjl
                rw [Nat.add_mul] at hle
                refine .ref hb (by rw [hvn]; omega) fun q u hq => ?_
                have hqn : q < n' := by rw [← hvn]; exact (List.getElem?_eq_some_iff.1 hq).1
                have hd : (flat l)[j.toNat * n' + q]? = some u := by
                  have e1 := flat_drop (n := n') j.toNat hun
                  have e2 : l.drop j.toNat = v :: l.drop (j.toNat + 1) := by
                    rw [List.drop_eq_getElem_cons hjl]
                    congr 1
                    rw [List.getElem?_eq_getElem hjl] at hv
                    exact Option.some.inj hv
                  rw [e2] at e1
                  simp only [flat, List.flatMap_cons] at e1
                  have e3 := congrArg (fun z => z[q]?) e1
                  simp only [List.getElem?_drop] at e3
                  rw [List.getElem?_append_left (by rw [hvn]; exact hqn), hq] at e3
                  exact e3.symm
                have := h _ u hd
                rwa [← Nat.add_assoc] at this
          · cases hr
        · rename_i id off len m heq
          split at hr <;> cases hr
          rename_i hcond
          obtain ⟨hjl, rfl⟩ := hcond
          rw [heq] at hvx
          generalize hcx : a.eval x = cx at hvx
          cases hvx with
          | own hβ hz hl hz' hnn =>
            refine .pure hI (execOp_v (c := .pointer (some ⟨_, off + j.toNat * m, none⟩)) ?_) (.ptr hβ)
            have : 0 ≤ j ∧ j < (len : Int) := by omega
            simp [Instr.indexAt, hci, asIntOf, h1, hcx, this, h2, addr_add]
        · cases hr
    · cases hr
  · rename_i len et x' i' hu hx hi
    simp only [Option.bind_eq_some_iff] at hc
    obtain ⟨n, hn, hc⟩ := hc
    split at hc <;> cases hc
    rename_i hn0
    have h1 := run_underlying hu w
    have h2 := sizeOf_run hn w
    have hvx := hE.opd hx
    have hvi := hE.opd hi
    simp only [evOp] at hr
    split at hr
    · rename_i k j hij
      split at hr
      · cases hr
      · rename_i hj0
        rw [hij] at hvi
        generalize hci : a.eval i = ci at hvi
        cases hvi
        split at hr
        · rename_i id off heq
          split at hr <;> cases hr
          rename_i hjl
          rw [heq] at hvx
          generalize hcx : a.eval x = cx at hvx
          cases hvx with
          | ptr hβ =>
            refine .pure hI (execOp_v (c := .pointer (some ⟨_, off + j.toNat * n, none⟩)) ?_) (.ptr hβ)
            have : 0 ≤ j ∧ j < (len : Int) := by omega
            simp [Instr.indexAt, hci, asIntOf, h1, hcx, this, h2, addr_add, Instr.sureAddr]
        · rename_i l heq
          split at hr <;> cases hr
          rename_i hcond
          rw [heq] at hvx
          have hv' := hvx
          generalize hcx : a.eval x = cx at hvx
          cases hvx with
          | ref hb hl h =>
            rw [hcx] at hv'
            refine .pure hI (execOp_v (c := .pointer (some ⟨_, _ + j.toNat * n, none⟩)) ?_) (ref_drop hv' _ hcond.2)
            have : 0 ≤ j ∧ j < (len : Int) := by omega
            simp [Instr.indexAt, hci, asIntOf, h1, hcx, this, h2, addr_add, Instr.sureAddr]
        · cases hr
    · cases hr
  · cases hc

theorem ok_index {t : TypeId} {x i : Operand} (hc : cOp P ⟨dst, .index t x i, ty, pos, after, guard⟩ = some op) (hr : evOp (evO e) H op = some r) : OpOk P K β H w ((execOp a.eval ⟨dst, .index t x i, ty, pos, after, guard⟩).run P w) r := by
  simp only [cOp] at hc
  split at hc
  · rename_i x' i' hu hx hi
    cases hc
    have h1 := run_underlying hu w
    have hvx := hE.opd hx
    have hvi := hE.opd hi
    simp only [evOp] at hr
    split at hr
    · rename_i k j s hij hxs
      split at hr
      · cases hr
      · rename_i hj0
        split at hr <;> cases hr
        rename_i b hb
        rw [hij] at hvi; rw [hxs] at hvx
        generalize hci : a.eval i = ci at hvi
        generalize hcx : a.eval x = cx at hvx
        cases hvi; cases hvx
        refine .pure hI (execOp_v ?_) (.int _ _)
        have hjs : j.toNat < s.size := by have := (List.getElem?_eq_some_iff.1 hb).1; simpa using this
        have hb' : s[j.toNat]? = some b := by
          simp at hb
          rw [getElem?_pos s j.toNat hjs]
          have := (Array.getElem?_eq_some_iff.1 hb).2
          exact congrArg some this
        have : 0 ≤ j := by omega
        simp [Instr.index, hci, asIntOf, h1, hcx, this, hb']
    · cases hr
  · rename_i len et x' i' hu hx hi
    split at hc
    · rename_i g n hg hn
      split at hc <;> cases hc
      have h1 := run_underlying hu w
      have h2 := sizeOf_run hn w
      have hvx := hE.opd hx
      have hvi := hE.opd hi
      simp only [evOp] at hr
      split at hr
      · rename_i k j l hij hxs
        split at hr
        · rename_i hcond
          rw [hij] at hvi; rw [hxs] at hvx
          generalize hci : a.eval i = ci at hvi
          generalize hcx : a.eval x = cx at hvx
          cases hvi
          cases hvx with
          | agg hl h =>
            rename_i cs
            obtain ⟨p1, p2⟩ := part_sound (P := P) (w := w) (LR.of_arr hl h) hg hn hcond.2.2
            have h3 : 0 ≤ j ∧ j < (len : Int) := ⟨hcond.1, hcond.2.1⟩
            cases g with
            | true =>
              simp only [if_true, Option.some.injEq] at hr; subst hr
              obtain ⟨c, hc1, hc2⟩ := p1 rfl
              exact .pure hI (execOp_v (by simp [Instr.index, hci, asIntOf, h1, hcx, h2, h3, hc1])) hc2
            | false =>
              simp only [Bool.false_eq_true, if_false] at hr
              split at hr <;> cases hr
              obtain ⟨c, hc1, hc2⟩ := p2 rfl _ ‹_›
              exact .pure hI (execOp_v (by simp [Instr.index, hci, asIntOf, h1, hcx, h2, h3, hc1])) hc2
        · cases hr
      · cases hr
    · cases hc
  · cases hc
end
end Fz
