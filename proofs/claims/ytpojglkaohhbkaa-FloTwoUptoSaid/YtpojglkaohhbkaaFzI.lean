/- Each operation is carried out as the abstract interpreter says: append. -/
import Derived.Test.YtpojglkaohhbkaaFzH
namespace Fz
open Go

/-- What an append is handed, behind its second argument: how many, and the cells. -/
structure AppArg (P : Program) (K : Kn) (β : Bi) (w : World) (n bytes : Nat) (uT : TypeId) (e : TypeId) (cx : Value) (xs : List V) (k : Nat) : Prop where
  size : xs.length = k * n
  arg : ∃ d, P.underlying uT = some d ∧
    ((∀ kk, d ≠ .int kk) ∧ (Builtin.lenOf cx).run P w = .ok k w ∧ (∃ ds : List Value, (∀ w', Drew w w' → (Builtin.firstCells n k cx).run P w' = .ok ds.toArray w') ∧ LR K β xs ds)
     ∨ (∃ kk, d = .int kk) ∧ (∃ (kk : IntKind) (l : Int), cx = .int kk l ∧ 0 ≤ l ∧ l.toNat = k ∧ IntKind.i64.wrap l = l ∧ l * bytes ≤ 2 ^ 47) ∧ ∃ zc : Value, (∀ w, (zeroValue e).run P w = .ok zc w) ∧ zc.cells.size = n ∧ LR K β xs (Builtin.zeroCells zc.cells k).toList)

theorem vr_slice {K : Kn} {β : Bi} {l : List V} {c : Bool} {cs : Value} (h : VR K β (.list l c) cs) : ∃ a cap, cs = .slice a l.length cap ∧ l.length ≤ cap ∧ (c = true → cap = l.length) := by
  cases h with
  | lnil hc => exact ⟨_, _, rfl, Nat.zero_le _, hc⟩
  | list hb hu hn hl hc hcl h => exact ⟨_, _, rfl, hc, hcl⟩

/-- An append of nothing. -/
theorem append_none {P : Program} {K : Kn} {β : Bi} {w : World} {sT uT ty e : TypeId} {n bytes : Nat} {i : TypeInfo} (hu : P.underlying sT = some (.slice e)) (hi : P.info? e = some i) (hn : i.size = n) (hb : i.bytes = bytes)
    {a : Option Addr} {len cap : Nat} (hlc : len ≤ cap) {cx : Value} {xs : List V} (ha : AppArg P K β w n bytes uT e cx xs 0) :
    (Builtin.append_ #[sT, uT] ty #[.slice a len cap, cx]).run P w = .ok (.slice a len cap) w := by
  have h1 := run_underlying hu w
  have h2 : (Go.sizeOf e).run P w = .ok n w := by simp [Go.sizeOf, typeInfo, hi, hn]
  have h3 : (typeInfo e).run P w = .ok i w := by simp [typeInfo, hi]
  obtain ⟨hsz, d, hd, hh⟩ := ha
  have h4 := run_underlying hd w
  rcases hh with ⟨hnint, hl, ds, hds, hr⟩ | ⟨⟨kk, rfl⟩, ⟨k2, l, rfl, g1, g2, g3, g4⟩, zc, hz, hzs, hr⟩
  · have hnil : ds = [] := List.eq_nil_of_length_eq_zero (by rw [← hr.1, hsz]; simp)
    subst hnil
    have hds := hds w (Drew.refl w)
    have hm : (d matches .int _) = false := by
      cases d <;> first | rfl | exact absurd rfl (hnint _)
    cases a <;> simp [Builtin.append_, h1, h2, h4, hm, hl, hlc, hds, storeCells]
  · have hl0 : l = 0 := by omega
    subst hl0
    have hw : IntKind.i64.wrap 0 = 0 := by decide
    cases a <;> simp [Builtin.append_, h1, h2, h3, h4, asInt, asIntOf, hw, hlc, storeCells]

/-- An append that needs a new array. -/
theorem append_grows {P : Program} {K : Kn} {β : Bi} {w : World} {sT uT ty e : TypeId} {n bytes : Nat} {i : TypeInfo} (hu : P.underlying sT = some (.slice e)) (hi : P.info? e = some i) (hn : i.size = n) (hb : i.bytes = bytes) (hz0 : (i.zero.map fun z => z.cells.size) = some n)
    {a : Option Addr} {len cap k : Nat} (hlc : cap < len + k) {cx : Value} {xs : List V} (ha : AppArg P K β w n bytes uT e cx xs k)
    (hcap : capOk (len + k) bytes = true) {os : List Value} (hos : ∀ w', Drew w w' → (Builtin.firstCells n len (.slice a len cap)).run P w' = .ok os.toArray w') :
    ∃ (newCap : Nat) (ds rest : List Value) (w1 : World), len + k ≤ newCap ∧ Drew w w1 ∧ LR K β xs ds ∧ (os.length = len * n → ds.length = k * n → (os ++ ds ++ rest).length = newCap * n) ∧
      (Builtin.append_ #[sT, uT] ty #[.slice a len cap, cx]).run P w = .ok (.slice (some ⟨w1.heap.size, 0, none⟩) (len + k) newCap) (w1.alloc (.cells (os ++ ds ++ rest).toArray e)) := by
  have h1 := run_underlying hu w
  have h2 : (Go.sizeOf e).run P w = .ok n w := by simp [Go.sizeOf, typeInfo, hi, hn]
  have h3 : ∀ w, (typeInfo e).run P w = .ok i w := fun w => by simp [typeInfo, hi]
  obtain ⟨zc, hzc, hzsz⟩ := Option.map_eq_some_iff.1 hz0
  have h5 : ∀ w, (zeroValue e).run P w = .ok zc w := fun w => by simp [zeroValue, typeInfo, hi, hzc]
  obtain ⟨hsz, d, hd, hh⟩ := ha
  have h4 := run_underlying hd w
  have hno := cap_ok hlc hcap
  have hle : len + k ≤ 2 ^ 62 := by unfold capOk at hcap; simp at hcap; omega
  have hcut : ∀ t, len + k ≤ (Question.appendCap (len + k) cap e).cut t := fun t => by simp [Question.cut]
  have hq : (Question.appendCap (len + k) cap e).forced = false := rfl
  have hneed : ¬ len + k ≤ cap := by omega
  have hmax : ¬ ((9223372036854775807 : Int) < (len : Int) + (k : Int)) := by omega
  have hos' := hos w.drew ⟨rfl, rfl, rfl, rfl⟩
  have hzl : ∀ m, (Builtin.zeroCells zc.cells m).size = m * n := fun m => by simp [Builtin.zeroCells, hzsz]
  have hcut' := hcut (w.tape w.drawn (.appendCap (len + k) cap e))
  have hlast : ∀ ds : List Value, os.length = len * n → ds.length = k * n →
      (os ++ ds ++ (Builtin.zeroCells zc.cells ((Question.appendCap (len + k) cap e).cut (w.tape w.drawn (.appendCap (len + k) cap e)) - (len + k))).toList).length =
        (Question.appendCap (len + k) cap e).cut (w.tape w.drawn (.appendCap (len + k) cap e)) * n := by
    intro ds g1 g2
    simp only [List.length_append, g1, g2, Array.length_toList, hzl]
    generalize (Question.appendCap (len + k) cap e).cut (w.tape w.drawn (.appendCap (len + k) cap e)) = q at *
    obtain ⟨r, rfl⟩ : ∃ r, q = len + k + r := ⟨q - (len + k), by omega⟩
    rw [show len + k + r - (len + k) = r from by omega, Nat.add_mul, Nat.add_mul]
  have harr : ∀ (ds : List Value) (z : Array Value), os.toArray ++ (ds.toArray ++ z) = (os ++ ds ++ z.toList).toArray := fun ds z => by apply Array.ext'; simp
  rcases hh with ⟨hnint, hl, ds, hds, hr⟩ | ⟨⟨kk, rfl⟩, ⟨k2, l, rfl, g1, g2, g3, g4⟩, zc', hz, hzs, hr⟩
  · have hm : (d matches .int _) = false := by
      cases d <;> first | rfl | exact absurd rfl (hnint _)
    refine ⟨_, ds, _, w.drew, hcut', ⟨rfl, rfl, rfl, rfl⟩, hr, hlast ds, ?_⟩
    have hds' := hds w.drew ⟨rfl, rfl, rfl, rfl⟩
    simp [Builtin.append_, h1, h2, h4, hm, hl, hneed, h3, h5, hn, hb, hno, hq, hos', hds', newRow, hmax, harr]
  · have hzz : zc' = zc := by
      have := hz w; rw [h5 w] at this; injection this with this; exact this.symm
    subst hzz
    refine ⟨_, _, _, w.drew, hcut', ⟨rfl, rfl, rfl, rfl⟩, hr, hlast _, ?_⟩
    have g5 : ¬ l < 0 := by omega
    have g6 : ¬ (281474976710656 : Int) < l * bytes := by omega
    have g7 : ¬ (9223372036854775807 : Int) < len + max l 0 := by omega
    have harr' : ∀ (ds z : Array Value), os.toArray ++ (ds ++ z) = (os ++ ds.toList ++ z.toList).toArray := fun ds z => by apply Array.ext'; simp
    have harr2 : ∀ z : Array Value, os.toArray ++ z = (os ++ z.toList).toArray := fun z => by apply Array.ext'; simp
    by_cases hkn : k * n = 0
    · have e0 : Builtin.zeroCells zc'.cells k = #[] := Array.eq_empty_of_size_eq_zero (by rw [hzl, hkn])
      simp [Builtin.append_, h1, h2, h4, asInt, asIntOf, g3, g2, g5, g6, hneed, h3, h5, hn, hb, hno, hq, hos', newRow, hmax, hkn, e0, harr2, g7]
    · simp [Builtin.append_, h1, h2, h4, asInt, asIntOf, g3, g2, g5, g6, hneed, h3, h5, hn, hb, hno, hq, hos', newRow, hmax, hkn, harr', g7]

/-- An append within the capacity. -/
theorem append_fits {P : Program} {K : Kn} {β : Bi} {w : World} {sT uT ty e : TypeId} {n bytes : Nat} {i : TypeInfo} (hu : P.underlying sT = some (.slice e)) (hi : P.info? e = some i) (hn : i.size = n) (hb : i.bytes = bytes)
    {b len cap k : Nat} (hlc : len + k ≤ cap) {cx : Value} {xs : List V} (ha : AppArg P K β w n bytes uT e cx xs k) (hk : k * n ≠ 0) :
    ∃ ds : List Value, LR K β xs ds ∧ ∀ w', (storeCells (⟨b, 0 + len * n, none⟩ : Addr) ds).run P w = .ok () w' →
      (Builtin.append_ #[sT, uT] ty #[.slice (some ⟨b, 0, none⟩) len cap, cx]).run P w = .ok (.slice (some ⟨b, 0, none⟩) (len + k) cap) w' := by
  have h1 := run_underlying hu w
  have h2 : (Go.sizeOf e).run P w = .ok n w := by simp [Go.sizeOf, typeInfo, hi, hn]
  have h3 : ∀ w, (typeInfo e).run P w = .ok i w := fun w => by simp [typeInfo, hi]
  obtain ⟨hsz, d, hd, hh⟩ := ha
  have h4 := run_underlying hd w
  rcases hh with ⟨hnint, hl, ds, hds, hr⟩ | ⟨⟨kk, rfl⟩, ⟨k2, l, rfl, g1, g2, g3, g4⟩, zc', hz, hzs, hr⟩
  · have hm : (d matches .int _) = false := by
      cases d <;> first | rfl | exact absurd rfl (hnint _)
    refine ⟨ds, hr, fun w' hw' => ?_⟩
    have hds' := hds w (Drew.refl w)
    rw [← addr_add] at hw'
    simp [Builtin.append_, h1, h2, h4, hm, hl, hlc, hds', hw']
  · refine ⟨_, hr, fun w' hw' => ?_⟩
    have g5 : ¬ l < 0 := by omega
    have g6 : ¬ (281474976710656 : Int) < l * bytes := by omega
    rw [← addr_add] at hw'
    simp [Builtin.append_, h1, h2, h3, h4, asInt, asIntOf, g3, g2, g5, g6, hb, hlc, hk, hz w, hw']

theorem appendV_sound {P : Program} {K : Kn} {β : Bi} {H H' : List Ob} {w : World} (hI : Inv K β H w) {sT uT ty e : TypeId} {n bytes : Nat} {i : TypeInfo} (hu : P.underlying sT = some (.slice e)) (hi : P.info? e = some i) (hn : i.size = n) (hb : i.bytes = bytes)
    (hz0 : (i.zero.map fun z => z.cells.size) = some n) (hn0 : n ≠ 0) {s v : V} {cs cx : Value} (hs : VR K β s cs) {xs : List V} {k : Nat} (ha : AppArg P K β w n bytes uT e cx xs k) (h : appendV H n bytes s xs k = some (v, H')) :
    ∃ c w' K' β', (Builtin.append_ #[sT, uT] ty #[cs, cx]).run P w = .ok c w' ∧ VR K' β' v c ∧ Inv K' β' H' w' ∧ Ev K β H w K' β' H' w' := by
  have grow : ∀ {a : Option Addr} {len cap : Nat} {H1 : List Ob} {os : List Value} {old : List V}, cs = .slice a len cap → cap < len + k → capOk (len + k) bytes = true → LR K β old os → old.length = len * n → Inv K β H1 w → Ev K β H w K β H1 w →
      (∀ w', Drew w w' → (Builtin.firstCells n len (.slice a len cap)).run P w' = .ok os.toArray w') →
      ∃ c w' K' β', (Builtin.append_ #[sT, uT] ty #[cs, cx]).run P w = .ok c w' ∧ VR K' β' (.own H1.length 0 (len + k) n) c ∧ Inv K' β' (H1 ++ [.live (old ++ xs)]) w' ∧ Ev K β H w K' β' (H1 ++ [.live (old ++ xs)]) w' := by
    intro a len cap H1 os old hcs hlt hcap hold holdl hI1 hE1 hos
    obtain ⟨newCap, ds, rest, w1, g1, g2, g3, g4, g5⟩ := append_grows (ty := ty) hu hi hn hb hz0 hlt ha hcap hos
    have hI2 : Inv K β H1 w1 := hI1.drawn g2.1
    have hE2 : Ev K β H1 w K β H1 w1 := .drawn g2.1 g2.2.1 g2.2.2.1 g2.2.2.2
    have hlen := g4 (by rw [← hold.1, holdl]) (by rw [← g3.1, ha.size])
    have hcr : CsR K β (old ++ xs) (os ++ ds ++ rest).toArray := by
      have := hold.append g3
      refine ⟨by rw [this.1]; simp, fun j u hj => ?_⟩
      obtain ⟨c, hc, hv⟩ := this.get hj
      have hj' : (os ++ ds ++ rest)[j]? = some c := by rw [List.getElem?_append_left (List.getElem?_eq_some_iff.1 hc).1]; exact hc
      simp only [List.append_assoc] at hj'
      simpa [Array.getD_eq_getD_getElem?, hj'] using hv
    obtain ⟨e1, e2, e3, e4, e5, e6⟩ := hI2.new (w' := w1.alloc (.cells (os ++ ds ++ rest).toArray e)) hcr rfl rfl rfl rfl
    refine ⟨_, _, _, _, by rw [hcs]; exact g5, ?_, e5, (hE1.trans hE2).trans e6⟩
    refine .own e3 e4 g1 ?_ hn0
    rw [Nat.zero_add, ← hlen]; simp
  unfold appendV at h
  split at h
  · rename_i l c
    split at h
    · cases h
      rename_i hk; subst hk
      obtain ⟨a, cap, rfl, g1, g2⟩ := vr_slice hs
      exact ⟨_, w, K, β, append_none hu hi hn hb g1 ha, hs, hI, .refl K β H w⟩
    · split at h
      · rename_i hk hc
        simp only [Option.some.injEq, Prod.mk.injEq] at h
        obtain ⟨rfl, rfl⟩ := h
        simp only [Bool.and_eq_true, beq_iff_eq] at hc
        obtain ⟨⟨⟨hc1, hc2⟩, hc3⟩, hc4⟩ := hc
        obtain ⟨a, cap, rfl, g1, g2⟩ := vr_slice hs
        have he : elems H n (.list l c) = some (flat l, l.length) := by simp [elems, hc2]
        have hel := elems_sound (P := P) hI hs he
        obtain ⟨os, ho1, ho2⟩ := hel.first l.length (Nat.le_refl _)
        rw [← hel.size, List.take_length] at ho2
        exact grow rfl (by have := g2 hc1; omega) hc4 ho2 hel.size hI (.refl K β H w) fun w' hd => ho1 w' hd.1
      · cases h
  · rename_i id len m
    split at h
    · cases h
      rename_i hk; subst hk
      cases hs with
      | own hβ hz hl hz' hnn => exact ⟨_, w, K, β, append_none hu hi hn hb hl ha, .own hβ hz hl hz' hnn, hI, .refl K β H w⟩
    · rename_i hk
      split at h
      · rename_i l ho
        split at h
        · rename_i hc
          simp only [Option.some.injEq, Prod.mk.injEq] at h
          obtain ⟨rfl, rfl⟩ := h
          obtain ⟨rfl, hc2, hc3, hc4⟩ := hc
          cases hs with
          | own hβ hz hl hz' hnn =>
            rename_i b cap z
            obtain ⟨b', ccs, et, g1, g2, g3, g4, g5⟩ := hI.obj id _ ho
            rw [hβ] at g1; cases g1
            have hp : peek H (len * m) (.ptr id 0) = some (l.take (len * m)) := by
              simp [peek, ho, hc2]
            have he : elems H m (.own id 0 len m) = some (l.take (len * m), len) := by simp [elems, hp]
            have hel := elems_sound (P := P) hI (.own hβ hz hl hz' hnn) he
            have hklen : k * m ≠ 0 := Nat.mul_ne_zero hk hnn
            by_cases hfit : len + k ≤ cap
            · obtain ⟨ds, hd1, hd2⟩ := append_fits (ty := ty) hu hi hn hb (b := b) hfit ha hklen
              have hzz : z = ccs.size := by rw [hz] at g3; exact Option.some.inj g3
              have hle : (len + k) * m ≤ cap * m := Nat.mul_le_mul_right m hfit
              rw [Nat.add_mul] at hle
              have hdl : ds.length = k * m := by rw [← hd1.1, ha.size]
              have hst := run_storeCells_at P b (len * m) et ds 0 ccs w g4 (by omega) (hd1.oneCell hc3)
              have hrow : LR K β (l.take (len * m) ++ xs) (ccs.toList.take (len * m) ++ ds) := by
                refine LR.append ?_ hd1
                have hbase : LR K β l (ccs.toList.take l.length) := by
                  refine ⟨by have := g5.1; simp; omega, fun i v hv => ?_⟩
                  have hil : i < l.length := (List.getElem?_eq_some_iff.1 hv).1
                  have := g5.2 i v hv
                  simpa [List.getD, List.getElem?_take, hil, Array.getD_eq_getD_getElem?] using this
                have := hbase.take (len * m)
                rwa [List.take_take, Nat.min_eq_left hc2] at this
              have hsz : ((ccs.toList.take (len * m + 0) ++ ds ++ ccs.toList.drop (len * m + 0 + ds.length)).toArray).size = ccs.size := by simp; omega
              have hcr : CsR K β (l.take (len * m) ++ xs) (ccs.toList.take (len * m + 0) ++ ds ++ ccs.toList.drop (len * m + 0 + ds.length)).toArray := by
                refine ⟨by rw [hsz, hrow.1]; simp; omega, fun j u hj => ?_⟩
                obtain ⟨c, hc', hv⟩ := hrow.get hj
                have hj' : (ccs.toList.take (len * m + 0) ++ ds ++ ccs.toList.drop (len * m + 0 + ds.length))[j]? = some c := by
                  rw [List.getElem?_append_left (by have := (List.getElem?_eq_some_iff.1 hc').1; simpa using this)]; exact hc'
                simp only [List.append_assoc, Nat.add_zero] at hj'
                simpa [Array.getD_eq_getD_getElem?, hj'] using hv
              obtain ⟨m1, m2, m3, m4⟩ := hI.moved (l' := l.take (len * m) ++ xs) (w' := w.setRow b (ccs.toList.take (len * m + 0) ++ ds ++ ccs.toList.drop (len * m + 0 + ds.length)).toArray) ho hβ g4 hsz hcr (setRow_all w g4) (by simp) rfl rfl rfl
              exact ⟨_, _, K, _, hd2 _ (by simpa using hst), .own m2 hz hfit (by omega) hnn, m3, m4⟩
            · obtain ⟨os, ho1, ho2⟩ := hel.first len (Nat.le_refl _)
              rw [List.take_take, Nat.min_self] at ho2
              obtain ⟨k1, k2⟩ := hI.kill id
              have := grow (H1 := H.set id .dead) rfl (by omega) hc4 ho2 hel.size k1 k2 fun w' hd => ho1 w' hd.1
              simpa using this
        · cases h
      · cases h
  · cases h
end Fz
