/- Each operation is carried out as the abstract interpreter says: builtins, calls; the theorem. -/
import Derived.Test.YtpojglkaohhbkaaFzL
namespace Fz
open Go
section
variable {P : Program} {K : Kn} {β : Bi} {H : List Ob} {w : World} {nt : Nat} {e : Env} {a : Act} (hI : Inv K β H w) (hE : ER K β nt e a)
variable {dst : Option Tmp} {ty : TypeId} {pos : String} {after : Array Edge} {guard : Option (Nat × Bool)} {op : AOp} {r : OR}
include hI hE

theorem ok_makeSlice {t : TypeId} {l c : Operand} (hc : cOp P ⟨dst, .makeSlice t l c, ty, pos, after, guard⟩ = some op) (hr : evOp (evO e) H op = some r) : OpOk P K β H w ((execOp a.eval ⟨dst, .makeSlice t l c, ty, pos, after, guard⟩).run P w) r := by
  simp only [cOp] at hc
  split at hc
  · rename_i et hu
    split at hc <;> cases hc
    rename_i i z l' c' hi hz hl hcc
    have h1 := run_underlying hu w
    have h3 : (typeInfo et).run P w = .ok i w := by simp [typeInfo, hi]
    have h4 : (Go.sizeOf et).run P w = .ok i.size w := by simp [Go.sizeOf, typeInfo, hi]
    have hvl := hE.opd hl
    have hvc := hE.opd hcc
    obtain ⟨zc, hz1, hz2⟩ := zero_run hz K β
    simp only [evOp] at hr
    split at hr
    · rename_i k1 n1 k2 n2 e1 e2
      split at hr
      · rename_i hcond
        obtain ⟨g1, g2, g3, g4, g5, g6⟩ := hcond
        rw [e1] at hvl; rw [e2] at hvc
        generalize hcl : a.eval l = cl at hvl
        generalize hccc : a.eval c = cc at hvc
        cases hvl; cases hvc
        have w1 : IntKind.i64.wrap n1 = n1 := by
          unfold IntKind.wrap; simp [IntKind.signed, IntKind.bits]; omega
        have w2 : IntKind.i64.wrap n2 = n2 := by
          unfold IntKind.wrap; simp [IntKind.signed, IntKind.bits]; omega
        have t1 : ∀ n : Int, 0 ≤ n → n ≤ n2 → (decide (n < 0) || decide ((i.bytes : Int) * n > 2 ^ 48)) = false := by
          intro n h0 h1
          have : (i.bytes : Int) * n ≤ i.bytes * n2 := Int.mul_le_mul_of_nonneg_left h1 (by omega)
          have e3 : n2 * (i.bytes : Int) = i.bytes * n2 := Int.mul_comm _ _
          simp; omega
        have hzs : zc.cells.size = i.size := by rw [← g5]; simpa using hz2.1.symm
        have hrow := zeros_LR hz2 (by rw [g5]; exact g6) n2.toNat
        rw [hzs] at hrow
        by_cases hc0 : n2 = 0
        · subst hc0
          have hn1 : n1 = 0 := by omega
          subst hn1
          simp only [if_true, Option.some.injEq] at hr; subst hr
          refine ⟨.slice (some ⟨w.heap.size, 0, none⟩) 0 0, w.alloc (.cells #[] et), K, β, ?_, .lnil fun _ => rfl, ?_, ?_⟩
          · refine execOp_v ?_
            simp [Instr.makeSlice, h1, hcl, hccc, asInt, asIntOf, h3, h4, w1, newRow]
            congr 2
            apply Array.ext'; simp
          · have hget : ∀ b, b < w.heap.size → (w.alloc (.cells #[] et)).heap[b]? = w.heap[b]? := fun b hb => push_get hb
            refine ⟨fun b o hf => ?_, fun b z hz => ?_, hI.dom, fun id o ho => ?_, hI.inj⟩
            · have := hI.fixed b o hf; rw [hget b (heap_lt this)]; exact this
            · obtain ⟨cs, e', fr, q1, q2⟩ := hI.size b z hz
              exact ⟨cs, e', fr, by rw [hget b (heap_lt q1)]; exact q1, q2⟩
            · refine (hI.obj id o ho).mono K.le_refl (fun _ _ h => h) fun b hl hb hf => ⟨hf, hget b ?_⟩
              obtain ⟨b', q1, q2, _⟩ := (hI.obj id o ho).lt hl
              rw [hb] at q1; cases q1; exact q2
          · exact ⟨K.le_refl, fun _ _ h => h, Nat.le_refl _, fun x hx _ => push_get hx, by simp, rfl, rfl, rfl, fun _ h => .inl h, fun _ _ h => .inl h, fun _ _ => rfl⟩
        · rw [if_neg hc0] at hr
          simp only [Option.some.injEq] at hr; subst hr
          have hn0 : ¬ n2.toNat * i.size = 0 := Nat.mul_ne_zero (by omega) g6
          refine newSlice_ok (w' := w.alloc (.cells ((Array.range (n2.toNat * i.size)).map fun j => zc.cells[j % i.size]!) et)) (cap := n2.toNat) (t := et) hI (cs := (Array.range (n2.toNat * i.size)).map fun j => zc.cells[j % i.size]!) ?_ ?_ rfl rfl rfl rfl (by omega) (by simp) g6
          · have := hrow.csR; rwa [Array.toArray_toList] at this
          · refine execOp_v ?_
            have q1 := t1 n2 (by omega) (Int.le_refl _)
            simp only [Bool.or_eq_false_iff, decide_eq_false_iff_not] at q1
            have q2 : ¬ (281474976710656 : Int) < (i.bytes : Int) * n2 := by have := q1.2; omega
            have q3 : ¬ n2 < 0 := q1.1
            have q4 : ¬ n1 < 0 := by omega
            have q5 : ¬ n2 < n1 := by omega
            have q6 : ¬ n2 ≤ 0 := by omega
            simp [Instr.makeSlice, h1, hcl, hccc, asInt, asIntOf, h3, h4, w1, w2, newRow, q2, q3, q4, q5, q6, g6, hz1, hzs]
            exact fun h0 => absurd h0 hn0
      · cases hr
    · cases hr
  · cases hc

theorem ok_len {xs : Array Operand} {ats : Array TypeId} (hc : cOp P ⟨dst, .call ⟨.builtin .len, xs, ats⟩, ty, pos, after, guard⟩ = some op) (hr : evOp (evO e) H op = some r) : OpOk P K β H w ((execOp a.eval ⟨dst, .call ⟨.builtin .len, xs, ats⟩, ty, pos, after, guard⟩).run P w) r := by
  simp only [cOp] at hc
  split at hc
  · rename_i x t hx ht
    have hxs : xs = #[x] := Array.ext' (by simpa using hx)
    have hts : ats = #[t] := Array.ext' (by simpa using ht)
    subst hxs; subst hts
    have run : ∀ {c : Value}, (Builtin.len_ #[t] ty #[a.eval x]).run P w = .ok c w → (execOp a.eval ⟨dst, .call ⟨.builtin .len, #[x], #[t]⟩, ty, pos, after, guard⟩).run P w = .ok (.value c) w := by
      intro c hc
      simp [execOp, resolve, invoke, builtin, hc]
    split at hc <;> cases hc
    · rename_i n et y hu hy
      have h1 := run_underlying hu w
      simp only [evOp, Option.some.injEq] at hr; subst hr
      exact .pure hI (run (by simp [Builtin.len_, h1, goInt])) (.int _ _)
    · rename_i y hu hy
      have h1 := run_underlying hu w
      have hv := hE.opd hy
      simp only [evOp] at hr
      split at hr <;> cases hr
      rename_i heq; rw [heq] at hv
      generalize hcx : a.eval x = cx at hv
      cases hv
      exact .pure hI (run (by simp [Builtin.len_, h1, goInt, hcx])) (.int _ _)
    · rename_i et y hu hy
      have h1 := run_underlying hu w
      have hv := hE.opd hy
      simp only [evOp] at hr
      split at hr <;> cases hr
      · rename_i heq; rw [heq] at hv
        obtain ⟨a', cap, hcx, _⟩ := vr_slice hv
        exact .pure hI (run (by simp [Builtin.len_, h1, goInt, hcx])) (.int _ _)
      · rename_i heq; rw [heq] at hv
        generalize hcx : a.eval x = cx at hv
        cases hv
        exact .pure hI (run (by simp [Builtin.len_, h1, goInt, hcx])) (.int _ _)
  · cases hc

theorem ok_cap {xs : Array Operand} {ats : Array TypeId} (hc : cOp P ⟨dst, .call ⟨.builtin .cap, xs, ats⟩, ty, pos, after, guard⟩ = some op) (hr : evOp (evO e) H op = some r) : OpOk P K β H w ((execOp a.eval ⟨dst, .call ⟨.builtin .cap, xs, ats⟩, ty, pos, after, guard⟩).run P w) r := by
  simp only [cOp] at hc
  split at hc
  · rename_i x t hx ht
    have hxs : xs = #[x] := Array.ext' (by simpa using hx)
    have hts : ats = #[t] := Array.ext' (by simpa using ht)
    subst hxs; subst hts
    split at hc <;> cases hc
    rename_i et y hu hy
    have h1 := run_underlying hu w
    have hv := hE.opd hy
    simp only [evOp] at hr
    split at hr <;> cases hr
    rename_i heq; rw [heq] at hv
    obtain ⟨a', cap, hcx, _, h2⟩ := vr_slice hv
    have h2 := h2 rfl
    subst h2
    refine .pure (c := goInt _) hI ?_ (.int _ _)
    simp [execOp, resolve, invoke, builtin, Builtin.cap_, h1, goInt, hcx]
  · cases hc

theorem ok_max {xs : Array Operand} {ats : Array TypeId} (hc : cOp P ⟨dst, .call ⟨.builtin .max, xs, ats⟩, ty, pos, after, guard⟩ = some op) (hr : evOp (evO e) H op = some r) : OpOk P K β H w ((execOp a.eval ⟨dst, .call ⟨.builtin .max, xs, ats⟩, ty, pos, after, guard⟩).run P w) r := by
  simp only [cOp] at hc
  obtain ⟨l, hl, rfl⟩ := Option.map_eq_some_iff.1 hc
  have hlr := opds_LR hE hl
  simp only [evOp, ans, Option.map_eq_some_iff] at hr
  obtain ⟨v, hv, rfl⟩ := hr
  have hm : (xs.map a.eval).toList = xs.toList.map a.eval := by simp
  cases hx : xs.toList.map a.eval with
  | nil =>
    rw [hx] at hlr
    have := List.eq_nil_of_length_eq_zero hlr.1
    rw [this] at hv; simp [maxV] at hv
  | cons c cs =>
    cases hll : l.map (evO e) with
    | nil => rw [hll] at hv; simp [maxV] at hv
    | cons u us =>
      rw [hx, hll] at hlr
      obtain ⟨d, ds, e1, h1, h2⟩ := hlr.head
      cases e1
      rw [hll] at hv
      obtain ⟨q, hq, hvq⟩ := maxF_sound (P := P) (w := w) h1 h2 hv
      refine .pure (c := q) hI ?_ hvq
      simp [execOp, resolve, invoke, builtin, Builtin.max_, hm, hx, hq]

theorem ok_min {xs : Array Operand} {ats : Array TypeId} (hc : cOp P ⟨dst, .call ⟨.builtin .min, xs, ats⟩, ty, pos, after, guard⟩ = some op) (hr : evOp (evO e) H op = some r) : OpOk P K β H w ((execOp a.eval ⟨dst, .call ⟨.builtin .min, xs, ats⟩, ty, pos, after, guard⟩).run P w) r := by
  simp only [cOp] at hc
  obtain ⟨l, hl, rfl⟩ := Option.map_eq_some_iff.1 hc
  have hlr := opds_LR hE hl
  simp only [evOp, ans, Option.map_eq_some_iff] at hr
  obtain ⟨v, hv, rfl⟩ := hr
  have hm : (xs.map a.eval).toList = xs.toList.map a.eval := by simp
  cases hx : xs.toList.map a.eval with
  | nil =>
    rw [hx] at hlr
    have := List.eq_nil_of_length_eq_zero hlr.1
    rw [this] at hv; simp [minV] at hv
  | cons c cs =>
    cases hll : l.map (evO e) with
    | nil => rw [hll] at hv; simp [minV] at hv
    | cons u us =>
      rw [hx, hll] at hlr
      obtain ⟨d, ds, e1, h1, h2⟩ := hlr.head
      cases e1
      rw [hll] at hv
      obtain ⟨q, hq, hvq⟩ := minF_sound (P := P) (w := w) h1 h2 hv
      refine .pure (c := q) hI ?_ hvq
      simp [execOp, resolve, invoke, builtin, Builtin.min_, hm, hx, hq]

theorem panic_run {x : Operand} {y : Opd} (hy : cOpd x = some y) (hr : evOp (evO e) H (.panic y) = some r) {res : Result Next} (hres : res = (do pure (.value (← Instr.panic (a.eval x))) : Sem Next).run P w) : OpOk P K β H w res r := by
  have hv := hE.opd hy
  simp only [evOp] at hr
  split at hr <;> cases hr
  rename_i heq; rw [heq] at hv
  refine ⟨a.eval x, w, K, β, ?_, hv, hI, .refl K β H w⟩
  generalize a.eval x = cx at *
  cases hv
  rw [hres]; simp [Instr.panic]

theorem ok_panicB {xs : Array Operand} {ats : Array TypeId} (hc : cOp P ⟨dst, .call ⟨.builtin .panic, xs, ats⟩, ty, pos, after, guard⟩ = some op) (hr : evOp (evO e) H op = some r) : OpOk P K β H w ((execOp a.eval ⟨dst, .call ⟨.builtin .panic, xs, ats⟩, ty, pos, after, guard⟩).run P w) r := by
  simp only [cOp] at hc
  split at hc
  · rename_i x hx
    have hxs : xs = #[x] := Array.ext' (by simpa using hx)
    subst hxs
    obtain ⟨y, hy, rfl⟩ := Option.map_eq_some_iff.1 hc
    exact panic_run hI hE hy hr (by simp [execOp, resolve, invoke, builtin])
  · cases hc

theorem ok_panic {x : Operand} (hc : cOp P ⟨dst, .panic x, ty, pos, after, guard⟩ = some op) (hr : evOp (evO e) H op = some r) : OpOk P K β H w ((execOp a.eval ⟨dst, .panic x, ty, pos, after, guard⟩).run P w) r := by
  simp only [cOp] at hc
  obtain ⟨y, hy, rfl⟩ := Option.map_eq_some_iff.1 hc
  exact panic_run hI hE hy hr rfl

omit hI in
theorem ok_callF {f : FuncId} {xs : Array Operand} {ats : Array TypeId} (hc : cOp P ⟨dst, .call ⟨.value (.func f), xs, ats⟩, ty, pos, after, guard⟩ = some op) (hr : evOp (evO e) H op = some r) : OpOk P K β H w ((execOp a.eval ⟨dst, .call ⟨.value (.func f), xs, ats⟩, ty, pos, after, guard⟩).run P w) r := by
  simp only [cOp] at hc
  obtain ⟨l, hl, rfl⟩ := Option.map_eq_some_iff.1 hc
  simp only [evOp, Option.some.injEq] at hr; subst hr
  refine ⟨xs.map a.eval, ?_, by simpa using opds_LR hE hl⟩
  simp [execOp, resolve, Act.eval, Deferred.ofValue, invoke]

omit hI in
theorem ok_callV {g : Operand} {y : Opd} {l : List Opd} {xs : Array Operand} {ats : Array TypeId} (hg : cOpd g = some y) (hl : mapOpt cOpd xs.toList = some l) (hr : evOp (evO e) H (.callv y l) = some r) :
    OpOk P K β H w ((execOp a.eval ⟨dst, .call ⟨.value g, xs, ats⟩, ty, pos, after, guard⟩).run P w) r := by
  simp only [evOp] at hr
  split at hr <;> cases hr
  rename_i f first captured heq
  have hv := hE.opd hg
  rw [heq] at hv
  generalize hcg : a.eval g = cg at hv
  cases hv with
  | fn h1 h2 h3 h4 =>
    rename_i cs ds
    refine ⟨cs ++ xs.map a.eval ++ ds, ?_, ?_⟩
    · simp [execOp, resolve, hcg, Deferred.ofValue, invoke]
    · have := ((LR.of_arr h1 h2).append (opds_LR hE hl)).append (LR.of_arr h3 h4)
      simpa using this
end
end Fz
