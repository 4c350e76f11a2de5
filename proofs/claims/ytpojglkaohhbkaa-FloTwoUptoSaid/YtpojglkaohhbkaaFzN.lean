/- Each operation is carried out as the abstract interpreter says: append, copy, clear; the theorem. -/
import Derived.Test.YtpojglkaohhbkaaFzNA
namespace Fz
open Go
theorem none_some {α : Type} {x : α} {p : Prop} (h : (none : Option α) = some x) : p := by cases h

section
variable {P : Program} {K : Kn} {β : Bi} {H : List Ob} {w : World} {nt : Nat} {e : Env} {a : Act} (hI : Inv K β H w) (hE : ER K β nt e a)
variable {dst : Option Tmp} {ty : TypeId} {pos : String} {after : Array Edge} {guard : Option (Nat × Bool)} {op : AOp} {r : OR}
include hI hE

omit hI hE in
theorem zero_cells {t : TypeId} {i : TypeInfo} {z : List V} (hi : P.info? t = some i) (hz : tZero P t = some z) : (i.zero.map fun z => z.cells.size) = some z.length := by
  unfold tZero at hz
  simp only [hi, Option.bind_some, Option.bind_eq_some_iff] at hz
  obtain ⟨c, hc, hz⟩ := hz
  obtain ⟨v, hv, rfl⟩ := Option.map_eq_some_iff.1 hz
  have := cells_LR (ofVal_VR ⟨fun _ => none, fun _ => none⟩ (fun _ => none) 4 c v hv) (ofVal_any hv)
  rw [hc, Option.map_some, this.1]; simp

theorem ok_append {xs : Array Operand} {ats : Array TypeId} (hc : cOp P ⟨dst, .call ⟨.builtin .append, xs, ats⟩, ty, pos, after, guard⟩ = some op) (hr : evOp (evO e) H op = some r) : OpOk P K β H w ((execOp a.eval ⟨dst, .call ⟨.builtin .append, xs, ats⟩, ty, pos, after, guard⟩).run P w) r := by
  simp only [cOp] at hc
  split at hc
  · rename_i s x t u hx ht
    have hxs : xs = #[s, x] := Array.ext' (by simpa using hx)
    have hts : ats = #[t, u] := Array.ext' (by simpa using ht)
    subst hxs; subst hts
    have run : ∀ {c : Value} {w' : World}, (Builtin.append_ #[t, u] ty #[a.eval s, a.eval x]).run P w = .ok c w' → (execOp a.eval ⟨dst, .call ⟨.builtin .append, #[s, x], #[t, u]⟩, ty, pos, after, guard⟩).run P w = .ok (.value c) w' := by
      intro c w' hc
      simp [execOp, resolve, invoke, builtin, hc]
    split at hc
    · rename_i et s' x' hu hs' hx'
      have hvs := hE.opd hs'
      have hvx := hE.opd hx'
      split at hc
      · rename_i i kk hi hku
        simp only [Option.bind_eq_some_iff] at hc
        obtain ⟨z, hz, hc⟩ := hc
        split at hc <;> cases hc
        rename_i hcond
        simp only [not_or, ne_eq, Decidable.not_not] at hcond
        simp only [evOp] at hr
        split at hr
        · rename_i k l heq
          split at hr
          · rename_i hb
            obtain ⟨b1, b2, b3, b4⟩ := hb
            split at hr <;> cases hr
            rename_i v H' hap
            rw [heq] at hvx
            generalize hcx : a.eval x = cx at hvx run
            cases hvx
            obtain ⟨zc, hz1, hz2⟩ := zero_run hz K β
            have hzs : zc.cells.size = i.size := by rw [← hcond.2]; simpa using hz2.1.symm
            have hwr : IntKind.i64.wrap l = l := by
              unfold IntKind.wrap; simp [IntKind.signed, IntKind.bits]; omega
            have ha : AppArg P K β w i.size i.bytes u et (.int k l) (zeros z l.toNat) l.toNat := by
              refine ⟨by rw [zeros_len, hcond.2], _, hku, .inr ⟨⟨kk, rfl⟩, ⟨k, l, rfl, b1, rfl, hwr, b3⟩, zc, hz1, hzs, ?_⟩⟩
              exact zeros_LR hz2 (by rw [hcond.2]; exact hcond.1) l.toNat
            obtain ⟨c, w', K', β', q1, q2, q3, q4⟩ := appendV_sound (ty := ty) hI hu hi rfl rfl (by rw [zero_cells hi hz, hcond.2]) hcond.1 hvs ha hap
            exact ⟨c, w', K', β', run q1, q2, q3, q4⟩
          · cases hr
        · cases hr
      · rename_i i d hnint hi hku
        simp only [Option.bind_eq_some_iff] at hc
        obtain ⟨z, hz, hc⟩ := hc
        split at hc <;> cases hc
        rename_i hcond
        simp only [not_or, ne_eq, Decidable.not_not] at hcond
        simp only [evOp] at hr
        split at hr
        · rename_i ys k hel
          split at hr <;> cases hr
          rename_i v H' hap
          have he := elems_sound (P := P) hI hvx hel
          obtain ⟨ds, hd1, hd2⟩ := he.first k (Nat.le_refl _)
          rw [← he.size, List.take_length] at hd2
          have ha : AppArg P K β w i.size i.bytes u et (a.eval x) ys k :=
            ⟨he.size, _, hku, .inl ⟨fun kk hkk => by subst hkk; first | exact hnint _ _ hi hku | exact hnint _ _ rfl rfl | exact hnint kk rfl | exact hnint _ _ rfl hku | trace_state, he.len, ds, fun w' hw' => hd1 w' hw'.1, hd2⟩⟩
          obtain ⟨c, w', K', β', q1, q2, q3, q4⟩ := appendV_sound (ty := ty) hI hu hi rfl rfl (by rw [zero_cells hi hz, hcond.2]) hcond.1 hvs ha hap
          exact ⟨c, w', K', β', run q1, q2, q3, q4⟩
        · cases hr
      · cases hc
    · cases hc
  · cases hc

theorem ok_buildSlice {t : TypeId} {len : Nat} {ps : Array (Nat × Operand)} (hc : cOp P ⟨dst, .buildSlice t len ps, ty, pos, after, guard⟩ = some op) (hr : evOp (evO e) H op = some r) : OpOk P K β H w ((execOp a.eval ⟨dst, .buildSlice t len ps, ty, pos, after, guard⟩).run P w) r := by
  simp only [cOp] at hc
  split at hc
  · rename_i et hu
    split at hc
    · rename_i s z hs hz
      split at hc
      · rename_i hcond
        obtain ⟨g1, g2, g3⟩ := hcond
        obtain ⟨qs, hq, rfl⟩ := Option.map_eq_some_iff.1 hc
        have h1 := run_underlying hu w
        have h2 := sizeOf_run hs w
        obtain ⟨zc, hz1, hz2⟩ := zero_run hz K β
        have hzs : zc.cells.size = s := by rw [← g2]; simpa using hz2.1.symm
        simp only [evOp] at hr
        split at hr
        · rename_i cells hfl
          obtain ⟨p1, p2⟩ := parts_R (P := P) hE hq
          have hz3 := zeros_LR hz2 (by rw [g2]; exact g3) len
          rw [hzs] at hz3
          obtain ⟨cs, hf, hlr⟩ := fill_sound (K := K) (β := β) (place := fun i => some (i * s, s)) _ _ ((Array.range (len * s)).map fun i => zc.cells[i % s]!) (zeros z len) cells p1 p2 hz3 hfl
          have hcl : cells.length = len * s := by
            have key : ∀ (qs : List (Nat × Nat × V)) (z l : List V), fillV z qs = some l → l.length = z.length := by
              intro qs
              induction qs with
              | nil => intro z l h; simp [fillV] at h; rw [h]
              | cons q qs ih =>
                obtain ⟨off, n, v⟩ := q
                intro z l h
                simp only [fillV] at h
                split at h
                · rename_i hcc
                  rw [ih _ _ h]
                  simp [splice]; omega
                · cases h
            rw [key _ _ _ hfl, zeros_len, g2]
          have hcs : cs.size = len * s := by rw [← hcl]; simpa using hlr.1.symm
          have hrun : (Instr.buildSlice t len (ps.map fun (i, x) => (i, a.eval x))).run P w = .ok (.slice (some ⟨w.heap.size, 0, none⟩) len len) (w.alloc (.cells cs et)) := by
            have hf' : Instr.fill (fun i => some (i * s, s)) ((Array.range (len * s)).map fun i => zc.cells[i % s]!) (ps.map fun (i, x) => (i, a.eval x)).toList = some cs := by simpa using hf
            have g1' : ¬ len * s > 16777216 := by omega
            by_cases hl0 : len * s = 0
            · have e0 : ((Array.range (len * s)).map fun i => (#[] : Array Value)[i % (#[] : Array Value).size]!) = ((Array.range (len * s)).map fun i => zc.cells[i % s]!) := by
                rw [hl0]; apply Array.ext'; simp
              simp only [Instr.buildSlice, Sem.run_bind, h1, Result.andThen_ok, h2]
              rw [if_neg (by omega), if_pos hl0]
              simp only [Sem.run_bind, Sem.run_pure, Result.andThen_ok]
              simp only [e0, hf']
              rfl
            · simp only [Instr.buildSlice, Sem.run_bind, h1, Result.andThen_ok, h2]
              rw [if_neg (by omega), if_neg hl0]
              simp only [Sem.run_bind, hz1, Sem.run_pure, Result.andThen_ok, hzs]
              simp only [hf']
              rfl
          split at hr
          · rename_i hl0
            cases hr
            subst hl0
            have hI' := hI.new (w' := w.alloc (.cells cs et)) (l := []) (e := et) ⟨Nat.zero_le _, fun i v h => by simp at h⟩ rfl rfl rfl rfl
            have hget : ∀ b, b < w.heap.size → (w.alloc (.cells cs et)).heap[b]? = w.heap[b]? := fun b hb => push_get hb
            refine ⟨_, w.alloc (.cells cs et), K, β, execOp_v hrun, .lnil fun _ => rfl, ?_, ?_⟩
            · refine ⟨fun b o hf => ?_, fun b z hz => ?_, hI.dom, fun id o ho => ?_, hI.inj⟩
              · have := hI.fixed b o hf; rw [hget b (heap_lt this)]; exact this
              · obtain ⟨cs, e', fr, q1, q2⟩ := hI.size b z hz
                exact ⟨cs, e', fr, by rw [hget b (heap_lt q1)]; exact q1, q2⟩
              · refine (hI.obj id o ho).mono K.le_refl (fun _ _ h => h) fun b hl hb hf => ⟨hf, hget b ?_⟩
                obtain ⟨b', q1, q2, _⟩ := (hI.obj id o ho).lt hl
                rw [hb] at q1; cases q1; exact q2
            · exact ⟨K.le_refl, fun _ _ h => h, Nat.le_refl _, fun x hx _ => push_get hx, by simp, rfl, rfl, rfl, fun _ h => .inl h, fun _ _ h => .inl h, fun _ _ => rfl⟩
          · cases hr
            refine newSlice_ok (w' := w.alloc (.cells cs et)) (cap := len) (t := et) hI (cs := cs) ?_ (execOp_v hrun) rfl rfl rfl rfl (Nat.le_refl _) (by omega) g3
            have := hlr.csR; rwa [Array.toArray_toList] at this
        · cases hr
      · cases hc
    · cases hc
  · cases hc

theorem ok_copy {xs : Array Operand} {ats : Array TypeId} (hc : cOp P ⟨dst, .call ⟨.builtin .copy, xs, ats⟩, ty, pos, after, guard⟩ = some op) (hr : evOp (evO e) H op = some r) : OpOk P K β H w ((execOp a.eval ⟨dst, .call ⟨.builtin .copy, xs, ats⟩, ty, pos, after, guard⟩).run P w) r := by
  simp only [cOp] at hc
  split at hc
  · rename_i d s t u hx ht
    have hxs : xs = #[d, s] := Array.ext' (by simpa using hx)
    have hts : ats = #[t, u] := Array.ext' (by simpa using ht)
    subst hxs; subst hts
    have run : ∀ {c : Value} {w' : World}, (Builtin.copy_ #[t, u] ty #[a.eval d, a.eval s]).run P w = .ok c w' → (execOp a.eval ⟨dst, .call ⟨.builtin .copy, #[d, s], #[t, u]⟩, ty, pos, after, guard⟩).run P w = .ok (.value c) w' := by
      intro c w' hc
      simp [execOp, resolve, invoke, builtin, hc]
    split at hc
    · rename_i et d' s' hu hd' hs'
      simp only [Option.bind_eq_some_iff] at hc
      obtain ⟨n, hn, hc⟩ := hc
      split at hc <;> cases hc
      rename_i hn0
      have hvd := hE.opd hd'
      have hvs := hE.opd hs'
      have h1 := run_underlying hu w
      have h2 := sizeOf_run hn w
      simp only [evOp] at hr
      split at hr
      · rename_i c' p heq hel
        cases hr
        have he := elems_sound (P := P) hI hvs (xs := p.1) (k := p.2) hel
        rw [heq] at hvd
        obtain ⟨aa, cap, hcd, _, _⟩ := vr_slice hvd
        obtain ⟨ds, hd1, hd2⟩ := he.first 0 (Nat.zero_le _)
        have hnil : ds = [] := List.eq_nil_of_length_eq_zero (by rw [← hd2.1]; simp)
        subst hnil
        have hd1 := hd1 w rfl
        refine .pure (c := goInt 0) hI (run ?_) (.int _ _)
        have hm : Nat.min p.2 0 = 0 := Nat.min_zero _
        rw [hcd]
        cases aa <;> simp [Builtin.copy_, h1, h2, he.len, hm, hd1, storeCells]
      · rename_i id off len m ys k heq hel
        split at hr
        · rename_i l ho
          split at hr <;> cases hr
          rename_i hcond
          obtain ⟨rfl, g2, g3⟩ := hcond
          have he := elems_sound (P := P) hI hvs hel
          rw [heq] at hvd
          generalize hcd : a.eval d = cd at hvd
          cases hvd with
          | own hβ hz hl hz' hnn =>
            obtain ⟨ds, hd1, hd2⟩ := he.first (Nat.min k len) (Nat.min_le_left _ _)
            have hd1 := hd1 w rfl
            have hxl : (ys.take (Nat.min k len * m)).length = Nat.min k len * m := by
              rw [List.length_take, he.size]
              exact Nat.min_eq_left (Nat.mul_le_mul_right m (Nat.min_le_left _ _))
            have hml : Nat.min k len * m ≤ len * m := Nat.mul_le_mul_right m (Nat.min_le_right _ _)
            have hfit : off + (ys.take (Nat.min k len * m)).length ≤ l.length := by
              rw [hxl]
              exact Nat.le_trans (Nat.add_le_add_left hml off) g2
            obtain ⟨w', q1, q2, q3⟩ := write_ok (P := P) hI ho hβ hd2 hfit g3
            refine ⟨goInt (Nat.min k len : Nat), w', K, β, run ?_, .int _ _, q2, q3⟩
            simp [Builtin.copy_, h1, h2, he.len, hcd, hd1, q1]
        · cases hr
      · cases hr
    · cases hc
  · cases hc

theorem ok_clear {xs : Array Operand} {ats : Array TypeId} (hc : cOp P ⟨dst, .call ⟨.builtin .clear, xs, ats⟩, ty, pos, after, guard⟩ = some op) (hr : evOp (evO e) H op = some r) : OpOk P K β H w ((execOp a.eval ⟨dst, .call ⟨.builtin .clear, xs, ats⟩, ty, pos, after, guard⟩).run P w) r := by
  simp only [cOp] at hc
  split at hc
  · rename_i d t hx ht
    have hxs : xs = #[d] := Array.ext' (by simpa using hx)
    have hts : ats = #[t] := Array.ext' (by simpa using ht)
    subst hxs; subst hts
    have run : ∀ {c : Value} {w' : World}, (Builtin.clear_ #[t] ty #[a.eval d]).run P w = .ok c w' → (execOp a.eval ⟨dst, .call ⟨.builtin .clear, #[d], #[t]⟩, ty, pos, after, guard⟩).run P w = .ok (.value c) w' := by
      intro c w' hc
      simp [execOp, resolve, invoke, builtin, hc]
    split at hc
    · rename_i et d' hu hd'
      split at hc
      · rename_i n z hn hz
        split at hc <;> cases hc
        rename_i hcond
        simp only [not_or, ne_eq, Decidable.not_not] at hcond
        have hvd := hE.opd hd'
        have h1 := run_underlying hu w
        have huv : VR K β uv (.tuple #[]) := .tuple rfl fun i v h => by simp at h
        simp only [evOp] at hr
        split at hr
        · rename_i c' heq
          cases hr
          rw [heq] at hvd
          obtain ⟨aa, cap, hcd, _, _⟩ := vr_slice hvd
          refine .pure (c := .tuple #[]) hI (run ?_) huv
          rw [hcd]
          cases aa <;> simp [Builtin.clear_, h1]
        · rename_i id off len m heq
          split at hr
          · rename_i l ho
            split at hr <;> cases hr
            rename_i hc2
            obtain ⟨rfl, g2, g3, g4⟩ := hc2
            rw [heq] at hvd
            generalize hcd : a.eval d = cd at hvd
            cases hvd with
            | own hβ hz' hl hz2 hnn =>
              obtain ⟨zc, hz1, hz2⟩ := zero_run hz K β
              have hzl := zeros_LR hz2 (by rw [g2]; exact hnn) len
              have hst : (zeros z len).all storable = true := by
                have : ∀ k, (zeros z k).all storable = true := by
                  intro k
                  induction k with
                  | zero => rfl
                  | succ k ih => simp only [zeros, List.all_append, g4, ih]; rfl
                exact this len
              obtain ⟨w', q1, q2, q3⟩ := write_ok (P := P) hI ho hβ hzl (by rw [zeros_len, g2]; exact g3) hst
              refine ⟨.tuple #[], w', K, β, run ?_, .tuple rfl fun i v h => by simp at h, q2, q3⟩
              by_cases hl0 : len = 0
              · subst hl0
                have hw : w' = w := by
                  simp only [Nat.zero_mul] at q1
                  have e0 : ((Array.range 0).map fun i => zc.cells[i % zc.cells.size]!).toList = [] := by simp
                  rw [e0] at q1
                  simp only [storeCells, Sem.run_pure] at q1
                  injection q1 with _ h; exact h.symm
                subst hw
                simp [Builtin.clear_, h1, hcd]
              · have e1 : (Builtin.zeroCells zc.cells len).toList = ((Array.range (len * zc.cells.size)).map fun i => zc.cells[i % zc.cells.size]!).toList := rfl
                rw [← e1] at q1
                obtain ⟨len, rfl⟩ : ∃ q, len = q + 1 := ⟨len - 1, by omega⟩
                simp [Builtin.clear_, h1, hcd, hz1, q1]
          · cases hr
        · cases hr
      · cases hc
    · cases hc
  · cases hc

theorem evOp_sound {o : Oper} (hc : cOp P o = some op) (hr : evOp (evO e) H op = some r) : OpOk P K β H w ((execOp a.eval o).run P w) r := by
  obtain ⟨dst, op', ty, pos, after, guard⟩ := o
  cases op' with
  | move x => exact ok_mov hI hE rfl (by simpa only [cOp] using hc) hr
  | assign x => exact ok_mov hI hE rfl (by simpa only [cOp] using hc) hr
  | pick c x y => exact ok_pick hI hE hc hr
  | alloc t => exact ok_alloc hI hc hr
  | box t x => exact ok_box hI hE hc hr
  | build t ps => exact ok_build hI hE hc hr
  | load t x => exact ok_load hI hE hc hr
  | store t x y => exact ok_store hI hE hc hr
  | nilCheck x => exact ok_nilCheck hI hE hc hr
  | binOp b t x y yt => exact ok_bin hI hE hc hr
  | unOp u t x => exact ok_un hI hE hc hr
  | convert s d x => exact ok_conv hI hE hc hr
  | makeInterface t x => exact ok_makeIface hI hE hc hr
  | makeFunc f x y => exact ok_makeFunc hI hE hc hr
  | makeSlice t l c => exact ok_makeSlice hI hE hc hr
  | slice t x lo hi mx => exact ok_slice hI hE hc hr
  | fieldAddr t x f => exact ok_fieldAddr hI hE hc hr
  | field t x f => exact ok_field hI hE hc hr
  | indexAddr t x i => exact ok_indexAddr hI hE hc hr
  | index t x i => exact ok_index hI hE hc hr
  | extract x i => exact ok_extract hI hE hc hr
  | panic x => exact ok_panic hI hE hc hr
  | buildSlice t len ps => exact ok_buildSlice hI hE hc hr
  | makeMap t o => exact ok_makeMap hI hE hc hr
  | insert t m k x => exact mapPut_ok hI hE (by simpa only [cOp] using hc) hr
  | mapUpdate t m k x => exact mapPut_ok hI hE (by simpa only [cOp] using hc) hr
  | lookup t m k ok => exact ok_lookup hI hE hc hr
  | range t x => exact ok_range hI hE hc hr
  | next it b => cases b with
    | true => exact ok_next hI hE hc hr
    | false => exact none_some (show (none : Option AOp) = some op from hc)
  | typeAssert x xt t ok => exact ok_typeAssert hI hE hc hr
  | call c =>
    obtain ⟨callee, args, ats⟩ := c
    cases callee with
    | value g =>
      cases g with
      | func f => exact ok_callF hE hc hr
      | tmp t =>
        simp only [cOp] at hc
        split at hc <;> cases hc
        exact ok_callV hE ‹_› ‹_› hr
      | const v =>
        simp only [cOp] at hc
        split at hc <;> cases hc
        exact ok_callV hE ‹_› ‹_› hr
      | global g => exact none_some (show (none : Option AOp) = some op from hc)
    | invoke r m => exact none_some (show (none : Option AOp) = some op from hc)
    | builtin b =>
      cases b with
      | len => exact ok_len hI hE hc hr
      | cap => exact ok_cap hI hE hc hr
      | append => exact ok_append hI hE hc hr
      | copy => exact ok_copy hI hE hc hr
      | clear => exact ok_clear hI hE hc hr
      | max => exact ok_max hI hE hc hr
      | min => exact ok_min hI hE hc hr
      | panic => exact ok_panicB hI hE hc hr
      | _ => exact none_some (show (none : Option AOp) = some op from hc)
  | _ => exact none_some (show (none : Option AOp) = some op from hc)
end
end Fz
