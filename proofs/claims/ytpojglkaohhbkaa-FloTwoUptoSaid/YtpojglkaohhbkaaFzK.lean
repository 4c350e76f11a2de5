/- Each operation is carried out as the abstract interpreter says: the theorem. -/
import Derived.Test.YtpojglkaohhbkaaFzJ
namespace Fz
open Go
theorem places_run {P : Program} {fs : Array Field} {pl : List (Nat × Nat)} (h : mapOpt (fun f => (tSize P f.type).map fun s => (f.offset, s)) fs.toList = some pl) (w : World) :
    (fs.mapM fun f => do pure (f.offset, ← Go.sizeOf f.type) : Sem (Array (Nat × Nat))).run P w = .ok pl.toArray w := by
  have key : ∀ (l : List Field) (pl : List (Nat × Nat)), mapOpt (fun f => (tSize P f.type).map fun s => (f.offset, s)) l = some pl →
      (l.mapM fun f => do pure (f.offset, ← Go.sizeOf f.type) : Sem (List (Nat × Nat))).run P w = .ok pl w := by
    intro l
    induction l with
    | nil => intro pl h; simp [mapOpt] at h; subst h; rfl
    | cons f l ih =>
      intro pl h
      simp only [mapOpt] at h
      split at h <;> cases h
      rename_i x y hx hy
      obtain ⟨s, hs, rfl⟩ := Option.map_eq_some_iff.1 hx
      simp only [List.mapM_cons, Sem.run_bind, sizeOf_run hs, Result.andThen_ok, Sem.run_pure, ih _ hy]
  rw [Array.mapM_eq_mapM_toList, Sem.run_map, key _ _ h]
  rfl
section
variable {P : Program} {K : Kn} {β : Bi} {H : List Ob} {w : World} {nt : Nat} {e : Env} {a : Act} (hI : Inv K β H w) (hE : ER K β nt e a)
variable {dst : Option Tmp} {ty : TypeId} {pos : String} {after : Array Edge} {guard : Option (Nat × Bool)} {op : AOp} {r : OR}
include hI hE

theorem ok_mov {x : Operand} {o : Oper} (ho : execOp a.eval o = pure (.value (a.eval x))) (hc : (cOpd x).map AOp.mov = some op) (hr : evOp (evO e) H op = some r) : OpOk P K β H w ((execOp a.eval o).run P w) r := by
  obtain ⟨y, hy, rfl⟩ := Option.map_eq_some_iff.1 hc
  simp only [evOp, Option.some.injEq] at hr; subst hr
  exact .pure hI (by rw [ho]; rfl) (hE.opd hy)

theorem ok_pick {c x y : Operand} (hc : cOp P ⟨dst, .pick c x y, ty, pos, after, guard⟩ = some op) (hr : evOp (evO e) H op = some r) : OpOk P K β H w ((execOp a.eval ⟨dst, .pick c x y, ty, pos, after, guard⟩).run P w) r := by
  simp only [cOp] at hc
  split at hc <;> cases hc
  rename_i c' x' y' h1 h2 h3
  have hv := hE.opd h1
  simp only [evOp] at hr
  split at hr <;> cases hr
  rename_i t ht
  rw [ht] at hv
  generalize hcc : a.eval c = cc at hv
  cases hv
  refine .pure (c := if t then a.eval x else a.eval y) hI ?_ ?_
  · cases t <;> simp [execOp, asBool, hcc]
  · cases t <;> simp <;> first | exact hE.opd h2 | exact hE.opd h3

omit hE in
theorem ok_alloc {t : TypeId} (hc : cOp P ⟨dst, .alloc t, ty, pos, after, guard⟩ = some op) (hr : evOp (evO e) H op = some r) : OpOk P K β H w ((execOp a.eval ⟨dst, .alloc t, ty, pos, after, guard⟩).run P w) r := by
  simp only [cOp] at hc
  obtain ⟨z, hz, rfl⟩ := Option.map_eq_some_iff.1 hc
  simp only [evOp, Option.some.injEq] at hr; subst hr
  obtain ⟨c, hc1, hc2⟩ := zero_run hz K β
  refine new_ok (w' := w.alloc (.cells c.cells t)) hI (cs := c.cells) (t := t) ?_ ?_ rfl rfl rfl rfl
  · have := hc2.csR; simpa using this
  · exact execOp_v (by simp [Instr.alloc, hc1, newVar, newRow])

theorem ok_box {t : TypeId} {x : Operand} (hc : cOp P ⟨dst, .box t x, ty, pos, after, guard⟩ = some op) (hr : evOp (evO e) H op = some r) : OpOk P K β H w ((execOp a.eval ⟨dst, .box t x, ty, pos, after, guard⟩).run P w) r := by
  simp only [cOp] at hc
  obtain ⟨y, hy, rfl⟩ := Option.map_eq_some_iff.1 hc
  simp only [evOp] at hr
  split at hr <;> cases hr
  rename_i hne
  have hvr := hE.opd hy
  have := (cells_LR hvr (by intro h; rw [h] at hne; exact hne rfl)).csR
  refine new_ok (w' := w.alloc (.cells (a.eval x).cells t)) hI (cs := (a.eval x).cells) (t := t) ?_ ?_ rfl rfl rfl rfl
  · simpa using this
  · exact execOp_v (by simp [Instr.box, newVar, newRow])

theorem ok_build {t : TypeId} {ps : Array (Nat × Operand)} (hc : cOp P ⟨dst, .build t ps, ty, pos, after, guard⟩ = some op) (hr : evOp (evO e) H op = some r) : OpOk P K β H w ((execOp a.eval ⟨dst, .build t ps, ty, pos, after, guard⟩).run P w) r := by
  simp only [cOp] at hc
  have fin : ∀ {z : List V} {place : Nat → Option (Nat × Nat)} {qs : List (Nat × Nat × Opd)}, tZero P t = some z → cParts P place ps.toList = some qs → op = .build z qs →
      (∀ (c : Value) cs, (∀ w, (zeroValue t).run P w = .ok c w) → Instr.fill place c.cells (ps.map fun (i, x) => (i, a.eval x)).toList = some cs → (Instr.build t (ps.map fun (i, x) => (i, a.eval x))).run P w = .ok (.agg cs) w) →
      OpOk P K β H w ((execOp a.eval ⟨dst, .build t ps, ty, pos, after, guard⟩).run P w) r := by
    intro z place qs hz hq hop hb
    subst hop
    simp only [evOp, ans, Option.map_eq_some_iff] at hr
    obtain ⟨v, ⟨l, hl, rfl⟩, rfl⟩ := hr
    obtain ⟨c, hc1, hc2⟩ := zero_run hz K β
    obtain ⟨g1, g2⟩ := parts_R (P := P) hE hq
    obtain ⟨cs, hf, hlr⟩ := fill_sound (K := K) (β := β) (place := place) _ _ c.cells z l g1 g2 hc2 hl
    refine .pure hI (execOp_v (hb c cs hc1 ?_)) (.agg hlr.to_arr.1 hlr.to_arr.2)
    simpa using hf
  split at hc
  · rename_i fs z hu hz
    simp only [Option.bind_eq_some_iff] at hc
    obtain ⟨pl, hpl, hc⟩ := hc
    obtain ⟨qs, hq, hop⟩ := Option.map_eq_some_iff.1 hc
    refine fin hz hq hop.symm fun c cs hc1 hf => ?_
    have h1 := run_underlying hu w
    have h2 := places_run hpl w
    simp only [Instr.build, Sem.run_bind, hc1, Result.andThen_ok, h1, h2]
    simp only [List.getElem?_toArray, hf]
    rfl
  · rename_i n et z hu hz
    simp only [Option.bind_eq_some_iff] at hc
    obtain ⟨s, hs, hc⟩ := hc
    obtain ⟨qs, hq, hop⟩ := Option.map_eq_some_iff.1 hc
    refine fin hz hq hop.symm fun c cs hc1 hf => ?_
    have h1 := run_underlying hu w
    have h2 := sizeOf_run hs w
    simp only [Instr.build, Sem.run_bind, hc1, Result.andThen_ok, h1, h2]
    simp only [hf]
    rfl
  · cases hc

theorem ok_load {t : TypeId} {x : Operand} (hc : cOp P ⟨dst, .load t x, ty, pos, after, guard⟩ = some op) (hr : evOp (evO e) H op = some r) : OpOk P K β H w ((execOp a.eval ⟨dst, .load t x, ty, pos, after, guard⟩).run P w) r := by
  simp only [cOp] at hc
  split at hc
  · rename_i g n y hg hn hy
    split at hc <;> cases hc
    simp only [evOp] at hr
    split at hr
    · rename_i l hl
      obtain ⟨b, o, hcx, h1, h2⟩ := loadVar_sound (P := P) hI (hE.opd hy) hl hg hn
      cases g with
      | true =>
        simp only [if_true, Option.some.injEq] at hr; subst hr
        obtain ⟨d, hd, hv⟩ := h1 rfl
        exact .pure hI (execOp_v (by simp [Instr.loadAt, hcx, Instr.sureAddr, hd])) hv
      | false =>
        simp only [Bool.false_eq_true, if_false] at hr
        split at hr <;> cases hr
        obtain ⟨d, hd, hv⟩ := h2 rfl _ rfl
        exact .pure hI (execOp_v (by simp [Instr.loadAt, hcx, Instr.sureAddr, hd])) hv
    · cases hr
  · cases hc

theorem ok_store {t : TypeId} {x y : Operand} (hc : cOp P ⟨dst, .store t x y, ty, pos, after, guard⟩ = some op) (hr : evOp (evO e) H op = some r) : OpOk P K β H w ((execOp a.eval ⟨dst, .store t x y, ty, pos, after, guard⟩).run P w) r := by
  simp only [cOp] at hc
  split at hc <;> cases hc
  rename_i n x' y' hn hx hy
  have hvx := hE.opd hx
  have hvy := hE.opd hy
  simp only [evOp] at hr
  split at hr
  · rename_i id off hpt
    rw [hpt] at hvx
    split at hr
    · rename_i l ho
      split at hr <;> cases hr
      rename_i hcond
      obtain ⟨g1, g2, g3⟩ := hcond
      generalize hcx : a.eval x = cx at hvx
      cases hvx with
      | ptr hβ =>
        rename_i b
        have hany : evO e y' ≠ .any := by intro h; rw [h] at g3; simp [cellsOf, storable] at g3
        have hcl := cells_LR hvy hany
        obtain ⟨w', h1, h2, h3⟩ := write_ok (P := P) hI ho hβ hcl (by rw [g1]; exact g2) g3
        refine ⟨w', K, β, execOp_u ?_, h2, h3⟩
        have hsz : (a.eval y).cells.size = n := by rw [← g1]; simpa using hcl.1.symm
        simp [Instr.storeAt, hcx, Instr.sureAddr, storeVar, sizeOf_run hn, hsz, h1]
    · cases hr
  · cases hr

theorem ok_nilCheck {x : Operand} (hc : cOp P ⟨dst, .nilCheck x, ty, pos, after, guard⟩ = some op) (hr : evOp (evO e) H op = some r) : OpOk P K β H w ((execOp a.eval ⟨dst, .nilCheck x, ty, pos, after, guard⟩).run P w) r := by
  simp only [cOp] at hc
  obtain ⟨y, hy, rfl⟩ := Option.map_eq_some_iff.1 hc
  have hv := hE.opd hy
  simp only [evOp] at hr
  split at hr <;> cases hr
  all_goals
    rename_i heq
    rw [heq] at hv
    generalize hcx : a.eval x = cx at hv
    refine .pure (c := cx) hI ?_ hv
    cases hv
    simp [execOp, hcx]

theorem ok_bin {bop : BinOp} {t yt : TypeId} {x y : Operand} (hc : cOp P ⟨dst, .binOp bop t x y yt, ty, pos, after, guard⟩ = some op) (hr : evOp (evO e) H op = some r) : OpOk P K β H w ((execOp a.eval ⟨dst, .binOp bop t x y yt, ty, pos, after, guard⟩).run P w) r := by
  simp only [cOp] at hc
  split at hc <;> cases hc
  rename_i x' y' hx hy
  simp only [evOp, ans, Option.map_eq_some_iff] at hr
  obtain ⟨v, hv, rfl⟩ := hr
  obtain ⟨c, w', h1, h2, h3⟩ := bin_sound (P := P) (w := w) (ox := x) (oy := y) (hE.opd hx) (hE.opd hy) hv
  exact .drew hI h3 (execOp_v h1) h2

theorem ok_un {uop : UnOp} {t : TypeId} {x : Operand} (hc : cOp P ⟨dst, .unOp uop t x, ty, pos, after, guard⟩ = some op) (hr : evOp (evO e) H op = some r) : OpOk P K β H w ((execOp a.eval ⟨dst, .unOp uop t x, ty, pos, after, guard⟩).run P w) r := by
  simp only [cOp] at hc
  obtain ⟨y, hy, rfl⟩ := Option.map_eq_some_iff.1 hc
  simp only [evOp, ans, Option.map_eq_some_iff] at hr
  obtain ⟨v, hv, rfl⟩ := hr
  obtain ⟨c, h1, h2⟩ := un_sound (P := P) (w := w) (hE.opd hy) hv
  exact .pure hI (execOp_v h1) h2

theorem ok_convO {s d : TypeId} {x : Operand} {k : CvK} {y : Opd} (hk : cConv P s d = some k) (hy : cOpd x = some y) (n1 : ∀ j, k ≠ .float j) (n2 : ∀ j, k ≠ .f2i j) (n3 : k ≠ .i2s)
    (hr : evOp (evO e) H (.conv k y) = some r) : OpOk P K β H w ((execOp a.eval ⟨dst, .convert s d x, ty, pos, after, guard⟩).run P w) r := by
  have hv := hE.opd hy
  unfold cConv at hk
  split at hk
  · rename_i ks kd h1 h2
    cases hk
    simp only [evOp] at hr
    split at hr <;> cases hr
    rename_i heq
    rw [heq] at hv
    generalize hcx : a.eval x = cx at hv
    cases hv
    refine .pure hI (execOp_v (c := .int kd (kd.wrap _)) (by simp [convert, hcx, run_underlying h1, run_underlying h2, Conv.intToInt])) (.int _ _)
  · rename_i h1 h2
    cases hk
    simp only [evOp] at hr
    split at hr <;> cases hr
    rename_i heq
    rw [heq] at hv
    generalize hcx : a.eval x = cx at hv
    cases hv
    refine .pure hI (execOp_v (by simp [convert, hcx, run_underlying h1, run_underlying h2])) (.str _)
  · cases hk; exact absurd rfl (n1 _)
  · cases hk; exact absurd rfl (n2 _)
  · cases hk; exact absurd rfl n3
  · rename_i et h1 h2
    split at hk <;> cases hk
    rename_i h3
    simp only [evOp] at hr
    split at hr <;> try (cases hr; done)
    · rename_i l c heq
      rw [heq] at hv
      simp only [Option.bind_eq_some_iff] at hr
      obtain ⟨⟨xs, k⟩, hel, hr⟩ := hr
      split at hr <;> cases hr
      rename_i hall
      obtain ⟨a', cap, hcs, _, _⟩ := vr_slice hv
      exact .pure hI (execOp_v (b2s_sound hI h1 h3 h2 hv ⟨_, _, _, hcs⟩ hel hall)) (.str _)
    · rename_i i1 i2 i3 i4 heq
      rw [heq] at hv
      simp only [Option.bind_eq_some_iff] at hr
      obtain ⟨⟨xs, k⟩, hel, hr⟩ := hr
      split at hr <;> cases hr
      rename_i hall
      have hsl : ∃ a' l cap, a.eval x = .slice a' l cap := by
        generalize a.eval x = cx at hv
        cases hv; exact ⟨_, _, _, rfl⟩
      exact .pure hI (execOp_v (b2s_sound hI h1 h3 h2 hv hsl hel hall)) (.str _)
  · cases hk

theorem ok_conv {s d : TypeId} {x : Operand} (hc : cOp P ⟨dst, .convert s d x, ty, pos, after, guard⟩ = some op) (hr : evOp (evO e) H op = some r) : OpOk P K β H w ((execOp a.eval ⟨dst, .convert s d x, ty, pos, after, guard⟩).run P w) r := by
  simp only [cOp] at hc
  split at hc
  · rename_i k y hk hy
    cases hc
    have hv := hE.opd hy
    simp only [evOp, ans, Option.map_eq_some_iff] at hr
    obtain ⟨u, hu, rfl⟩ := hr
    unfold cConv at hk
    split at hk <;> try (cases hk; done)
    · rename_i ks kd h1 h2
      cases hk
      generalize hw : evO e y = vy at hv hu
      generalize hcx : a.eval x = cx at hv
      simp only [List.map_cons, List.map_nil, hw, purV] at hu
      cases hv <;> try (cases hu; done)
      cases hu
      exact .pure hI (execOp_v (by simp [convert, hcx, run_underlying h1, run_underlying h2, Conv.intToFloat])) (.float _ _)
    · split at hk <;> cases hk
  · rename_i k y hk hy
    cases hc
    have hv := hE.opd hy
    simp only [evOp, ans, Option.map_eq_some_iff] at hr
    obtain ⟨u, hu, rfl⟩ := hr
    unfold cConv at hk
    split at hk <;> try (cases hk; done)
    · rename_i ks kd h1 h2
      cases hk
      generalize hw : evO e y = vy at hv hu
      generalize hcx : a.eval x = cx at hv
      simp only [List.map_cons, List.map_nil, hw, purV] at hu
      cases hv <;> try (cases hu; done)
      dsimp only at hu
      split at hu
      · rename_i n hn
        split at hu <;> cases hu
        rename_i hb
        exact .pure hI (execOp_v (by simp [convert, hcx, run_underlying h1, run_underlying h2, Conv.floatToInt, hn, hb])) (.int _ _)
      · cases hu
    · split at hk <;> cases hk
  · rename_i y hk hy
    cases hc
    have hv := hE.opd hy
    simp only [evOp, ans, Option.map_eq_some_iff] at hr
    obtain ⟨u, hu, rfl⟩ := hr
    unfold cConv at hk
    split at hk <;> try (cases hk; done)
    · rename_i ks h1 h2
      generalize hw : evO e y = vy at hv hu
      generalize hcx : a.eval x = cx at hv
      simp only [List.map_cons, List.map_nil, hw, purV] at hu
      cases hv <;> try (cases hu; done)
      cases hu
      exact .pure hI (execOp_v (by simp [convert, hcx, run_underlying h1, run_underlying h2, Conv.intToString])) (.str _)
    · split at hk <;> cases hk
  · rename_i k y n1 n2 n3 hk hy
    cases hc
    exact ok_convO hI hE hk hy n1 n2 n3 hr
  · cases hc

theorem ok_makeIface {t : TypeId} {x : Operand} (hc : cOp P ⟨dst, .makeInterface t x, ty, pos, after, guard⟩ = some op) (hr : evOp (evO e) H op = some r) : OpOk P K β H w ((execOp a.eval ⟨dst, .makeInterface t x, ty, pos, after, guard⟩).run P w) r := by
  simp only [cOp] at hc
  split at hc
  · cases hc
  · cases hc
  · rename_i n1 n2
    obtain ⟨y, hy, rfl⟩ := Option.map_eq_some_iff.1 hc
    have hv := hE.opd hy
    simp only [evOp] at hr
    split at hr
    · cases hr
    · cases hr
      cases hu : P.underlying t with
      | none => exact absurd hu n2
      | some d =>
        refine .pure hI (execOp_v (c := .iface t (a.eval x)) ?_) (.iface hv)
        have := run_underlying hu w
        cases d <;> first
          | exact absurd hu (n1 _)
          | simp [Instr.makeInterface, this]

theorem ok_makeFunc {f : Fn} {x y : Array Operand} (hc : cOp P ⟨dst, .makeFunc f x y, ty, pos, after, guard⟩ = some op) (hr : evOp (evO e) H op = some r) : OpOk P K β H w ((execOp a.eval ⟨dst, .makeFunc f x y, ty, pos, after, guard⟩).run P w) r := by
  simp only [cOp] at hc
  split at hc <;> cases hc
  rename_i l m hl hm
  simp only [evOp, Option.some.injEq] at hr; subst hr
  have h1 := opds_LR hE hl
  have h2 := opds_LR hE hm
  refine .pure hI (execOp_v (c := .func f (x.map a.eval) (y.map a.eval)) rfl) (.fn ?_ ?_ ?_ ?_)
  · exact (LR.to_arr (cs := x.map a.eval) (by simpa using h1)).1
  · exact (LR.to_arr (cs := x.map a.eval) (by simpa using h1)).2
  · exact (LR.to_arr (cs := y.map a.eval) (by simpa using h2)).1
  · exact (LR.to_arr (cs := y.map a.eval) (by simpa using h2)).2
end
end Fz
