/- What the abstract interpreter's values and heap stand for in the model's world; and how a world may go on. -/
import Derived.Test.YtpojglkaohhbkaaFzB
import Derived.WalkKit
import Derived.Laws.CopyRow
namespace Fz
open Go

theorem refsL_eq (l : List V) : refsL l = l.flatMap refs := by
  induction l with
  | nil => rfl
  | cons v l ih => simp [refsL, ih]
theorem renL_eq (g : Nat → Nat) (l : List V) : renL g l = l.map (ren g) := by
  induction l with
  | nil => rfl
  | cons v l ih => simp [renL, ih]
theorem groundL_eq (l : List V) : groundL l = l.all ground := by
  induction l with
  | nil => rfl
  | cons v l ih => simp [groundL, ih]
theorem listFreeL_eq (l : List V) : listFreeL l = l.all listFree := by
  induction l with
  | nil => rfl
  | cons v l ih => simp [listFreeL, ih]

theorem cellsOf_ren (g : Nat → Nat) (v : V) : cellsOf (ren g v) = (cellsOf v).map (ren g) := by
  cases v <;> simp [cellsOf, ren, renL_eq]
theorem flat_ren (g : Nat → Nat) (l : List V) : flat (l.map (ren g)) = (flat l).map (ren g) := by
  simp only [flat, List.flatMap_map, List.map_flatMap]
  congr 1; funext v; exact cellsOf_ren g v
theorem refs_cell {v c : V} (h : c ∈ cellsOf v) : ∀ i ∈ refs c, i ∈ refs v := by
  intro i hi
  cases v <;> simp [cellsOf] at h <;> first
    | (subst h; exact hi)
    | (simp only [refs, refsL_eq, List.mem_flatMap]; exact ⟨c, h, hi⟩)
theorem refs_flat {l : List V} {c : V} (h : c ∈ flat l) : ∀ i ∈ refs c, i ∈ refsL l := by
  intro i hi
  simp only [flat, List.mem_flatMap] at h
  obtain ⟨v, hv, hc⟩ := h
  rw [refsL_eq]
  exact List.mem_flatMap.2 ⟨v, hv, refs_cell hc i hi⟩

/-- What is known of blocks: what some hold for good; how many cells some have. -/
structure Kn where
  fixed : Nat → Option Obj
  size : Nat → Option Nat
def Kn.le (K K' : Kn) : Prop := (∀ b o, K.fixed b = some o → K'.fixed b = some o) ∧ (∀ b n, K.size b = some n → K'.size b = some n)
theorem Kn.le_refl (K : Kn) : K.le K := ⟨fun _ _ h => h, fun _ _ h => h⟩
theorem Kn.le_trans {A B C : Kn} (h : A.le B) (k : B.le C) : A.le C := ⟨fun b o x => k.1 b o (h.1 b o x), fun b o x => k.2 b o (h.2 b o x)⟩
abbrev Bi := Nat → Option Nat

def isNaNbits (k : FloatKind) (b : Nat) : Prop := ∃ t, b = (Question.nanBits k 0 0).cut t

/-- A value stands for one of the model's. -/
inductive VR (K : Kn) (β : Bi) : V → Value → Prop
  | bool (b : Bool) : VR K β (.bool b) (.bool b)
  | int (k : IntKind) (n : Int) : VR K β (.int k n) (.int k n)
  | float (k : FloatKind) (b : Nat) : VR K β (.float k b) (.float k b)
  | fnan (k : FloatKind) (b : Nat) (h : isNaNbits k b) : VR K β (.fnan k) (.float k b)
  | str (s : ByteArray) : VR K β (.str s) (.string s)
  | nilp : VR K β .nilp (.pointer none)
  | ptr {id b off : Nat} (h : β id = some b) : VR K β (.ptr id off) (.pointer (some ⟨b, off, none⟩))
  | ref {l : List V} {b o : Nat} {cs : Array Value} {e : TypeId} {fr : Nat × Nat} (hb : K.fixed b = some (.cells cs e fr)) (hl : o + l.length ≤ cs.size)
      (h : ∀ i v, l[i]? = some v → VR K β v (cs.getD (o + i) Go.undef)) : VR K β (.ref l) (.pointer (some ⟨b, o, none⟩))
  | lnil {c : Bool} {a : Option Addr} {cap : Nat} (h : c = true → cap = 0) : VR K β (.list [] c) (.slice a 0 cap)
  | list {l : List V} {c : Bool} {b o n cap : Nat} {cs : Array Value} {e : TypeId} {fr : Nat × Nat} (hb : K.fixed b = some (.cells cs e fr))
      (hu : ∀ v ∈ l, (cellsOf v).length = n) (hn : n ≠ 0) (hl : o + l.length * n ≤ cs.size) (hc : l.length ≤ cap) (hcl : c = true → cap = l.length)
      (h : ∀ i v, (flat l)[i]? = some v → VR K β v (cs.getD (o + i) Go.undef)) : VR K β (.list l c) (.slice (some ⟨b, o, none⟩) l.length cap)
  | own {id b off len n cap z : Nat} (h : β id = some b) (hz : K.size b = some z) (hl : len ≤ cap) (hz' : off + cap * n ≤ z) (hn : n ≠ 0) :
      VR K β (.own id off len n) (.slice (some ⟨b, off, none⟩) len cap)
  | agg {l : List V} {cs : Array Value} (hl : l.length = cs.size) (h : ∀ i v, l[i]? = some v → VR K β v (cs.getD i Go.undef)) : VR K β (.agg l) (.agg cs)
  | tuple {l : List V} {cs : Array Value} (hl : l.length = cs.size) (h : ∀ i v, l[i]? = some v → VR K β v (cs.getD i Go.undef)) : VR K β (.tuple l) (.tuple cs)
  | fn {f : Fn} {l m : List V} {cs ds : Array Value} (hl : l.length = cs.size) (h : ∀ i v, l[i]? = some v → VR K β v (cs.getD i Go.undef))
      (hm : m.length = ds.size) (h' : ∀ i v, m[i]? = some v → VR K β v (ds.getD i Go.undef)) : VR K β (.fn f l m) (.func f cs ds)
  | nilfn : VR K β .nilfn .nilFunc
  | iface {t : TypeId} {v : V} {c : Value} (h : VR K β v c) : VR K β (.iface t v) (.iface t c)
  | niliface : VR K β .niliface .nilIface
  | nilmap : VR K β .nilmap (.map none)
  | mref {id b : Nat} (h : β id = some b) : VR K β (.mref id) (.map (some b))
  | map {ks vs : List V} {b : Nat} {es : Array MapEntry} {clock : Nat} (hb : K.fixed b = some (.map es clock)) (hk : ks.length = es.size) (hv : vs.length = es.size)
      (h : ∀ i v, ks[i]? = some v → VR K β v (es.getD i default).key) (h' : ∀ i v, vs[i]? = some v → VR K β v (es.getD i default).val) : VR K β (.map ks vs) (.map (some b))
  | any (c : Value) : VR K β .any c

theorem VR.ren {K K' : Kn} {β β' : Bi} {g : Nat → Nat} (hK : K.le K') {v : V} {c : Value} (h : VR K β v c) :
    (∀ i ∈ refs v, ∀ b, β i = some b → β' (g i) = some b) → VR K' β' (Fz.ren g v) c := by
  have cellArg : ∀ {l : List V} {i : Nat} {v : V}, (l.map (Fz.ren g))[i]? = some v → ∃ u, l[i]? = some u ∧ v = Fz.ren g u := by
    intro l i v hi
    rw [List.getElem?_map] at hi
    cases hl : l[i]? with
    | none => rw [hl] at hi; cases hi
    | some u => rw [hl] at hi; exact ⟨u, rfl, (Option.some.inj hi).symm⟩
  have memR : ∀ {l : List V} {i : Nat} {u : V}, l[i]? = some u → ∀ j ∈ refs u, j ∈ refsL l := by
    intro l i u hu j hj
    rw [refsL_eq]
    exact List.mem_flatMap.2 ⟨u, List.mem_of_getElem? hu, hj⟩
  induction h with
  | bool b => intro _; exact .bool b
  | int k n => intro _; exact .int k n
  | float k b => intro _; exact .float k b
  | fnan k b h => intro _; exact .fnan k b h
  | str s => intro _; exact .str s
  | nilp => intro _; exact .nilp
  | ptr h => intro hg; exact .ptr (hg _ (by simp [refs]) _ h)
  | ref hb hl h ih =>
    intro hg
    simp only [Fz.ren, renL_eq]
    refine .ref (hK.1 _ _ hb) (by simpa using hl) fun i v hv => ?_
    obtain ⟨u, hu, rfl⟩ := cellArg hv
    exact ih i u hu fun j hj => hg j (by simp only [refs]; exact memR hu j hj)
  | lnil h => intro _; exact .lnil h
  | list hb hu hn hl hc hcl h ih =>
    intro hg
    rename_i l c b o n cap cs e fr
    simp only [Fz.ren, renL_eq]
    have e1 : l.length = (l.map (Fz.ren g)).length := by simp
    rw [e1]
    refine .list (hK.1 _ _ hb) (n := n) ?_ hn (by simpa using hl) (by simpa using hc) (by simpa using hcl) fun i v hv => ?_
    · intro v hv
      obtain ⟨u, hu', rfl⟩ := List.mem_map.1 hv
      rw [cellsOf_ren, List.length_map]
      exact hu u hu'
    · rw [flat_ren] at hv
      obtain ⟨u, hu', rfl⟩ := cellArg hv
      exact ih i u hu' fun j hj => hg j (by simp only [refs]; exact refs_flat (List.mem_of_getElem? hu') j hj)
  | own h hz hl hz' hn => intro hg; exact .own (hg _ (by simp [refs]) _ h) (hK.2 _ _ hz) hl hz' hn
  | agg hl h ih =>
    intro hg
    simp only [Fz.ren, renL_eq]
    refine .agg (by simpa using hl) fun i v hv => ?_
    obtain ⟨u, hu, rfl⟩ := cellArg hv
    exact ih i u hu fun j hj => hg j (by simp only [refs]; exact memR hu j hj)
  | tuple hl h ih =>
    intro hg
    simp only [Fz.ren, renL_eq]
    refine .tuple (by simpa using hl) fun i v hv => ?_
    obtain ⟨u, hu, rfl⟩ := cellArg hv
    exact ih i u hu fun j hj => hg j (by simp only [refs]; exact memR hu j hj)
  | fn hl h hm h' ih ih' =>
    intro hg
    simp only [Fz.ren, renL_eq]
    refine .fn (by simpa using hl) (fun i v hv => ?_) (by simpa using hm) fun i v hv => ?_
    · obtain ⟨u, hu, rfl⟩ := cellArg hv
      exact ih i u hu fun j hj => hg j (by simp only [refs]; exact List.mem_append_left _ (memR hu j hj))
    · obtain ⟨u, hu, rfl⟩ := cellArg hv
      exact ih' i u hu fun j hj => hg j (by simp only [refs]; exact List.mem_append_right _ (memR hu j hj))
  | nilfn => intro _; exact .nilfn
  | iface h ih => intro hg; exact .iface (ih fun j hj => hg j (by simpa [refs] using hj))
  | niliface => intro _; exact .niliface
  | nilmap => intro _; exact .nilmap
  | mref h => intro hg; exact .mref (hg _ (by simp [refs]) _ h)
  | map hb hk hv h h' ih ih' =>
    intro hg
    simp only [Fz.ren, renL_eq]
    refine .map (hK.1 _ _ hb) (by simpa using hk) (by simpa using hv) (fun i v hv => ?_) fun i v hv => ?_
    · obtain ⟨u, hu, rfl⟩ := cellArg hv
      exact ih i u hu fun j hj => hg j (by simp only [refs]; exact List.mem_append_left _ (memR hu j hj))
    · obtain ⟨u, hu, rfl⟩ := cellArg hv
      exact ih' i u hu fun j hj => hg j (by simp only [refs]; exact List.mem_append_right _ (memR hu j hj))
  | any c => intro _; exact .any c

mutual
theorem ren_id (v : V) : ren (fun i => i) v = v := by
  cases v <;> simp [ren, ren_idL, ren_id]
theorem ren_idL (l : List V) : renL (fun i => i) l = l := by
  cases l <;> simp [renL, ren_idL, ren_id]
end

theorem VR.mono {K K' : Kn} {β β' : Bi} (hK : K.le K') (hβ : ∀ i b, β i = some b → β' i = some b) {v : V} {c : Value} (h : VR K β v c) : VR K' β' v c := by
  have := VR.ren (g := fun i => i) (β' := β') hK h fun i _ b hb => hβ i b hb
  rwa [ren_id] at this

theorem nrmL_eq (l : List V) : nrmL l = l.map nrm := by
  induction l with
  | nil => rfl
  | cons v l ih => simp [nrmL, ih]
theorem cellsOf_nrm (v : V) : cellsOf (nrm v) = (cellsOf v).map nrm := by
  cases v <;> simp [cellsOf, nrm, nrmL_eq]
theorem flat_nrm (l : List V) : flat (l.map nrm) = (flat l).map nrm := by
  simp only [flat, List.flatMap_map, List.map_flatMap]
  congr 1; funext v; exact cellsOf_nrm v
theorem VR.nrm {K : Kn} {β : Bi} {v : V} {c : Value} (h : VR K β v c) : VR K β (Fz.nrm v) c := by
  have cellArg : ∀ {l : List V} {i : Nat} {v : V}, (l.map Fz.nrm)[i]? = some v → ∃ u, l[i]? = some u ∧ v = Fz.nrm u := by
    intro l i v hi
    rw [List.getElem?_map] at hi
    cases hl : l[i]? with
    | none => rw [hl] at hi; cases hi
    | some u => rw [hl] at hi; exact ⟨u, rfl, (Option.some.inj hi).symm⟩
  induction h with
  | bool b => exact .bool b
  | int k n => exact .int k n
  | float k b => exact .float k b
  | fnan k b h => exact .fnan k b h
  | str s => exact .str s
  | nilp => exact .nilp
  | ptr h => exact .ptr h
  | ref hb hl h => exact .ref hb hl h
  | lnil h => exact .lnil fun h => by cases h
  | list hb hu hn hl hc hcl h ih =>
    rename_i l c b o n cap cs e fr
    simp only [Fz.nrm, nrmL_eq]
    have e1 : l.length = (l.map Fz.nrm).length := by simp
    rw [e1]
    refine .list hb (n := n) ?_ hn (by simpa using hl) (by simpa using hc) (fun h => by cases h) fun i v hv => ?_
    · intro v hv
      obtain ⟨u, hu', rfl⟩ := List.mem_map.1 hv
      rw [cellsOf_nrm, List.length_map]
      exact hu u hu'
    · rw [flat_nrm] at hv
      obtain ⟨u, hu', rfl⟩ := cellArg hv
      exact ih i u hu'
  | own h hz hl hz' hn => exact .own h hz hl hz' hn
  | agg hl h ih =>
    simp only [Fz.nrm, nrmL_eq]
    refine .agg (by simpa using hl) fun i v hv => ?_
    obtain ⟨u, hu, rfl⟩ := cellArg hv
    exact ih i u hu
  | tuple hl h ih =>
    simp only [Fz.nrm, nrmL_eq]
    refine .tuple (by simpa using hl) fun i v hv => ?_
    obtain ⟨u, hu, rfl⟩ := cellArg hv
    exact ih i u hu
  | fn hl h hm h' => exact .fn hl h hm h'
  | nilfn => exact .nilfn
  | iface h ih => exact .iface ih
  | niliface => exact .niliface
  | nilmap => exact .nilmap
  | mref h => exact .mref h
  | map hb hk hv h h' => exact .map hb hk hv h h'
  | any c => exact .any c

/-! ### The heap -/

def CsR (K : Kn) (β : Bi) (l : List V) (cs : Array Value) : Prop := l.length ≤ cs.size ∧ ∀ i v, l[i]? = some v → VR K β v (cs.getD i Go.undef)

def ObR (K : Kn) (β : Bi) (w : World) (id : Nat) : Ob → Prop
  | .live l => ∃ b cs e, β id = some b ∧ K.fixed b = none ∧ K.size b = some cs.size ∧ w.heap[b]? = some (.cells cs e (0, 0)) ∧ CsR K β l cs
  | .fixed l => ∃ b cs e fr, β id = some b ∧ K.fixed b = some (.cells cs e fr) ∧ K.size b = some cs.size ∧ CsR K β l cs
  | .dead => True
  | .mlive ks vs => ∃ b es clock, β id = some b ∧ K.fixed b = none ∧ w.heap[b]? = some (.map es clock) ∧ ks.length = es.size ∧ vs.length = es.size ∧
      (∀ i v, ks[i]? = some v → VR K β v (es.getD i default).key) ∧ (∀ i v, vs[i]? = some v → VR K β v (es.getD i default).val)
  | .iter s pos => ∃ b, β id = some b ∧ K.fixed b = none ∧ w.heap[b]? = some (.stringIter s pos)

/-- May be written. -/
def Ob.isLive : Ob → Bool
  | .live _ => true
  | .mlive _ _ => true
  | .iter _ _ => true
  | _ => false

def liveAt (H : List Ob) (id : Nat) : Prop := ∃ o, H[id]? = some o ∧ o.isLive = true
def liveB (H : List Ob) (β : Bi) (b : Nat) : Prop := ∃ id, liveAt H id ∧ β id = some b

structure Inv (K : Kn) (β : Bi) (H : List Ob) (w : World) : Prop where
  fixed : ∀ b o, K.fixed b = some o → w.heap[b]? = some o
  size : ∀ b z, K.size b = some z → ∃ cs e fr, w.heap[b]? = some (.cells cs e fr) ∧ cs.size = z
  dom : ∀ id b, β id = some b → id < H.length
  obj : ∀ id o, H[id]? = some o → ObR K β w id o
  inj : ∀ i j b, liveAt H i → liveAt H j → β i = some b → β j = some b → i = j

structure Ev (K : Kn) (β : Bi) (H : List Ob) (w : World) (K' : Kn) (β' : Bi) (H' : List Ob) (w' : World) : Prop where
  k : K.le K'
  b : ∀ i x, β i = some x → β' i = some x
  hl : H.length ≤ H'.length
  frame : ∀ x, x < w.heap.size → ¬ liveB H β x → w'.heap[x]? = w.heap[x]?
  size : w.heap.size ≤ w'.heap.size
  os : w'.os = w.os
  tape : w'.tape = w.tape
  output : w'.output = w.output
  live : ∀ x, liveB H' β' x → liveB H β x ∨ w.heap.size ≤ x
  fix : ∀ x o, K'.fixed x = some o → K.fixed x = some o ∨ liveB H β x ∨ w.heap.size ≤ x
  bx : ∀ i, i < H.length → β' i = β i

theorem Ev.refl (K : Kn) (β : Bi) (H : List Ob) (w : World) : Ev K β H w K β H w :=
  ⟨K.le_refl, fun _ _ h => h, Nat.le_refl _, fun _ _ _ => rfl, Nat.le_refl _, rfl, rfl, rfl, fun _ h => .inl h, fun _ _ h => .inl h, fun _ _ => rfl⟩

theorem Ev.trans {K K1 K2 : Kn} {β β1 β2 : Bi} {H H1 H2 : List Ob} {w w1 w2 : World} (h : Ev K β H w K1 β1 H1 w1) (g : Ev K1 β1 H1 w1 K2 β2 H2 w2) :
    Ev K β H w K2 β2 H2 w2 where
  k := Kn.le_trans h.k g.k
  b i x hx := g.b i x (h.b i x hx)
  hl := Nat.le_trans h.hl g.hl
  frame x hx hn := by
    rw [g.frame x (Nat.lt_of_lt_of_le hx h.size) fun hl => (h.live x hl).elim hn fun hge => by omega]
    exact h.frame x hx hn
  size := Nat.le_trans h.size g.size
  os := g.os.trans h.os
  tape := g.tape.trans h.tape
  output := g.output.trans h.output
  live x hx := (g.live x hx).elim (h.live x) fun hge => .inr (Nat.le_trans h.size hge)
  fix x o hx := (g.fix x o hx).elim (h.fix x o) fun hge => hge.elim (fun hl => (h.live x hl).elim (fun a => .inr (.inl a)) fun hge => .inr (.inr hge)) fun hge => .inr (.inr (Nat.le_trans h.size hge))
  bx i hi := (g.bx i (Nat.lt_of_lt_of_le hi h.hl)).trans (h.bx i hi)

/-- A world in which more was drawn. -/
theorem Inv.drawn {K : Kn} {β : Bi} {H : List Ob} {w w' : World} (h : Inv K β H w) (hh : w'.heap = w.heap) : Inv K β H w' := by
  refine ⟨fun b o x => by rw [hh]; exact h.fixed b o x, fun b z x => by rw [hh]; exact h.size b z x, h.dom, fun id o x => ?_, h.inj⟩
  have := h.obj id o x
  cases o <;> first | trivial | (unfold ObR at *; simp only [hh]; exact this)
theorem Ev.drawn {K : Kn} {β : Bi} {H : List Ob} {w w' : World} (hh : w'.heap = w.heap) (h1 : w'.os = w.os) (h2 : w'.tape = w.tape) (h3 : w'.output = w.output) :
    Ev K β H w K β H w' :=
  ⟨K.le_refl, fun _ _ h => h, Nat.le_refl _, fun _ _ _ => by rw [hh], by rw [hh]; exact Nat.le_refl _, h1, h2, h3, fun _ h => .inl h, fun _ _ h => .inl h, fun _ _ => rfl⟩

theorem CsR.mono {K K' : Kn} {β β' : Bi} (hK : K.le K') (hβ : ∀ i b, β i = some b → β' i = some b) {l : List V} {cs : Array Value} (h : CsR K β l cs) : CsR K' β' l cs :=
  ⟨h.1, fun i v hv => (h.2 i v hv).mono hK hβ⟩

/-- Another object's relation holds on, where its block is as it was. -/
theorem ObR.mono {K K' : Kn} {β β' : Bi} {w w' : World} (hK : K.le K') (hβ : ∀ i b, β i = some b → β' i = some b) {id : Nat} {o : Ob} (h : ObR K β w id o)
    (hf : ∀ b, o.isLive = true → β id = some b → K.fixed b = none → K'.fixed b = none ∧ w'.heap[b]? = w.heap[b]?) : ObR K' β' w' id o := by
  cases o with
  | live l =>
    obtain ⟨b, cs, e, h1, h2, h3, h4, h5⟩ := h
    obtain ⟨g1, g2⟩ := hf b rfl h1 h2
    exact ⟨b, cs, e, hβ _ _ h1, g1, hK.2 _ _ h3, g2.trans h4, h5.mono hK hβ⟩
  | fixed l =>
    obtain ⟨b, cs, e, fr, h1, h2, h3, h5⟩ := h
    exact ⟨b, cs, e, fr, hβ _ _ h1, hK.1 _ _ h2, hK.2 _ _ h3, h5.mono hK hβ⟩
  | dead => trivial
  | mlive ks vs =>
    obtain ⟨b, es, clock, h1, h2, h4, h5, h6, h7, h8⟩ := h
    obtain ⟨g1, g2⟩ := hf b rfl h1 h2
    exact ⟨b, es, clock, hβ _ _ h1, g1, g2.trans h4, h5, h6, fun i v hv => (h7 i v hv).mono hK hβ, fun i v hv => (h8 i v hv).mono hK hβ⟩
  | iter s pos =>
    obtain ⟨b, h1, h2, h4⟩ := h
    obtain ⟨g1, g2⟩ := hf b rfl h1 h2
    exact ⟨b, hβ _ _ h1, g1, g2.trans h4⟩

theorem ObR.lt {K : Kn} {β : Bi} {w : World} {id : Nat} {o : Ob} (h : ObR K β w id o) (ho : o.isLive = true) : ∃ b, β id = some b ∧ b < w.heap.size ∧ K.fixed b = none := by
  have lt : ∀ {b : Nat} {x : Obj}, w.heap[b]? = some x → b < w.heap.size := fun hx => (Array.getElem?_eq_some_iff.1 hx).1
  cases o with
  | live l => obtain ⟨b, cs, e, h1, h2, h3, h4, h5⟩ := h; exact ⟨b, h1, lt h4, h2⟩
  | mlive ks vs => obtain ⟨b, es, clock, h1, h2, h4, _⟩ := h; exact ⟨b, h1, lt h4, h2⟩
  | iter s pos => obtain ⟨b, h1, h2, h4⟩ := h; exact ⟨b, h1, lt h4, h2⟩
  | fixed l => cases ho
  | dead => cases ho

def setB (β : Bi) (id b : Nat) : Bi := fun i => if i = id then some b else β i
def setK (K : Kn) (b z : Nat) : Kn := ⟨K.fixed, fun x => if x = b then some z else K.size x⟩
end Fz
