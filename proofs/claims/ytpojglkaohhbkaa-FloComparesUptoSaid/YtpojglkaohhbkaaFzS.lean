/- A region whose order is open: what an operation that leaves the heap alone does in whatever order. -/
import Derived.Test.YtpojglkaohhbkaaFzR
import Derived.Orders
namespace Fz
open Go

theorem veq_refl_aux : (∀ v : V, veq v v = true) ∧ ∀ l : List V, veqL l l = true := by
  constructor
  · intro v
    induction v using V.rec (motive_2 := fun l => veqL l l = true) with
    | nil => rfl
    | cons a l h1 h2 => simp [veqL, h1, h2]
    | _ => simp_all [veq]
  · intro l
    induction l using V.rec_1 (motive_1 := fun v => veq v v = true) with
    | nil => rfl
    | cons a l h1 h2 => simp [veqL, h1, h2]
    | _ => simp_all [veq]
theorem veq_refl (v : V) : veq v v = true := veq_refl_aux.1 v

mutual
theorem veq_eq : ∀ (a b : V), veq a b = true → a = b
  | .bool a, b, h => by cases b <;> simp [veq] at h <;> simp_all
  | .int j a, b, h => by cases b <;> simp [veq] at h <;> simp_all
  | .float j a, b, h => by cases b <;> simp [veq] at h <;> simp_all
  | .fnan j, b, h => by cases b <;> simp [veq] at h <;> simp_all
  | .str a, b, h => by
    cases b <;> simp [veq] at h
    exact congrArg V.str (by cases a; simp_all)
  | .nilp, b, h => by cases b <;> simp [veq] at h <;> simp_all
  | .ptr i a, b, h => by cases b <;> simp [veq] at h <;> simp_all
  | .ref a, b, h => by
    cases b <;> simp [veq] at h
    rw [veqL_eq a _ h]
  | .list a c, b, h => by
    cases b <;> simp [veq] at h
    rw [veqL_eq a _ h.2, h.1]
  | .own a b c d, e, h => by cases e <;> simp [veq] at h <;> simp_all
  | .agg a, b, h => by
    cases b <;> simp [veq] at h
    rw [veqL_eq a _ h]
  | .tuple a, b, h => by
    cases b <;> simp [veq] at h
    rw [veqL_eq a _ h]
  | .fn f a b, c, h => by
    cases c <;> simp [veq] at h
    rw [veqL_eq a _ h.1.2, veqL_eq b _ h.2, h.1.1]
  | .nilfn, b, h => by cases b <;> simp [veq] at h <;> simp_all
  | .iface t v, b, h => by
    cases b <;> simp [veq] at h
    rw [veq_eq v _ h.2, h.1]
  | .niliface, b, h => by cases b <;> simp [veq] at h <;> simp_all
  | .nilmap, b, h => by cases b <;> simp [veq] at h <;> simp_all
  | .mref i, b, h => by cases b <;> simp [veq] at h <;> simp_all
  | .map a b, c, h => by
    cases c <;> simp [veq] at h
    rw [veqL_eq a _ h.1, veqL_eq b _ h.2]
  | .any, b, h => by cases b <;> simp [veq] at h <;> simp_all
theorem veqL_eq : ∀ (a b : List V), veqL a b = true → a = b
  | [], b, h => by cases b <;> simp [veqL] at h <;> simp_all
  | x :: a, b, h => by
    cases b <;> simp [veqL] at h
    rw [veq_eq x _ h.1, veqL_eq a _ h.2]
end

mutual
theorem ground_refs : ∀ (v : V), ground v = true → refs v = []
  | .bool _, _ | .int _ _, _ | .float _ _, _ | .fnan _, _ | .str _, _ | .nilp, _ | .nilfn, _ | .niliface, _ | .nilmap, _ => rfl
  | .ptr _ _, h | .own _ _ _ _, h | .mref _, h | .any, h => by simp [ground] at h
  | .ref l, h => by simp only [refs]; exact groundL_refs l (by simpa [ground] using h)
  | .list l _, h => by simp only [refs]; exact groundL_refs l (by simpa [ground] using h)
  | .agg l, h => by simp only [refs]; exact groundL_refs l (by simpa [ground] using h)
  | .tuple l, h => by simp only [refs]; exact groundL_refs l (by simpa [ground] using h)
  | .fn _ a b, h => by
    simp [ground] at h
    simp only [refs, groundL_refs a h.1, groundL_refs b h.2, List.append_nil]
  | .iface _ v, h => by simp only [refs]; exact ground_refs v (by simpa [ground] using h)
  | .map a b, h => by
    simp [ground] at h
    simp only [refs, groundL_refs a h.1, groundL_refs b h.2, List.append_nil]
theorem groundL_refs : ∀ (l : List V), groundL l = true → refsL l = []
  | [], _ => rfl
  | v :: l, h => by
    simp [groundL] at h
    simp only [refsL, ground_refs v h.1, groundL_refs l h.2, List.append_nil]
end

def noB : Bi := fun _ => none

theorem ground_VR {K K' : Kn} {β β' : Bi} (hK : K.le K') {v : V} {c : Value} (h : VR K β v c) (hg : ground v = true) : VR K' β' v c := by
  have := h.ren (g := fun i => i) (β' := β') hK (by rw [ground_refs v hg]; simp)
  rwa [ren_id] at this
theorem ground_LR {K K' : Kn} {β β' : Bi} (hK : K.le K') {l : List V} {cs : List Value} (h : LR K β l cs) (hg : groundL l = true) : LR K' β' l cs := by
  rw [groundL_eq] at hg
  exact ⟨h.1, fun i v hv => ground_VR hK (h.2 i v hv) (List.all_eq_true.1 hg v (List.mem_of_getElem? hv))⟩

mutual
theorem listFree_VR {K K' : Kn} {β β' : Bi} : ∀ (v : V) (c : Value), listFree v = true → VR K β v c → VR K' β' v c
  | .bool _, c, _, h => by cases h; exact .bool _
  | .int _ _, c, _, h => by cases h; exact .int _ _
  | .float _ _, c, _, h => by cases h; exact .float _ _
  | .fnan _, c, _, h => by cases h; exact .fnan _ _ ‹_›
  | .str _, c, _, h => by cases h; exact .str _
  | .nilp, c, _, h => by cases h; exact .nilp
  | .nilfn, c, _, h => by cases h; exact .nilfn
  | .niliface, c, _, h => by cases h; exact .niliface
  | .nilmap, c, _, h => by cases h; exact .nilmap
  | .list [] b, c, _, h => by
    cases h with
    | lnil hc => exact .lnil hc
    | list hb hu hn hl hc hcl h => exact .lnil hcl
  | .list (_ :: _) b, c, hf, h => by simp [listFree] at hf
  | .agg l, c, hf, h => by
    cases h with
    | agg hl h => exact .agg hl fun i v hv => listFreeL_VR l (by simpa [listFree] using hf) i v hv _ (h i v hv)
  | .tuple l, c, hf, h => by
    cases h with
    | tuple hl h => exact .tuple hl fun i v hv => listFreeL_VR l (by simpa [listFree] using hf) i v hv _ (h i v hv)
  | .ptr _ _, c, hf, _ | .own _ _ _ _, c, hf, _ | .mref _, c, hf, _ | .any, c, hf, _ | .ref _, c, hf, _ | .fn _ _ _, c, hf, _ | .iface _ _, c, hf, _ | .map _ _, c, hf, _ => by simp [listFree] at hf
theorem listFreeL_VR {K K' : Kn} {β β' : Bi} : ∀ (l : List V), listFreeL l = true → ∀ (i : Nat) (v : V), l[i]? = some v → ∀ (c : Value), VR K β v c → VR K' β' v c
  | [], _, i, v, hv, _, _ => by simp at hv
  | u :: l, hf, 0, v, hv, c, h => by
    simp [listFreeL] at hf
    simp at hv; subst hv
    exact listFree_VR u c hf.1 h
  | u :: l, hf, i + 1, v, hv, c, h => by
    simp [listFreeL] at hf
    exact listFreeL_VR l hf.2 i v (by simpa using hv) c h
end

/-- All that lies now, held to stay. -/
def allK (w : World) : Kn := ⟨fun b => w.heap[b]?, fun b => match w.heap[b]? with | some (.cells cs _ _) => some cs.size | _ => none⟩
theorem allK_le {K : Kn} {β : Bi} {H : List Ob} {w : World} (hI : Inv K β H w) : K.le (allK w) := by
  refine ⟨fun b o h => hI.fixed b o h, fun b n h => ?_⟩
  obtain ⟨cs, e, fr, h1, h2⟩ := hI.size b n h
  show (match w.heap[b]? with | some (.cells cs _ _) => some cs.size | _ => none) = some n
  rw [h1]; simp [h2]
theorem allK_inv (w : World) : Inv (allK w) noB [] w := by
  refine ⟨fun b o h => h, fun b z h => ?_, fun id b h => (by cases h), fun id o h => (by simp at h), fun i j b h => ?_⟩
  · have h : (match w.heap[b]? with | some (.cells cs _ _) => some cs.size | _ => none) = some z := h
    split at h
    · rename_i cs e fr hh; cases h; exact ⟨cs, e, fr, hh, rfl⟩
    · cases h
  · obtain ⟨o, ho, _⟩ := h; simp at ho
theorem emp_inv {K : Kn} {β : Bi} {H : List Ob} {w : World} (hI : Inv K β H w) : Inv K noB [] w :=
  ⟨hI.fixed, hI.size, fun id b h => (by cases h), fun id o h => (by simp at h), fun i j b h => (by obtain ⟨o, ho, _⟩ := h; simp at ho)⟩

theorem no_live (β : Bi) (b : Nat) : ¬ liveB [] β b := by rintro ⟨i, ⟨o, ho, _⟩, _⟩; simp at ho

/-- Behind a call that saw nothing of the heap. -/
theorem quiet_inv {K K' : Kn} {β β' : Bi} {H : List Ob} {w w' : World} (hI : Inv K β H w) (hI' : Inv K' β' [] w') (hE : Ev K noB [] w K' β' [] w') : Inv K' β H w' ∧ Ev K β H w K' β H w' := by
  have hfr : ∀ b, b < w.heap.size → w'.heap[b]? = w.heap[b]? := fun b hb => hE.frame b hb (no_live _ _)
  have hfix : ∀ b o, K'.fixed b = some o → K.fixed b = some o ∨ w.heap.size ≤ b := fun b o h => by
    rcases hE.fix b o h with h | h | h
    · exact .inl h
    · exact absurd h (no_live _ _)
    · exact .inr h
  refine ⟨⟨hI'.fixed, hI'.size, hI.dom, fun id o ho => ?_, hI.inj⟩, ⟨hE.k, fun _ _ h => h, Nat.le_refl _, fun x hx _ => hfr x hx, hE.size, hE.os, hE.tape, hE.output, fun _ h => .inl h, fun x o h => ?_, fun _ _ => rfl⟩⟩
  · refine (hI.obj id o ho).mono hE.k (fun _ _ h => h) fun b hl hb hf => ?_
    obtain ⟨b', q1, q2, _⟩ := (hI.obj id o ho).lt hl
    rw [hb] at q1; cases q1
    refine ⟨?_, hfr b q2⟩
    cases h3 : K'.fixed b with
    | none => rfl
    | some x =>
      rcases hfix b x h3 with h | h
      · rw [hf] at h; cases h
      · omega
  · rcases hfix x o h with h | h
    · exact .inl h
    · exact .inr (.inr h)

/-- Behind a call that was lent what lies, and kept nothing of it. -/
theorem lent_inv {K K' : Kn} {β β' : Bi} {H : List Ob} {w w' : World} (hI : Inv K β H w) (hE : Ev (allK w) noB [] w K' β' [] w') : Inv K β H w' ∧ Ev K β H w K β H w' := by
  have hfr : ∀ b, b < w.heap.size → w'.heap[b]? = w.heap[b]? := fun b hb => hE.frame b hb (no_live _ _)
  refine ⟨⟨fun b o h => ?_, fun b z h => ?_, hI.dom, fun id o ho => ?_, hI.inj⟩, ⟨K.le_refl, fun _ _ h => h, Nat.le_refl _, fun x hx _ => hfr x hx, hE.size, hE.os, hE.tape, hE.output, fun _ h => .inl h, fun _ _ h => .inl h, fun _ _ => rfl⟩⟩
  · have := hI.fixed b o h; rw [hfr b (heap_lt this)]; exact this
  · obtain ⟨cs, e, fr, h1, h2⟩ := hI.size b z h
    exact ⟨cs, e, fr, by rw [hfr b (heap_lt h1)]; exact h1, h2⟩
  · refine (hI.obj id o ho).mono K.le_refl (fun _ _ h => h) fun b hl hb hf => ⟨hf, ?_⟩
    obtain ⟨b', q1, q2, _⟩ := (hI.obj id o ho).lt hl
    rw [hb] at q1; cases q1
    exact hfr b q2

theorem mapOpt_LR {K K' : Kn} {β β' : Bi} {f : V → Option V} (hf : ∀ v c v', VR K β v c → f v = some v' → VR K' β' v' c) : ∀ {l : List V} {x : List V} {cs : List Value}, mapOpt f l = some x → LR K β l cs → LR K' β' x cs
  | [], x, cs, h, hl => by
    simp [mapOpt] at h; subst h
    rw [List.eq_nil_of_length_eq_zero hl.1.symm]; exact .nil _ _
  | v :: l, x, cs, h, hl => by
    obtain ⟨c, r, rfl, h1, h2⟩ := hl.head
    simp only [mapOpt] at h
    split at h <;> cases h
    exact .cons (hf _ _ _ h1 ‹_›) (mapOpt_LR hf ‹_› h2)

theorem lendV_sound {K : Kn} {β : Bi} {H : List Ob} {w : World} (hI : Inv K β H w) : ∀ (k : Nat) (v : V) (c : Value) (v' : V), VR K β v c → lendV H k v = some v' → VR (allK w) β v' c := by
  intro k
  induction k with
  | zero => intro v c v' _ h; simp [lendV] at h
  | succ k ih =>
    intro v c v' hv h
    unfold lendV at h
    split at h
    · rename_i id off len n
      split at h
      · cases h
      · rename_i hn0
        split at h
        · rename_i l hp
          split at h
          · rename_i x hx
            split at h <;> cases h
            rename_i hleaf
            cases hv with
            | own hβ hz hl hz' hnn =>
              rename_i b cap z
              have fin : ∀ {cs : Array Value} {e : TypeId} {fr : Nat × Nat} {m : List V}, w.heap[b]? = some (.cells cs e fr) → CsR K β m cs → off + len * n ≤ m.length → l = (m.drop off).take (len * n) →
                  VR (allK w) β (.list (chunk n len x) false) (.slice (some ⟨b, off, none⟩) len cap) := by
                intro cs e fr m hw hcr hle hlm
                have hs := seen_of (w := w) (b := b) (o := off) (n := len * n) (k := 0) hw (by have := hcr.1; omega) (by simpa using hcr.2) off (by omega) hle
                rw [← hlm] at hs
                exact list_of (show (allK w).fixed b = some (.cells cs e fr) from hw) (by have := hcr.1; omega) hn0 hl (mapOpt_LR ih hx hs.rel) hleaf
              simp only [peek] at hp
              cases ho : H[id]? with
              | none => rw [ho] at hp; cases hp
              | some ob =>
                have hob := hI.obj id ob ho
                cases ob <;> simp only [ho] at hp <;> try (cases hp; done)
                · obtain ⟨b', cs, e, g1, g2, g3, g4, g5⟩ := hob
                  rw [hβ] at g1; cases g1
                  split at hp <;> cases hp
                  exact fin g4 g5 ‹_› rfl
                · obtain ⟨b', cs, e, fr, g1, g2, g3, g5⟩ := hob
                  rw [hβ] at g1; cases g1
                  split at hp <;> cases hp
                  exact fin (hI.fixed _ _ g2) g5 ‹_› rfl
          · cases h
        · cases h
    · cases hv with
      | agg hl hc =>
        obtain ⟨x, hx, rfl⟩ := Option.map_eq_some_iff.1 h
        have := mapOpt_LR ih hx (LR.of_arr hl hc)
        exact .agg this.to_arr.1 this.to_arr.2
    · cases hv with
      | tuple hl hc =>
        obtain ⟨x, hx, rfl⟩ := Option.map_eq_some_iff.1 h
        have := mapOpt_LR ih hx (LR.of_arr hl hc)
        exact .tuple this.to_arr.1 this.to_arr.2
    · cases h
      exact hv.mono (allK_le hI) fun _ _ h => h

theorem lend_ground (H : List Ob) : ∀ (k : Nat) (v v' : V), ground v = true → lendV H k v = some v' → v' = v := by
  intro k
  induction k with
  | zero => intro v v' _ h; simp [lendV] at h
  | succ k ih =>
    have hm : ∀ (l x : List V), l.all ground = true → mapOpt (lendV H k) l = some x → x = l := by
      intro l
      induction l with
      | nil => intro x _ h; simp [mapOpt] at h; exact h
      | cons v l ihl =>
        intro x hg h
        simp only [List.all_cons, Bool.and_eq_true] at hg
        simp only [mapOpt] at h
        split at h <;> cases h
        rename_i a b ha hb
        rw [ih _ _ hg.1 ha, ihl _ hg.2 hb]
    intro v v' hg h
    unfold lendV at h
    split at h
    · simp [ground] at hg
    · obtain ⟨x, hx, rfl⟩ := Option.map_eq_some_iff.1 h
      rw [hm _ _ (by rw [← groundL_eq]; simpa [ground] using hg) hx]
    · obtain ⟨x, hx, rfl⟩ := Option.map_eq_some_iff.1 h
      rw [hm _ _ (by rw [← groundL_eq]; simpa [ground] using hg) hx]
    · cases h; rfl
end Fz
