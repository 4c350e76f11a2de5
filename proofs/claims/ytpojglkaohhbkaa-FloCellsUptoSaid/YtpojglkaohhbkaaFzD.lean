/- How the abstract heap and the world go on together: a new object, one written, one that is let go, one made to stay; what is read. -/
import Derived.Test.YtpojglkaohhbkaaFzC
namespace Fz
open Go

theorem push_get {w : World} {o : Obj} {b : Nat} (h : b < w.heap.size) : (w.heap.push o)[b]? = w.heap[b]? := by
  rw [Array.getElem?_push]; rw [if_neg (by omega)]
theorem push_new {w : World} {o : Obj} : (w.heap.push o)[w.heap.size]? = some o := by
  rw [Array.getElem?_push]; simp
theorem heap_lt {w : World} {b : Nat} {o : Obj} (h : w.heap[b]? = some o) : b < w.heap.size := (Array.getElem?_eq_some_iff.1 h).1

theorem Inv.fresh {K : Kn} {β : Bi} {H : List Ob} {w : World} (h : Inv K β H w) : K.fixed w.heap.size = none := by
  cases hf : K.fixed w.heap.size with
  | none => rfl
  | some o => have := heap_lt (h.fixed _ _ hf); omega
theorem Inv.freshB {K : Kn} {β : Bi} {H : List Ob} {w : World} (h : Inv K β H w) : β H.length = none := by
  cases hf : β H.length with
  | none => rfl
  | some o => have := h.dom _ _ hf; omega
theorem Inv.freshS {K : Kn} {β : Bi} {H : List Ob} {w : World} (h : Inv K β H w) : K.size w.heap.size = none := by
  cases hf : K.size w.heap.size with
  | none => rfl
  | some o => obtain ⟨cs, e, fr, h1, _⟩ := h.size _ _ hf; have := heap_lt h1; omega

theorem setB_le {β : Bi} {id b : Nat} (h : β id = none) : ∀ i x, β i = some x → setB β id b i = some x := by
  intro i x hi
  unfold setB
  by_cases e : i = id
  · subst e; rw [h] at hi; cases hi
  · rw [if_neg e]; exact hi
theorem setK_le {K : Kn} {b z : Nat} (h : K.size b = none) : K.le (setK K b z) := by
  refine ⟨fun _ _ h => h, fun x n hx => ?_⟩
  show (if x = b then some z else K.size x) = some n
  by_cases e : x = b
  · subst e; rw [h] at hx; cases hx
  · rw [if_neg e]; exact hx
theorem setK_le' {K : Kn} {b z : Nat} (h : K.size b = some z) : setK K b z = K := by
  unfold setK
  congr 1
  funext x
  by_cases e : x = b
  · subst e; simp [h]
  · simp [e]

theorem liveAt_lt {H : List Ob} {i : Nat} (h : liveAt H i) : i < H.length := by
  obtain ⟨o, ho, _⟩ := h
  exact (List.getElem?_eq_some_iff.1 ho).1

/-- A new block, an object of the abstract heap. -/
theorem Inv.new {K : Kn} {β : Bi} {H : List Ob} {w w' : World} (h : Inv K β H w) {l : List V} {cs : Array Value} {e : TypeId} (hc : CsR K β l cs)
    (hh : w'.heap = w.heap.push (.cells cs e)) (h1 : w'.os = w.os) (h2 : w'.tape = w.tape) (h3 : w'.output = w.output) :
    let K' := setK K w.heap.size cs.size
    let β' := setB β H.length w.heap.size
    K.le K' ∧ (∀ i x, β i = some x → β' i = some x) ∧ β' H.length = some w.heap.size ∧ K'.size w.heap.size = some cs.size ∧ Inv K' β' (H ++ [.live l]) w' ∧ Ev K β H w K' β' (H ++ [.live l]) w' := by
  intro K' β'
  have hK : K.le K' := setK_le h.freshS
  have hβ : ∀ i x, β i = some x → β' i = some x := setB_le h.freshB
  have hb : β' H.length = some w.heap.size := by simp [β', setB]
  have hz : K'.size w.heap.size = some cs.size := by simp [K', setK]
  have hβ' : ∀ i x, β' i = some x → (i = H.length ∧ x = w.heap.size) ∨ β i = some x := by
    intro i x hi
    by_cases e : i = H.length
    · subst e; rw [hb] at hi; exact .inl ⟨rfl, (Option.some.inj hi).symm⟩
    · right; simpa [β', setB, e] using hi
  have hlive : ∀ i, liveAt (H ++ [.live l]) i → i = H.length ∨ liveAt H i := by
    rintro i ⟨o, ho, hl⟩
    by_cases e : i < H.length
    · rw [List.getElem?_append_left e] at ho; exact .inr ⟨o, ho, hl⟩
    · left
      have := (List.getElem?_eq_some_iff.1 ho).1
      simp at this; omega
  have hold : ∀ i b, liveAt H i → β i = some b → b < w.heap.size := by
    rintro i b ⟨o, ho, hl⟩ hi
    obtain ⟨b', g1, g2, _⟩ := (h.obj i o ho).lt hl
    rw [hi] at g1; cases g1; exact g2
  refine ⟨hK, hβ, hb, hz, ⟨?_, ?_, ?_, ?_, ?_⟩, ⟨hK, hβ, by simp, ?_, by rw [hh]; simp, h1, h2, h3, ?_, ?_, fun i hi => if_neg (by omega)⟩⟩
  · intro b o hf
    have := h.fixed b o hf
    rw [hh, push_get (heap_lt this)]; exact this
  · intro b z hs
    by_cases e : b = w.heap.size
    · subst e; rw [hz] at hs; cases hs
      exact ⟨cs, _, _, by rw [hh]; exact push_new, rfl⟩
    · have : K.size b = some z := by simpa [K', setK, e] using hs
      obtain ⟨cs', e', fr, g1, g2⟩ := h.size b z this
      exact ⟨cs', e', fr, by rw [hh, push_get (heap_lt g1)]; exact g1, g2⟩
  · intro i b hi
    rcases hβ' i b hi with ⟨rfl, rfl⟩ | hi
    · simp
    · have := h.dom i b hi; simp; omega
  · intro i o ho
    by_cases e : i < H.length
    · rw [List.getElem?_append_left e] at ho
      refine (h.obj i o ho).mono hK hβ fun b hl hb' hf => ⟨hf, ?_⟩
      rw [hh, push_get (hold i b ⟨o, ho, hl⟩ hb')]
    · have hi : i = H.length := by have := (List.getElem?_eq_some_iff.1 ho).1; simp at this; omega
      subst hi
      simp at ho; subst ho
      exact ⟨_, cs, _, hb, h.fresh, hz, by rw [hh]; exact push_new, hc.mono hK hβ⟩
  · intro i j b hi hj h1 h2
    rcases hβ' i b h1 with ⟨rfl, rfl⟩ | h1
    · rcases hβ' j _ h2 with ⟨rfl, _⟩ | h2
      · rfl
      · rcases hlive j hj with rfl | hj
        · rfl
        · have := hold j _ hj h2; omega
    · rcases hβ' j b h2 with ⟨rfl, rfl⟩ | h2
      · rcases hlive i hi with rfl | hi
        · rfl
        · have := hold i _ hi h1; omega
      · rcases hlive i hi with rfl | hi
        · rw [h.freshB] at h1; cases h1
        · rcases hlive j hj with rfl | hj
          · rw [h.freshB] at h2; cases h2
          · exact h.inj i j b hi hj h1 h2
  · intro x hx _
    rw [hh, push_get hx]
  · rintro x ⟨i, hi, hx⟩
    rcases hβ' i x hx with ⟨rfl, rfl⟩ | hx
    · exact .inr (Nat.le_refl _)
    · rcases hlive i hi with rfl | hi
      · rw [h.freshB] at hx; cases hx
      · exact .inl ⟨i, hi, hx⟩
  · intro x o hf; exact .inl hf

theorem set_get {H : List Ob} {id i : Nat} {o : Ob} (h : id ≠ i) : (H.set id o)[i]? = H[i]? := by
  rw [List.getElem?_set]; simp [h]
theorem set_self {H : List Ob} {id : Nat} {o o' : Ob} (h : H[id]? = some o') : (H.set id o)[id]? = some o := by
  rw [List.getElem?_set]; simp [(List.getElem?_eq_some_iff.1 h).1]

/-- A live object, its cells written anew. -/
theorem Inv.put {K : Kn} {β : Bi} {H : List Ob} {w w' : World} (h : Inv K β H w) {id b : Nat} {l l' : List V} {cs cs' : Array Value} {e : TypeId}
    (hi : H[id]? = some (.live l)) (hb : β id = some b) (hw : w.heap[b]? = some (.cells cs e (0, 0))) (hsz : cs'.size = cs.size) (hc : CsR K β l' cs')
    (hh : ∀ x, w'.heap[x]? = if x = b then some (.cells cs' e (0, 0)) else w.heap[x]?) (hs : w'.heap.size = w.heap.size)
    (h1 : w'.os = w.os) (h2 : w'.tape = w.tape) (h3 : w'.output = w.output) :
    Inv K β (H.set id (.live l')) w' ∧ Ev K β H w K β (H.set id (.live l')) w' := by
  have hlv : liveAt H id := ⟨_, hi, rfl⟩
  obtain ⟨b0, cs0, e0, g1, g2, g3, g4, g5⟩ := h.obj id _ hi
  rw [hb] at g1; cases g1
  rw [hw] at g4; cases g4
  have hlive : ∀ i, liveAt (H.set id (.live l')) i → liveAt H i := by
    rintro i ⟨o, ho, hl⟩
    by_cases e : id = i
    · subst e; exact hlv
    · rw [set_get e] at ho; exact ⟨o, ho, hl⟩
  refine ⟨⟨?_, ?_, ?_, ?_, ?_⟩, ⟨K.le_refl, fun _ _ h => h, by simp, ?_, by omega, h1, h2, h3, ?_, fun _ _ h => .inl h, fun _ _ => rfl⟩⟩
  · intro x o hf
    rw [hh]
    by_cases ex : x = b
    · subst ex; rw [g2] at hf; cases hf
    · rw [if_neg ex]; exact h.fixed x o hf
  · intro x z hz
    rw [hh]
    by_cases ex : x = b
    · subst ex; rw [g3] at hz; cases hz; exact ⟨cs', e, (0, 0), by simp, hsz⟩
    · rw [if_neg ex]; exact h.size x z hz
  · intro i x hx; have := h.dom i x hx; simpa using this
  · intro i o ho
    by_cases ei : id = i
    · subst ei
      rw [set_self hi] at ho; cases ho
      exact ⟨b, cs', e, hb, g2, by rw [hsz]; exact g3, by rw [hh]; simp, hc⟩
    · rw [set_get ei] at ho
      refine (h.obj i o ho).mono K.le_refl (fun _ _ h => h) fun x hl hx hf => ⟨hf, ?_⟩
      rw [hh, if_neg]
      intro ex; subst ex
      exact ei (h.inj id i x hlv ⟨o, ho, hl⟩ hb hx)
  · intro i j x hi' hj' hx hy
    exact h.inj i j x (hlive i hi') (hlive j hj') hx hy
  · intro x hx hn
    rw [hh, if_neg]
    intro ex; subst ex
    exact hn ⟨id, hlv, hb⟩
  · rintro x ⟨i, hi', hx⟩
    exact .inl ⟨i, hlive i hi', hx⟩

/-- An object is let go. -/
theorem Inv.kill {K : Kn} {β : Bi} {H : List Ob} {w : World} (h : Inv K β H w) (id : Nat) :
    Inv K β (H.set id .dead) w ∧ Ev K β H w K β (H.set id .dead) w := by
  have hlive : ∀ i, liveAt (H.set id .dead) i → liveAt H i := by
    rintro i ⟨o, ho, hl⟩
    by_cases e : id = i
    · subst e
      rw [List.getElem?_set] at ho
      split at ho
      · split at ho <;> cases ho; cases hl
      · exact ⟨o, ho, hl⟩
    · rw [set_get e] at ho; exact ⟨o, ho, hl⟩
  refine ⟨⟨h.fixed, h.size, ?_, ?_, ?_⟩, ⟨K.le_refl, fun _ _ h => h, by simp, fun _ _ _ => rfl, Nat.le_refl _, rfl, rfl, rfl, ?_, fun _ _ h => .inl h, fun _ _ => rfl⟩⟩
  · intro i x hx; have := h.dom i x hx; simpa using this
  · intro i o ho
    by_cases ei : id = i
    · subst ei
      rw [List.getElem?_set] at ho
      split at ho
      · split at ho <;> cases ho; trivial
      · exact h.obj _ _ ho
    · rw [set_get ei] at ho; exact h.obj i o ho
  · intro i j x hi' hj' hx hy
    exact h.inj i j x (hlive i hi') (hlive j hj') hx hy
  · rintro x ⟨i, hi', hx⟩
    exact .inl ⟨i, hlive i hi', hx⟩

/-- A live object goes, and another one has its block, its cells written anew. -/
theorem Inv.moved {K : Kn} {β : Bi} {H : List Ob} {w w' : World} (h : Inv K β H w) {id b : Nat} {l l' : List V} {cs cs' : Array Value} {e : TypeId}
    (hi : H[id]? = some (.live l)) (hb : β id = some b) (hw : w.heap[b]? = some (.cells cs e (0, 0))) (hsz : cs'.size = cs.size) (hc : CsR K β l' cs')
    (hh : ∀ x, w'.heap[x]? = if x = b then some (.cells cs' e (0, 0)) else w.heap[x]?) (hs : w'.heap.size = w.heap.size)
    (h1 : w'.os = w.os) (h2 : w'.tape = w.tape) (h3 : w'.output = w.output) :
    let β' := setB β H.length b
    (∀ i x, β i = some x → β' i = some x) ∧ β' H.length = some b ∧ Inv K β' (H.set id .dead ++ [.live l']) w' ∧ Ev K β H w K β' (H.set id .dead ++ [.live l']) w' := by
  intro β'
  have hβ : ∀ i x, β i = some x → β' i = some x := setB_le h.freshB
  have hb' : β' H.length = some b := by simp [β', setB]
  have hlv : liveAt H id := ⟨_, hi, rfl⟩
  have hidlt : id < H.length := (List.getElem?_eq_some_iff.1 hi).1
  obtain ⟨b0, cs0, e0, g1, g2, g3, g4, g5⟩ := h.obj id _ hi
  rw [hb] at g1; cases g1
  rw [hw] at g4; cases g4
  have hβ' : ∀ i x, β' i = some x → (i = H.length ∧ x = b) ∨ β i = some x := by
    intro i x hi
    by_cases e : i = H.length
    · subst e; rw [hb'] at hi; exact .inl ⟨rfl, (Option.some.inj hi).symm⟩
    · right; simpa [β', setB, e] using hi
  have hlen : (H.set id .dead).length = H.length := by simp
  have hlive : ∀ i, liveAt (H.set id .dead ++ [.live l']) i → i = H.length ∨ (liveAt H i ∧ i ≠ id) := by
    rintro i ⟨o, ho, hl⟩
    by_cases e : i < H.length
    · right
      rw [List.getElem?_append_left (by simpa using e)] at ho
      by_cases ei : id = i
      · subst ei; rw [set_self hi] at ho; cases ho; cases hl
      · rw [set_get ei] at ho; exact ⟨⟨o, ho, hl⟩, fun x => ei x.symm⟩
    · left
      have := (List.getElem?_eq_some_iff.1 ho).1
      simp at this; omega
  refine ⟨hβ, hb', ⟨?_, ?_, ?_, ?_, ?_⟩, ⟨K.le_refl, hβ, by simp, ?_, by omega, h1, h2, h3, ?_, fun _ _ h => .inl h, fun i hi => if_neg (by omega)⟩⟩
  · intro x o hf
    rw [hh]
    by_cases ex : x = b
    · subst ex; rw [g2] at hf; cases hf
    · rw [if_neg ex]; exact h.fixed x o hf
  · intro x z hz
    rw [hh]
    by_cases ex : x = b
    · subst ex; rw [g3] at hz; cases hz; exact ⟨cs', e, (0, 0), by simp, hsz⟩
    · rw [if_neg ex]; exact h.size x z hz
  · intro i x hx
    rcases hβ' i x hx with ⟨rfl, rfl⟩ | hx
    · simp
    · have := h.dom i x hx; simp; omega
  · intro i o ho
    by_cases e : i < H.length
    · rw [List.getElem?_append_left (by simpa using e)] at ho
      by_cases ei : id = i
      · subst ei; rw [set_self hi] at ho; cases ho; trivial
      · rw [set_get ei] at ho
        refine (h.obj i o ho).mono K.le_refl hβ fun x hl hx hf => ⟨hf, ?_⟩
        rw [hh, if_neg]
        intro ex; subst ex
        exact ei (h.inj id i x hlv ⟨o, ho, hl⟩ hb hx)
    · have hi' : i = H.length := by have := (List.getElem?_eq_some_iff.1 ho).1; simp at this; omega
      subst hi'
      rw [List.getElem?_append_right (by simp)] at ho
      simp at ho; subst ho
      exact ⟨b, cs', _, hb', g2, by rw [hsz]; exact g3, (hh b).trans (if_pos rfl), hc.mono K.le_refl hβ⟩
  · intro i j x hi' hj' hx hy
    rcases hlive i hi' with rfl | ⟨li, ni⟩
    · rcases hlive j hj' with rfl | ⟨lj, nj⟩
      · rfl
      · rw [hb'] at hx; cases hx
        rcases hβ' j b hy with ⟨rfl, _⟩ | hy
        · rfl
        · exact absurd (h.inj id j b hlv lj hb hy).symm nj
    · rcases hβ' i x hx with ⟨rfl, _⟩ | hx
      · exact absurd (liveAt_lt li) (by omega)
      · rcases hlive j hj' with rfl | ⟨lj, nj⟩
        · rw [hb'] at hy; cases hy
          exact absurd (h.inj id i b hlv li hb hx).symm ni
        · rcases hβ' j x hy with ⟨rfl, _⟩ | hy
          · exact absurd (liveAt_lt lj) (by omega)
          · exact h.inj i j x li lj hx hy
  · intro x hx hn
    rw [hh, if_neg]
    intro ex; subst ex
    exact hn ⟨id, hlv, hb⟩
  · rintro x ⟨i, hi', hx⟩
    rcases hβ' i x hx with ⟨rfl, rfl⟩ | hx
    · exact .inl ⟨id, hlv, hb⟩
    · rcases hlive i hi' with rfl | ⟨li, _⟩
      · rw [h.freshB] at hx; cases hx
      · exact .inl ⟨i, li, hx⟩

/-- A live object is made to stay. -/
def fixK (K : Kn) (b : Nat) (o : Obj) : Kn := ⟨fun x => if x = b then some o else K.fixed x, K.size⟩
theorem fixK_le {K : Kn} {b : Nat} {o : Obj} (h : K.fixed b = none) : K.le (fixK K b o) := by
  refine ⟨fun x y hx => ?_, fun _ _ h => h⟩
  show (if x = b then some o else K.fixed x) = some y
  by_cases e : x = b
  · subst e; rw [h] at hx; cases hx
  · rw [if_neg e]; exact hx

theorem Inv.fix {K : Kn} {β : Bi} {H : List Ob} {w : World} (h : Inv K β H w) {id b : Nat} {o o' : Ob} {x : Obj}
    (hi : H[id]? = some o) (hl : o.isLive = true) (hb : β id = some b) (hw : w.heap[b]? = some x) (hf : K.fixed b = none) (hd : o'.isLive = false)
    (ho' : ObR (fixK K b x) β w id o') :
    K.le (fixK K b x) ∧ Inv (fixK K b x) β (H.set id o') w ∧ Ev K β H w (fixK K b x) β (H.set id o') w := by
  have hK : K.le (fixK K b x) := fixK_le hf
  have hlv : liveAt H id := ⟨_, hi, hl⟩
  have hlive : ∀ i, liveAt (H.set id o') i → liveAt H i ∧ i ≠ id := by
    rintro i ⟨y, ho, hy⟩
    by_cases e : id = i
    · subst e; rw [set_self hi] at ho; cases ho; rw [hd] at hy; cases hy
    · rw [set_get e] at ho; exact ⟨⟨y, ho, hy⟩, fun x => e x.symm⟩
  refine ⟨hK, ⟨?_, h.size, ?_, ?_, ?_⟩, ⟨hK, fun _ _ h => h, by simp, fun _ _ _ => rfl, Nat.le_refl _, rfl, rfl, rfl, ?_, ?_, fun _ _ => rfl⟩⟩
  · intro y z hz
    by_cases e : y = b
    · subst e; simp [fixK] at hz; subst hz; exact hw
    · simp [fixK, e] at hz; exact h.fixed y z hz
  · intro i y hy; have := h.dom i y hy; simpa using this
  · intro i y hy
    by_cases e : id = i
    · subst e; rw [set_self hi] at hy; cases hy; exact ho'
    · rw [set_get e] at hy
      refine (h.obj i y hy).mono hK (fun _ _ h => h) fun z hz hβ hn => ⟨?_, rfl⟩
      have : z ≠ b := by
        intro ez; subst ez
        exact e (h.inj id i z hlv ⟨y, hy, hz⟩ hb hβ)
      simp [fixK, this, hn]
  · intro i j y hi' hj' hx hy
    exact h.inj i j y (hlive i hi').1 (hlive j hj').1 hx hy
  · rintro y ⟨i, hi', hy⟩; exact .inl ⟨i, (hlive i hi').1, hy⟩
  · intro y z hz
    by_cases e : y = b
    · subst e; exact .inr (.inl ⟨id, hlv, hb⟩)
    · simp [fixK, e] at hz; exact .inl hz
end Fz
