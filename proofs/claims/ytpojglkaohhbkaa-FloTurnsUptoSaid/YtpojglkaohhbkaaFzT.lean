/- A region whose order is open: in whatever order, what the abstract interpreter says. -/
import Derived.Test.YtpojglkaohhbkaaFzS
namespace Fz
open Go

theorem evO_congr {e1 e2 : Env} {x : Opd} (h : ∀ t ∈ usesOpd x, e1 t = e2 t) : evO e1 x = evO e2 x := by
  cases x with
  | t n => exact h n (by simp [usesOpd])
  | c v => rfl
theorem evOo_congr {e1 e2 : Env} {x : Option Opd} (h : ∀ t ∈ usesO x, e1 t = e2 t) : x.map (evO e1) = x.map (evO e2) := by
  cases x with
  | none => rfl
  | some x => simp only [Option.map_some]; rw [evO_congr (x := x) h]
theorem evOl_congr {e1 e2 : Env} {l : List Opd} (h : ∀ t ∈ l.flatMap usesOpd, e1 t = e2 t) : l.map (evO e1) = l.map (evO e2) :=
  List.map_congr_left fun x hx => evO_congr fun t ht => h t (List.mem_flatMap.2 ⟨x, hx, ht⟩)
theorem evOp_congr {e1 e2 : Env} {H : List Ob} {op : AOp} (h : ∀ t ∈ usesOp op, e1 t = e2 t) : evOp (evO e1) H op = evOp (evO e2) H op := by
  have one : ∀ x : Opd, (∀ t ∈ usesOpd x, t ∈ usesOp op) → evO e1 x = evO e2 x := fun x hx => evO_congr fun t ht => h t (hx t ht)
  have opt : ∀ x : Option Opd, (∀ t ∈ usesO x, t ∈ usesOp op) → x.map (evO e1) = x.map (evO e2) := fun x hx => evOo_congr fun t ht => h t (hx t ht)
  have lst : ∀ l : List Opd, (∀ t ∈ l.flatMap usesOpd, t ∈ usesOp op) → l.map (evO e1) = l.map (evO e2) := fun l hx => evOl_congr fun t ht => h t (hx t ht)
  have pts : ∀ l : List (Nat × Nat × Opd), (∀ t ∈ l.flatMap fun p => usesOpd p.2.2, t ∈ usesOp op) → (l.map fun p => (p.1, p.2.1, evO e1 p.2.2)) = l.map fun p => (p.1, p.2.1, evO e2 p.2.2) := fun l hx =>
    List.map_congr_left fun p hp => by rw [evO_congr fun t ht => h t (hx t (List.mem_flatMap.2 ⟨p, hp, ht⟩))]
  cases op with
  | mov x => simp only [evOp, one x (by simp [usesOp])]
  | pick c a b => simp only [evOp, one c (by simp +contextual [usesOp]), one a (by simp +contextual [usesOp]), one b (by simp +contextual [usesOp])]
  | alloc z => rfl
  | box x => simp only [evOp, one x (by simp [usesOp])]
  | build z ps => simp only [evOp, pts ps (by simp [usesOp])]
  | buildSlice n l z ps => simp only [evOp, pts ps (by simp [usesOp])]
  | load g n x => simp only [evOp, one x (by simp [usesOp])]
  | store n a x => simp only [evOp, one a (by simp +contextual [usesOp]), one x (by simp +contextual [usesOp])]
  | nilCheck x => simp only [evOp, one x (by simp [usesOp])]
  | bin o k x y => simp only [evOp, one x (by simp +contextual [usesOp]), one y (by simp +contextual [usesOp])]
  | un o x => simp only [evOp, one x (by simp [usesOp])]
  | conv k x => cases k <;> simp only [evOp, one x (by simp [usesOp])]
  | makeIface t x => simp only [evOp, one x (by simp [usesOp])]
  | makeFunc f a b => simp only [evOp, lst a (by simp +contextual [usesOp]), lst b (by simp +contextual [usesOp])]
  | makeSlice n bt z l c => simp only [evOp, one l (by simp +contextual [usesOp]), one c (by simp +contextual [usesOp])]
  | slice k x lo hi mx => simp only [evOp, one x (by simp +contextual [usesOp]), opt lo (by simp +contextual [usesOp]), opt hi (by simp +contextual [usesOp]), opt mx (by simp +contextual [usesOp])]
  | fieldAddr o x => simp only [evOp, one x (by simp [usesOp])]
  | field g o n x => simp only [evOp, one x (by simp [usesOp])]
  | indexSl n x i => simp only [evOp, one x (by simp +contextual [usesOp]), one i (by simp +contextual [usesOp])]
  | indexPA l n x i => simp only [evOp, one x (by simp +contextual [usesOp]), one i (by simp +contextual [usesOp])]
  | indexArr l n g x i => simp only [evOp, one x (by simp +contextual [usesOp]), one i (by simp +contextual [usesOp])]
  | indexStr x i => simp only [evOp, one x (by simp +contextual [usesOp]), one i (by simp +contextual [usesOp])]
  | extract i x => simp only [evOp, one x (by simp [usesOp])]
  | lenC n => rfl
  | lenS x => simp only [evOp, one x (by simp [usesOp])]
  | len x => simp only [evOp, one x (by simp [usesOp])]
  | cap x => simp only [evOp, one x (by simp [usesOp])]
  | append n bt z s x => simp only [evOp, one s (by simp +contextual [usesOp]), one x (by simp +contextual [usesOp])]
  | copy n d s => simp only [evOp, one d (by simp +contextual [usesOp]), one s (by simp +contextual [usesOp])]
  | clear z n x => simp only [evOp, one x (by simp [usesOp])]
  | max l => simp only [evOp, lst l (by simp [usesOp])]
  | pur k l => simp only [evOp, lst l (by simp [usesOp])]
  | rd k l => simp only [evOp, lst l (by simp [usesOp])]
  | mem k l => simp only [evOp, lst l (by simp [usesOp])]
  | min l => simp only [evOp, lst l (by simp [usesOp])]
  | panic x => simp only [evOp, one x (by simp [usesOp])]
  | call f l => simp only [evOp, lst l (by simp [usesOp])]
  | callv f l => simp only [evOp, one f (by simp +contextual [usesOp]), lst l (by simp +contextual [usesOp])]

theorem quietOp_congr {call : CallT} {inl : FuncId → Bool} {e1 e2 : Env} {H : List Ob} {o : AO} (h : ∀ t ∈ uses o, e1 t = e2 t) : quietOp call inl e1 H o = quietOp call inl e2 H o := by
  have h1 : evOp (evO e1) H o.op = evOp (evO e2) H o.op := evOp_congr fun t ht => h t (List.mem_append_left _ ht)
  unfold quietOp
  rw [h1]
  cases hg : o.guard with
  | none => rfl
  | some tw => obtain ⟨t, w⟩ := tw; simp only [h t (by simp [uses, hg])]
theorem effOp_congr {call : CallT} {inl : FuncId → Bool} {e1 e2 : Env} {H : List Ob} {o : AO} (h : ∀ t ∈ uses o, e1 t = e2 t) : effOp call inl e1 H o = effOp call inl e2 H o := by
  have h1 : evOp (evO e1) H o.op = evOp (evO e2) H o.op := evOp_congr fun t ht => h t (List.mem_append_left _ ht)
  unfold effOp
  rw [h1]
  cases hg : o.guard with
  | none => rfl
  | some tw => obtain ⟨t, w⟩ := tw; simp only [h t (by simp [uses, hg])]

theorem pure_heap {ρ : Opd → V} {H H' : List Ob} {op : AOp} {v : V} (hp : pureOp op = true) (h : evOp ρ H op = some (.val v H')) : H' = H := by
  have ans' : ∀ {o : Option V}, ans H o = some (.val v H') → H' = H := by
    intro o h; unfold ans at h
    obtain ⟨u, _, h⟩ := Option.map_eq_some_iff.1 h
    cases h; rfl
  cases op <;> first
    | (simp [pureOp] at hp; done)
    | (simp only [evOp] at h; exact ans' h)
    | (rename_i k x; cases k <;> simp only [evOp] at h <;> first | (cases h; done) | (split at h <;> (try cases h) <;> (try rfl) <;> (simp only [Option.bind_eq_some_iff] at h; obtain ⟨p, _, h⟩ := h; split at h <;> cases h <;> rfl)))
    | (simp only [evOp] at h
       repeat' (first | (cases h; done) | (cases h; rfl) | (split at h)))
end Fz
