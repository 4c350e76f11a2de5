/- Arguments that are read out of memory, as values of the abstract interpreter; a law that answers true for each of them. -/
import Derived.Test.YtpojglkaohhbkaaFzW
import Derived.ProofKit
import Derived.OpenShut
import Derived.JoinedCond
import Derived.Carry
import Derived.Below
namespace Fz
open Go Go.ChangeShapes Go.WideShapes Go.ChangeAt Go.RowKit

/-- Types of plain data. -/
inductive Ty where
  | bool
  | int (k : IntKind)
  | float (k : FloatKind)
  | str
  | sl (e : Ty)
  | agg (l : List Ty)

mutual
def width : Ty → Nat
  | .agg l => widths l
  | _ => 1
def widths : List Ty → Nat
  | [] => 0
  | t :: l => width t + widths l
end

mutual
/-- A value is of a type. -/
def HasT : Ty → V → Prop
  | .bool, v => ∃ b, v = .bool b
  | .int k, v => ∃ n, v = .int k n ∧ k.min ≤ n ∧ n ≤ k.max
  | .float k, v => ∃ n, v = .float k n ∧ (Lit.float k n).wf = true
  | .str, v => ∃ s, v = .str s
  | .sl e, v => ∃ l c, v = .list l c ∧ ∀ x ∈ l, HasT e x
  | .agg ts, v => ∃ l, v = .agg (flat l) ∧ HasTs ts l
def HasTs : List Ty → List V → Prop
  | [], l => l = []
  | t :: ts, l => ∃ v r, l = v :: r ∧ HasT t v ∧ HasTs ts r
end

mutual
/-- How much a value holds. -/
def bulk : V → Nat
  | .str s => s.size + 1
  | .list l _ => bulkL l + 1
  | .agg l => bulkL l + 1
  | _ => 1
def bulkL : List V → Nat
  | [] => 0
  | v :: l => bulk v + bulkL l
end

def fieldsOk (P : Program) : Nat → List Field → List Ty → Bool
  | _, [], [] => true
  | o, f :: fs, t :: ts => f.offset == o && P.cellsOf f.type == width t && fieldsOk P (o + width t) fs ts
  | _, _, _ => false

def tyOf (P : Program) : Nat → TypeId → Option Ty
  | 0, _ => none
  | d + 1, t => match P.underlying t with
    | some .bool => some .bool
    | some (.int k) => some (.int k)
    | some (.float k) => some (.float k)
    | some .string => some .str
    | some (.slice e) => match tyOf P d e with
      | some T => if P.cellsOf e = width T ∧ width T ≠ 0 then some (.sl T) else none
      | none => none
    | some (.struct fs) => match mapOpt (fun f => tyOf P d f.type) fs.toList with
      | some Ts => if fieldsOk P 0 fs.toList Ts = true ∧ P.cellsOf t = widths Ts then some (.agg Ts) else none
      | none => none
    | some (.array n e) => match tyOf P d e with
      | some T => if P.cellsOf e = width T ∧ P.cellsOf t = n * width T then some (.agg (List.replicate n T)) else none
      | none => none
    | _ => none

theorem widths_replicate (n : Nat) (T : Ty) : widths (List.replicate n T) = n * width T := by
  induction n with
  | zero => simp [widths]
  | succ n ih => rw [List.replicate_succ, widths, ih, Nat.succ_mul]; omega

theorem bulkL_append (a b : List V) : bulkL (a ++ b) = bulkL a + bulkL b := by
  induction a with
  | nil => simp [bulkL]
  | cons v l ih => simp only [List.cons_append, bulkL, ih]; omega
theorem bulk_cells (v : V) : bulkL (cellsOf v) ≤ bulk v := by
  cases v <;> simp [cellsOf, bulkL, bulk]
theorem bulk_flat (l : List V) : bulkL (flat l) ≤ bulkL l := by
  induction l with
  | nil => simp [flat, bulkL]
  | cons v l ih =>
    have e : flat (v :: l) = cellsOf v ++ flat l := by simp [flat]
    rw [e, bulkL_append, bulkL]
    have := bulk_cells v
    omega
theorem bulk_pos (v : V) : 1 ≤ bulk v := by cases v <;> simp [bulk]
theorem bulk_length (l : List V) : l.length ≤ bulkL l := by
  induction l with
  | nil => simp
  | cons v l ih => have := bulk_pos v; simp only [List.length_cons, bulkL]; omega
theorem bulk_mem {v : V} {l : List V} (h : v ∈ l) : bulk v ≤ bulkL l := by
  induction l with
  | nil => cases h
  | cons x l ih =>
    simp only [bulkL]
    rcases List.mem_cons.1 h with rfl | h
    · omega
    · have := ih h; omega

/-- What the rows' bulk is. -/
structure Bulk (ub : {H : Type} → DataW H → Nat) (ubAll : {H : Type} → List (DataW H) → Nat) : Prop where
  lit : ∀ {H : Type} (b : List UInt8), ub (DataW.lit (H := H) (.string b)) = b.length + 1
  pos : ∀ {H : Type} (d : DataW H), 1 ≤ ub d
  agg : ∀ {H : Type} (l : List (DataW H)), ub (.agg l) = ubAll l + 1
  slice : ∀ {H : Type} (l m : List (DataW H)), ub (.slice l m) = ubAll l + ubAll m + 1
  nil : ∀ {H : Type}, ubAll ([] : List (DataW H)) = 0
  cons : ∀ {H : Type} (d : DataW H) (l : List (DataW H)), ubAll (d :: l) = ub d + ubAll l

/-- All that there is, known for good. -/
def Kall (w : World) : Kn := ⟨fun b => w.heap[b]?, fun b => match w.heap[b]? with | some (.cells cs _ _) => some cs.size | _ => none⟩
theorem inv_all (w : World) : Inv (Kall w) (fun _ => none) [] w where
  fixed b o h := h
  size b z h := by
    unfold Kall at h
    dsimp only at h
    split at h
    · rename_i cs e fr hb
      exact ⟨cs, e, fr, hb, Option.some.inj h⟩
    · cases h
  dom _ _ h := by cases h
  obj id o h := by simp at h
  inj i j b _ _ h := by cases h

theorem cells_get {w : World} {base : Nat} {a : Addr} {n : Nat} {cs : List Value} (h : w.cells? base a n = some cs) :
    cs.length = n ∧ ∀ i, i < n → w.cell? (a.add i) = cs[i]? := by
  unfold World.cells? at h
  split at h
  · refine ⟨by simpa using mapM_some_length h, fun i hi => ?_⟩
    exact mapM_some_get h i i (by simp [hi])
  · cases h

theorem cell_block {w : World} {a : Addr} {v : Value} (h : w.cell? a = some v) : a.spot = none ∧ ∃ cs e fr, w.heap[a.block]? = some (.cells cs e fr) ∧ cs[a.off]? = some v := by
  unfold World.cell? at h
  split at h
  · rename_i c e fr hb
    split at h
    · cases h
    · rename_i hs
      exact ⟨by simpa using hs, c, e, fr, hb, h⟩
  · cases h

/-- A value's cells. -/
def CellsR (K : Kn) (β : Bi) (v : V) (cs : List Value) : Prop := (cellsOf v).length = cs.length ∧ ∀ i c, (cellsOf v)[i]? = some c → VR K β c (cs.getD i Go.undef)

theorem mapOpt_cons {α β : Type} {f : α → Option β} {a : α} {l : List α} {r : List β} (h : mapOpt f (a :: l) = some r) : ∃ b t, f a = some b ∧ mapOpt f l = some t ∧ r = b :: t := by
  unfold mapOpt at h
  split at h
  · rename_i x y hx hy; cases h; exact ⟨_, _, hx, hy, rfl⟩
  · cases h

theorem ubAll_le {ub : {H : Type} → DataW H → Nat} {ubAll : {H : Type} → List (DataW H) → Nat} (hu : Bulk ub ubAll) {H : Type} : ∀ (vs : List V) (ds : List (DataW H)), vs.length = ds.length →
    (∀ (i : Nat) (v : V) (d : DataW H), vs[i]? = some v → ds[i]? = some d → bulk v ≤ ub d) → bulkL vs ≤ ubAll ds
  | [], [], _, _ => by simp [bulkL, hu.nil]
  | v :: vs, d :: ds, hl, h => by
    rw [bulkL, hu.cons]
    have h1 := h 0 v d rfl rfl
    have h2 := ubAll_le hu vs ds (by simpa using hl) fun i v d hv hd => h (i + 1) v d (by simpa using hv) (by simpa using hd)
    omega
  | [], _ :: _, hl, _ => by simp at hl
  | _ :: _, [], hl, _ => by simp at hl

theorem flat_get {vs : List V} {n : Nat} (hn : ∀ v ∈ vs, (cellsOf v).length = n) : ∀ (i : Nat) (c : V), (flat vs)[i]? = some c → 0 < n ∧ ∃ v, vs[i / n]? = some v ∧ (cellsOf v)[i % n]? = some c := by
  induction vs with
  | nil => intro i c h; simp [flat] at h
  | cons a vs ih =>
    intro i c h
    have e : flat (a :: vs) = cellsOf a ++ flat vs := by simp [flat]
    have ha := hn a (List.mem_cons_self ..)
    rw [e] at h
    by_cases hi : i < n
    · rw [List.getElem?_append_left (by omega)] at h
      exact ⟨by omega, a, by rw [Nat.div_eq_of_lt hi]; rfl, by rw [Nat.mod_eq_of_lt hi]; exact h⟩
    · rw [List.getElem?_append_right (by omega), ha] at h
      obtain ⟨h0, v, h1, h2⟩ := ih (fun v hv => hn v (List.mem_cons_of_mem _ hv)) (i - n) c h
      refine ⟨h0, v, ?_, ?_⟩
      · have : i / n = (i - n) / n + 1 := by
          conv => lhs; rw [show i = (i - n) + n from by omega]
          exact Nat.add_div_right _ h0
        rw [this]; simpa using h1
      · rw [show i % n = (i - n) % n from (Nat.mod_eq_sub_mod (by omega))]; exact h2

theorem getD_drop_take {cs : List Value} {o n i : Nat} (h : i < n) : ((cs.drop o).take n).getD i Go.undef = cs.getD (o + i) Go.undef := by
  simp [List.getD_eq_getElem?_getD, List.getElem?_take, h, List.getElem?_drop]

section
variable {ub : {H : Type} → DataW H → Nat} {ubAll : {H : Type} → List (DataW H) → Nat} {P : Program} {w : World} {H : Type} {enc : TypeId × Value → H} {sp : Nat → Bool} {held : Bool}

/-- Fields, one behind the other. -/
theorem fields_V {K : Kn} {β : Bi} (hu : Bulk ub ubAll) {cs : List Value} : ∀ (fs : List Field) (Ts : List Ty) (o : Nat) (xs : List (DataW H × List MemPlace)), fieldsOk P o fs Ts = true → xs.length = fs.length → cs.length = o + widths Ts →
    (∀ (i : Nat) (f : Field) (x : DataW H × List MemPlace) (T : Ty), fs[i]? = some f → xs[i]? = some x → Ts[i]? = some T → P.cellsOf f.type = width T → ∃ v, HasT T v ∧ (cellsOf v).length = width T ∧ CellsR K β v ((cs.drop f.offset).take (P.cellsOf f.type)) ∧ bulk v ≤ ub x.1) →
    ∃ vs, HasTs Ts vs ∧ (flat vs).length = widths Ts ∧ (∀ i c, (flat vs)[i]? = some c → VR K β c (cs.getD (o + i) Go.undef)) ∧ bulkL vs ≤ ubAll (xs.map (·.1))
  | [], [], o, xs, _, hx, hc, _ => by
    have : xs = [] := List.length_eq_zero_iff.1 (by simpa using hx)
    subst this
    exact ⟨[], by simp [HasTs], by simp [flat, widths], fun i c h => by simp [flat] at h, by simp [bulkL, hu.nil]⟩
  | f :: fs, T :: Ts, o, [], _, hx, _, _ => by simp at hx
  | f :: fs, T :: Ts, o, x :: xs, hf, hx, hc, h => by
    simp only [fieldsOk, Bool.and_eq_true, beq_iff_eq] at hf
    obtain ⟨⟨h1, h2⟩, h3⟩ := hf
    obtain ⟨v, hv, hvl, hvc, hvb⟩ := h 0 f x T rfl rfl rfl h2
    obtain ⟨vs, g1, g2, g3, g4⟩ := fields_V hu fs Ts (o + width T) xs h3 (by simpa using hx) (by rw [hc, widths]; omega) fun i f x T hf hx hT hw => h (i + 1) f x T (by simpa using hf) (by simpa using hx) (by simpa using hT) hw
    have e : flat (v :: vs) = cellsOf v ++ flat vs := by simp [flat]
    refine ⟨v :: vs, ⟨v, vs, rfl, hv, g1⟩, by rw [e, List.length_append, hvl, g2, widths], fun i c hi => ?_, ?_⟩
    · rw [e] at hi
      by_cases hlt : i < width T
      · rw [List.getElem?_append_left (by omega)] at hi
        have := hvc.2 i c hi
        rw [h1, h2, getD_drop_take hlt] at this
        exact this
      · rw [List.getElem?_append_right (by omega), hvl] at hi
        have := g3 _ c hi
        rw [show o + width T + (i - width T) = o + i from by omega] at this
        exact this
    · rw [bulkL, List.map_cons, hu.cons]; omega
  | [], _ :: _, _, _, hf, _, _, _ => by simp [fieldsOk] at hf
  | _ :: _, [], _, _, hf, _, _, _ => by simp [fieldsOk] at hf

theorem array_V {K : Kn} {β : Bi} (hu : Bulk ub ubAll) {cs : List Value} {T : Ty} : ∀ (n o : Nat) (xs : List (DataW H × List MemPlace)), xs.length = n → cs.length = o + n * width T →
    (∀ (i : Nat) (x : DataW H × List MemPlace), xs[i]? = some x → ∃ v, HasT T v ∧ (cellsOf v).length = width T ∧ CellsR K β v ((cs.drop (o + i * width T)).take (width T)) ∧ bulk v ≤ ub x.1) →
    ∃ vs, HasTs (List.replicate n T) vs ∧ (flat vs).length = n * width T ∧ (∀ i c, (flat vs)[i]? = some c → VR K β c (cs.getD (o + i) Go.undef)) ∧ bulkL vs ≤ ubAll (xs.map (·.1))
  | 0, o, xs, hx, hc, _ => by
    have : xs = [] := List.length_eq_zero_iff.1 hx
    subst this
    exact ⟨[], by simp [HasTs], by simp [flat], fun i c h => by simp [flat] at h, by simp [bulkL, hu.nil]⟩
  | n + 1, o, [], hx, _, _ => by simp at hx
  | n + 1, o, x :: xs, hx, hc, h => by
    obtain ⟨v, hv, hvl, hvc, hvb⟩ := h 0 x rfl
    obtain ⟨vs, g1, g2, g3, g4⟩ := array_V (K := K) (β := β) hu (cs := cs) (T := T) n (o + width T) xs (by simpa using hx) (by rw [hc, Nat.succ_mul]; omega) fun i x hx => by
      have := h (i + 1) x (by simpa using hx)
      rwa [show o + (i + 1) * width T = o + width T + i * width T from by rw [Nat.succ_mul]; omega] at this
    have e : flat (v :: vs) = cellsOf v ++ flat vs := by simp [flat]
    refine ⟨v :: vs, ?_, by rw [e, List.length_append, hvl, g2, Nat.succ_mul, Nat.add_comm], fun i c hi => ?_, ?_⟩
    · rw [List.replicate_succ]; exact ⟨v, vs, rfl, hv, g1⟩
    · rw [e] at hi
      by_cases hlt : i < width T
      · rw [List.getElem?_append_left (by omega)] at hi
        have := hvc.2 i c hi
        rw [Nat.zero_mul, Nat.add_zero, getD_drop_take hlt] at this
        exact this
      · rw [List.getElem?_append_right (by omega), hvl] at hi
        have := g3 _ c hi
        rw [show o + width T + (i - width T) = o + i from by omega] at this
        exact this
    · rw [bulkL, List.map_cons, hu.cons]; omega

theorem trod_float {fuel : Nat} {t : TypeId} {cs : List Value} {x : DataW H × List MemPlace} {base : Nat} {k : FloatKind} (ht : P.underlying t = some (.float k)) (h : DataW.trod enc P w base sp held fuel t cs = some x) :
    ∃ b, cs = [.float k b] ∧ x = (.lit (.float k b), []) ∧ (Lit.float k b).wf = true := by
  cases fuel with
  | zero => simp [DataW.trod] at h
  | succ n =>
    unfold DataW.trod at h
    rw [ht] at h
    split at h <;> simp_all
theorem trod_array {fuel : Nat} {t e : TypeId} {n : Nat} {cs : List Value} {x : DataW H × List MemPlace} {base : Nat} (ht : P.underlying t = some (.array n e)) (h : DataW.trod enc P w base sp held fuel t cs = some x) :
    ∃ m xs, fuel = m + 1 ∧ cs.length = P.cellsOf t ∧ (List.range n).mapM (fun i => DataW.trod enc P w base sp held m e ((cs.drop (i * P.cellsOf e)).take (P.cellsOf e))) = some xs ∧ x = (.agg (xs.map (·.1)), xs.flatMap (·.2)) := by
  cases fuel with
  | zero => simp [DataW.trod] at h
  | succ m =>
    unfold DataW.trod at h
    rw [ht] at h
    split at h <;> simp_all
    obtain ⟨hl, xs, hp, hd⟩ := h
    exact ⟨xs, hp, hd.symm⟩
theorem add_block (a : Addr) (i : Nat) : (a.add i).block = a.block := by unfold Addr.add; split <;> rfl
theorem add_off (a : Addr) (i : Nat) : (a.add i).off = a.off + i := by unfold Addr.add; split <;> simp_all

def AgOk : Ty → V → Prop
  | .agg _, v => ∃ l, v = .agg l
  | _, v => ∀ l, v ≠ .agg l
theorem trod_V (hu : Bulk ub ubAll) {β : Bi} : ∀ (d : Nat) (t : TypeId) (T : Ty), tyOf P d t = some T → ∀ (fuel : Nat) (cs : List Value) (x : DataW H × List MemPlace), DataW.trod enc P w 0 (fun _ => true) held fuel t cs = some x →
    ∃ v, HasT T v ∧ (cellsOf v).length = width T ∧ CellsR (Kall w) β v cs ∧ bulk v ≤ ub x.1 ∧ AgOk T v
  | 0, _, _, hT => by cases hT
  | d + 1, t, T, hT => by
    intro fuel cs x h
    have one : ∀ {v : V} {c : Value} {cs : List Value}, cs = [c] → cellsOf v = [v] → VR (Kall w) β v c → CellsR (Kall w) β v cs := by
      intro v c cs hcs hv hr
      subst hcs
      refine ⟨by rw [hv]; rfl, fun i c' hi => ?_⟩
      rw [hv] at hi
      cases i with
      | zero => cases hi; exact hr
      | succ i => simp at hi
    rw [tyOf] at hT
    split at hT
    · rename_i hP
      cases hT
      obtain ⟨b, rfl, rfl⟩ := DataW.trod_bool hP h
      exact ⟨.bool b, ⟨b, rfl⟩, rfl, one rfl rfl (.bool b), hu.pos _, fun l h => by cases h⟩
    · rename_i k hP
      cases hT
      obtain ⟨n, rfl, rfl, hw⟩ := DataW.trod_int hP h
      simp only [Lit.wf, Bool.and_eq_true, decide_eq_true_eq] at hw
      exact ⟨.int k n, ⟨n, rfl, hw.1, hw.2⟩, rfl, one rfl rfl (.int k n), hu.pos _, fun l h => by cases h⟩
    · rename_i k hP
      cases hT
      obtain ⟨b, rfl, rfl, hw⟩ := trod_float hP h
      exact ⟨.float _ b, ⟨b, rfl, hw⟩, rfl, one rfl rfl (.float _ b), hu.pos _, fun l h => by cases h⟩
    · rename_i hP
      cases hT
      obtain ⟨s, rfl, rfl, hm⟩ := DataW.trod_string hP h
      refine ⟨.str s, ⟨s, rfl⟩, rfl, one rfl rfl (.str s), ?_, fun l h => by cases h⟩
      rw [hu.lit, bulk, Array.length_toList]; exact Nat.le_refl _
    · rename_i e hP
      split at hT
      · rename_i E hE
        split at hT
        · rename_i hw
          cases hT
          obtain ⟨hw, hw0⟩ := hw
          rcases DataW.trod_slice hP h with ⟨rfl, rfl⟩ | ⟨a, len, cap, elems, rest, n, rfl, rfl, rfl, _, hlc, _, hel, hget, hrest, _⟩
          · exact ⟨.list [] true, ⟨[], true, rfl, fun x hx => by cases hx⟩, rfl, one rfl rfl (.lnil fun _ => rfl), by rw [bulk, bulkL]; exact hu.pos _, fun l h => by cases h⟩
          · have elem : ∀ i, i < len → ∃ v y cs', elems[i]? = some y ∧ w.cells? 0 (a.add (i * P.cellsOf e)) (P.cellsOf e) = some cs' ∧ HasT E v ∧ (cellsOf v).length = width E ∧ CellsR (Kall w) β v cs' ∧ bulk v ≤ ub y.1 := by
              intro i hi
              have := hget i hi
              have hi' : i < elems.length := by omega
              rw [List.getElem?_eq_getElem hi', Option.bind_eq_some_iff] at this
              obtain ⟨cs', h1, h2⟩ := this
              obtain ⟨v, g1, g2, g3, g4, _⟩ := trod_V hu d e E hE n cs' _ h2
              exact ⟨v, elems[i], cs', List.getElem?_eq_getElem hi', h1, g1, g2, g3, g4⟩
            have all : ∃ vs : List V, vs.length = len ∧ ∀ i v, vs[i]? = some v → ∃ y cs', elems[i]? = some y ∧ w.cells? 0 (a.add (i * P.cellsOf e)) (P.cellsOf e) = some cs' ∧ HasT E v ∧ (cellsOf v).length = width E ∧ CellsR (Kall w) β v cs' ∧ bulk v ≤ ub y.1 := by
              have : ∀ m, m ≤ len → ∃ vs : List V, vs.length = m ∧ ∀ i v, vs[i]? = some v → ∃ y cs', elems[i]? = some y ∧ w.cells? 0 (a.add (i * P.cellsOf e)) (P.cellsOf e) = some cs' ∧ HasT E v ∧ (cellsOf v).length = width E ∧ CellsR (Kall w) β v cs' ∧ bulk v ≤ ub y.1 := by
                intro m
                induction m with
                | zero => intro _; exact ⟨[], rfl, fun i v h => by simp at h⟩
                | succ m ih =>
                  intro hm
                  obtain ⟨vs, h1, h2⟩ := ih (by omega)
                  obtain ⟨v, hv⟩ := elem m (by omega)
                  refine ⟨vs ++ [v], by simp [h1], fun i u hu => ?_⟩
                  by_cases hi : i < m
                  · rw [List.getElem?_append_left (by omega)] at hu; exact h2 i u hu
                  · rw [List.getElem?_append_right (by omega)] at hu
                    have hi' : i = m := by
                      by_cases h : i = m
                      · exact h
                      · rw [List.getElem?_eq_none (by simp; omega)] at hu; cases hu
                    subst hi'
                    rw [h1, Nat.sub_self] at hu
                    cases hu
                    exact hv
              exact this len (Nat.le_refl _)
            obtain ⟨vs, hvl, hvs⟩ := all
            have hb : bulkL vs ≤ ubAll (elems.map (·.1)) := ubAll_le hu vs _ (by simp; omega) fun i v dd hv hd => by
              obtain ⟨y, cs', h1, h2, h3, h4, h5, h6⟩ := hvs i v hv
              rw [List.getElem?_map, h1] at hd
              cases hd; exact h6
            have hty : ∀ v ∈ vs, HasT E v := by
              intro v hv
              obtain ⟨i, hi⟩ := List.getElem?_of_mem hv
              obtain ⟨y, cs', h1, h2, h3, h4⟩ := hvs i v hi
              exact h3
            have hub : bulk (.list vs (decide (len = cap))) ≤ ub (.slice (elems.map (·.1)) (rest.map (·.1))) := by
              rw [hu.slice, bulk]; omega
            by_cases h0 : len = 0
            · have : vs = [] := List.length_eq_zero_iff.1 (by omega)
              subst this
              subst h0
              exact ⟨.list [] (decide (0 = cap)), ⟨[], _, rfl, fun x hx => by cases hx⟩, rfl, one rfl rfl (.lnil fun h => by simp at h; exact h.symm), hub, fun l h => by cases h⟩
            · refine ⟨.list vs (decide (len = cap)), ⟨vs, _, rfl, hty⟩, rfl, one rfl rfl ?_, hub, fun l h => by cases h⟩
              obtain ⟨v0, y0, cs0, h1, h2, h3, h4, h5⟩ := elem 0 (by omega)
              obtain ⟨g1, g2⟩ := cells_get h2
              have c0 := g2 0 (by omega)
              obtain ⟨c, hc⟩ : ∃ c, cs0[0]? = some c := ⟨_, List.getElem?_eq_getElem (show 0 < cs0.length by omega)⟩
              rw [hc] at c0
              obtain ⟨hs, bs, be, bfr, hblk, _⟩ := cell_block c0
              have haddr : a = ⟨a.block, a.off, none⟩ := by
                have : a.spot = none := by simpa [Addr.add] using hs
                cases a; simp_all
              have hblk' : w.heap[a.block]? = some (.cells bs be bfr) := by simpa [Addr.add] using hblk
              have celltot : ∀ i k, i < len → k < width E → ∃ v, vs[i]? = some v ∧ ∀ c, (cellsOf v)[k]? = some c → VR (Kall w) β c (bs.getD (a.off + (i * width E + k)) Go.undef) ∧ a.off + (i * width E + k) < bs.size := by
                intro i k hi hk
                obtain ⟨v, hv⟩ : ∃ v, vs[i]? = some v := ⟨_, List.getElem?_eq_getElem (show i < vs.length by omega)⟩
                obtain ⟨y, cs', q1, q2, q3, q4, q5, q6⟩ := hvs i v hv
                obtain ⟨r1, r2⟩ := cells_get q2
                refine ⟨v, hv, fun c hc => ?_⟩
                have := q5.2 k c hc
                have e1 := r2 k (by omega)
                have hk' : k < cs'.length := by omega
                rw [List.getElem?_eq_getElem hk'] at e1
                obtain ⟨_, bs', be', bfr', hblk2, hcell⟩ := cell_block e1
                have : bs' = bs := by
                  rw [add_block, add_block, hblk'] at hblk2
                  cases hblk2; rfl
                subst this
                have e2 : bs'[a.off + (i * width E + k)]? = some cs'[k] := by
                  rw [add_off, add_off, hw, Nat.add_assoc] at hcell
                  exact hcell
                refine ⟨?_, (Array.getElem?_eq_some_iff.1 e2).1⟩
                rw [Array.getD_eq_getD_getElem?, e2]
                rw [List.getD_eq_getElem?_getD, List.getElem?_eq_getElem hk'] at this
                exact this
              have hn : ∀ v ∈ vs, (cellsOf v).length = width E := by
                intro v hv
                obtain ⟨i, hi⟩ := List.getElem?_of_mem hv
                obtain ⟨y, cs', h1, h2, h3, h4, _⟩ := hvs i v hi
                exact h4
              rw [haddr, ← hvl]
              refine .list (K := Kall w) (n := width E) (e := be) (fr := bfr) (cs := bs) hblk' hn hw0 ?_ (by omega) (fun h => by simp at h; omega) ?_
              · obtain ⟨v, hv, hh⟩ := celltot (len - 1) (width E - 1) (by omega) (by omega)
                have hvm : v ∈ vs := List.mem_of_getElem? hv
                have hl := hn v hvm
                obtain ⟨_, hlt⟩ := hh _ (List.getElem?_eq_getElem (show width E - 1 < (cellsOf v).length by omega))
                have e3 : len * width E = (len - 1) * width E + width E := by
                  conv => lhs; rw [show len = (len - 1) + 1 from by omega, Nat.succ_mul]
                rw [hvl, e3]
                omega
              · intro i v hi
                obtain ⟨h0', u, hu1, hu2⟩ := flat_get hn i v hi
                have hi1 : i / width E < len := by
                  have := (List.getElem?_eq_some_iff.1 hu1).1; omega
                obtain ⟨v', hv', hh⟩ := celltot (i / width E) (i % width E) hi1 (Nat.mod_lt _ h0')
                rw [hu1] at hv'
                cases hv'
                have := (hh v hu2).1
                rwa [show i / width E * width E + i % width E = i from Nat.div_add_mod' i (width E)] at this
        · cases hT
      · cases hT
    · rename_i fs hP
      split at hT
      · rename_i Ts hTs
        split at hT
        · rename_i hok
          cases hT
          obtain ⟨xs, n, rfl, rfl, hlen, hxl, hf⟩ := DataW.trod_struct hP h
          obtain ⟨hok, hwd⟩ := hok
          obtain ⟨hml, hmg⟩ := mapOpt_get hTs
          obtain ⟨vs, g1, g2, g3, g4⟩ := fields_V (K := Kall w) (β := β) hu (cs := cs) fs.toList Ts 0 xs hok (by simpa using hxl) (by omega) fun i f y T' hfi hxi hTi hwf => by
            obtain ⟨f', hf', hT'⟩ := hmg i T' hTi
            rw [hfi] at hf'
            cases hf'
            have := hf i f (by simpa using hfi)
            rw [hxi] at this
            obtain ⟨v, q1, q2, q3, q4, _⟩ := trod_V hu d f.type T' hT' n _ y this
            exact ⟨v, q1, q2, q3, q4⟩
          refine ⟨.agg (flat vs), ⟨vs, rfl, g1⟩, by rw [cellsOf, width]; exact g2, ⟨by rw [cellsOf]; omega, fun i c hi => ?_⟩, ?_, ⟨_, rfl⟩⟩
          · have := g3 i c hi
            rwa [Nat.zero_add] at this
          · rw [hu.agg, bulk]
            have := bulk_flat vs
            omega
        · cases hT
      · cases hT
    · rename_i n e hP
      split at hT
      · rename_i E hE
        split at hT
        · rename_i hok
          cases hT
          obtain ⟨hw, hwd⟩ := hok
          obtain ⟨m, xs, rfl, hlen, hxs, rfl⟩ := trod_array hP h
          have hxl : xs.length = n := by simpa using mapM_some_length hxs
          obtain ⟨vs, g1, g2, g3, g4⟩ := array_V (K := Kall w) (β := β) hu (cs := cs) (T := E) n 0 xs hxl (by omega) fun i y hi => by
            have hin : i < n := by have := (List.getElem?_eq_some_iff.1 hi).1; omega
            have := mapM_some_get hxs i i (by simp [hin])
            rw [hi, hw] at this
            obtain ⟨v, q1, q2, q3, q4, _⟩ := trod_V hu d e E hE m _ y this
            rw [Nat.zero_add]
            exact ⟨v, q1, q2, q3, q4⟩
          refine ⟨.agg (flat vs), ⟨vs, rfl, g1⟩, by rw [cellsOf, width, widths_replicate]; exact g2, ⟨by rw [cellsOf]; omega, fun i c hi => ?_⟩, ?_, ⟨_, rfl⟩⟩
          · have := g3 i c hi
            rwa [Nat.zero_add] at this
          · rw [hu.agg, bulk]
            have := bulk_flat vs
            omega
        · cases hT
      · cases hT
    · cases hT
end
end Fz
