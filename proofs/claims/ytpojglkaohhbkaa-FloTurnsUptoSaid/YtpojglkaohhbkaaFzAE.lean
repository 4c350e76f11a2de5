/- Laws by which 'simp' carries code out: what a function hands back; lists. -/
import Derived.Test.YtpojglkaohhbkaaFzAD
import Derived.IntWalk
namespace Fz
open Go

@[simp] theorem tupV_one {v : V} : tupV [v] = v := (rfl)
@[simp] theorem tupV_nil : tupV [] = .tuple [] := (rfl)
@[simp] theorem tupV_more {u v : V} {l : List V} : tupV (u :: v :: l) = .tuple (u :: v :: l) := (rfl)

/-! ### Made to stay -/
def xFrz (k : Nat) (v : V) (H : List Ob) (K : V → List Ob → Prop) [Tok H] [Tok K] : Prop := ∃ v' H', freezeV k v H = some (v', H') ∧ K (nrm v') H'
def xFrzL (k : Nat) (l : List V) (H : List Ob) (K : List V → List Ob → Prop) [Tok H] [Tok K] : Prop := ∃ l' H', mapS (freezeV k) l H = some (l', H') ∧ K (l'.map nrm) H'
/-- Names no object, and isn't deep. -/
def gk (k : Nat) (v : V) : Bool := ground v && shal k v
theorem gk_freeze {k : Nat} {v : V} (h : gk k v = true) (H : List Ob) : freezeV k v H = some (v, H) := by
  unfold gk at h; rw [Bool.and_eq_true] at h; exact freeze_gr _ _ _ h.1 h.2
theorem gks_freeze {k : Nat} {l : List V} (h : l.all (gk k) = true) (H : List Ob) : mapS (freezeV k) l H = some (l, H) := by
  induction l with
  | nil => rfl
  | cons v l ih =>
    rw [List.all_cons, Bool.and_eq_true] at h
    rw [mapS, gk_freeze h.1]
    dsimp only
    rw [ih h.2]
@[simp 2000] theorem frz_gk {k : Nat} {v : V} {H : List Ob} {K : V → List Ob → Prop} (h : gk k v = true) : xFrz k v H K = K (nrm v) H := by
  unfold xFrz
  rw [gk_freeze h]
  refine propext ⟨?_, fun hk => ⟨_, _, rfl, hk⟩⟩
  rintro ⟨v', H', h1, h2⟩
  cases h1; exact h2
@[simp 2000] theorem frzL_gk {k : Nat} {l : List V} {H : List Ob} {K : List V → List Ob → Prop} (h : l.all (gk k) = true) : xFrzL k l H K = wVal (l.map nrm) fun x => K x H := by
  unfold xFrzL
  rw [gks_freeze h]
  refine propext ⟨?_, fun hk => ⟨_, _, rfl, hk⟩⟩
  rintro ⟨v', H', h1, h2⟩
  cases h1; exact h2
@[simp] theorem frzL_nil {k : Nat} {H : List Ob} {K : List V → List Ob → Prop} : xFrzL k [] H K = K [] H := by
  refine propext ⟨?_, fun hk => ⟨_, _, rfl, hk⟩⟩
  rintro ⟨v', H', h1, h2⟩
  cases h1; exact h2
@[simp] theorem frzL_cons {k : Nat} {v : V} {l : List V} {H : List Ob} {K : List V → List Ob → Prop} : xFrzL k (v :: l) H K = xFrz k v H fun v' H1 => xFrzL k l H1 fun l' H2 => K (v' :: l') H2 := by
  refine propext ⟨?_, ?_⟩
  · rintro ⟨l', H', h1, h2⟩
    rw [mapS] at h1
    split at h1
    · cases h1
    · rename_i v1 H1 hv
      split at h1
      · cases h1
      · rename_i l2 H2 hl
        cases h1
        exact ⟨v1, H1, hv, _, _, hl, h2⟩
  · rintro ⟨v1, H1, hv, l2, H2, hl, h2⟩
    refine ⟨v1 :: l2, H2, ?_, h2⟩
    rw [mapS, hv]
    dsimp only
    rw [hl]
@[simp] theorem frz_agg {k : Nat} {l : List V} {H : List Ob} {K : V → List Ob → Prop} : xFrz (k + 1) (.agg l) H K = xFrzL k l H fun l' H' => K (.agg l') H' := by
  refine propext ⟨?_, ?_⟩
  · rintro ⟨v, H', h1, h2⟩
    rw [freezeV] at h1
    obtain ⟨q, hq, h1⟩ := Option.map_eq_some_iff.1 h1
    cases h1
    exact ⟨q.1, q.2, hq, by rw [nrm, nrmL_eq] at h2; exact h2⟩
  · rintro ⟨l', H', h1, h2⟩
    exact ⟨.agg l', H', by rw [freezeV, h1]; rfl, by rw [nrm, nrmL_eq]; exact h2⟩
@[simp] theorem frz_tuple {k : Nat} {l : List V} {H : List Ob} {K : V → List Ob → Prop} : xFrz (k + 1) (.tuple l) H K = xFrzL k l H fun l' H' => K (.tuple l') H' := by
  refine propext ⟨?_, ?_⟩
  · rintro ⟨v, H', h1, h2⟩
    rw [freezeV] at h1
    obtain ⟨q, hq, h1⟩ := Option.map_eq_some_iff.1 h1
    cases h1
    exact ⟨q.1, q.2, hq, by rw [nrm, nrmL_eq] at h2; exact h2⟩
  · rintro ⟨l', H', h1, h2⟩
    exact ⟨.tuple l', H', by rw [freezeV, h1]; rfl, by rw [nrm, nrmL_eq]; exact h2⟩
/-- Groups of cells. -/
def wChunk (n len : Nat) (l : List V) (K : List V → Prop) [Tok K] : Prop := (n ≠ 1 ∨ l.all leafy = true) ∧ K (chunk n len l)
def wOb (H : List Ob) (id : Nat) (L F : List V → Prop) [Tok L] [Tok F] : Prop := match H[id]? with
  | some (.live l) => L l
  | some (.fixed l) => F l
  | _ => False
def wSetOb (H : List Ob) (id : Nat) (o : Ob) (K : List Ob → Prop) [Tok K] : Prop := K (H.set id o)
theorem chunks_nrm (n : Nat) : ∀ (k : Nat) (l : List V), (chunks n k l).map nrm = chunks n k (l.map nrm) := by
  intro k
  induction k with
  | zero => intro l; rfl
  | succ k ih => intro l; rw [chunks, chunks, List.map_cons, ih, nrm, nrmL_eq, List.map_take, List.map_drop]
theorem chunk_nrm (n k : Nat) (l : List V) : (chunk n k l).map nrm = chunk n k (l.map nrm) := by
  unfold chunk
  split
  · rw [List.map_take]
  · exact chunks_nrm n k l
theorem leafy_nrm (l : List V) : (l.map nrm).all leafy = l.all leafy := by
  rw [List.all_map]
  congr 1
  funext v
  cases v <;> rfl
@[simp] theorem frz_own {k id off len n : Nat} {H : List Ob} {K : V → List Ob → Prop} : xFrz (k + 1) (.own id off len n) H K =
    wOb H id (fun l => (off + len * n ≤ l.length ∧ n ≠ 0) ∧ wVal ((l.drop off).take (len * n)) fun x => wSetOb H id (.fixed l) fun H' => xFrzL k x H' fun x H' => wChunk n len x fun y => K (.list y false) H')
      (fun l => (off + len * n ≤ l.length ∧ n ≠ 0) ∧ wVal ((l.drop off).take (len * n)) fun x => xFrzL k x H fun x H' => wChunk n len x fun y => K (.list y false) H') := by
  unfold xFrz wOb wVal wSetOb xFrzL wChunk
  rw [freezeV]
  cases H[id]? with
  | none => simp
  | some o =>
    cases o with
    | live l =>
      dsimp only
      refine propext ⟨?_, ?_⟩
      · rintro ⟨v, H', h1, h2⟩
        split at h1
        · rename_i hc
          split at h1
          · rename_i x H1 hx
            split at h1 <;> cases h1
            rename_i hl
            exact ⟨hc, _, _, hx, by rwa [leafy_nrm], by rw [nrm, nrmL_eq, chunk_nrm] at h2; exact h2⟩
          · cases h1
        · cases h1
      · rintro ⟨hc, x, H1, hx, hl, h2⟩
        rw [if_pos hc, hx]
        dsimp only
        rw [leafy_nrm] at hl
        rw [if_pos hl]
        exact ⟨_, _, rfl, by rw [nrm, nrmL_eq, chunk_nrm]; exact h2⟩
    | fixed l =>
      dsimp only
      refine propext ⟨?_, ?_⟩
      · rintro ⟨v, H', h1, h2⟩
        split at h1
        · rename_i hc
          split at h1
          · rename_i x H1 hx
            split at h1 <;> cases h1
            rename_i hl
            exact ⟨hc, _, _, hx, by rwa [leafy_nrm], by rw [nrm, nrmL_eq, chunk_nrm] at h2; exact h2⟩
          · cases h1
        · cases h1
      · rintro ⟨hc, x, H1, hx, hl, h2⟩
        rw [if_pos hc, hx]
        dsimp only
        rw [leafy_nrm] at hl
        rw [if_pos hl]
        exact ⟨_, _, rfl, by rw [nrm, nrmL_eq, chunk_nrm]; exact h2⟩
    | _ => simp

theorem wFix_by {p : AP} {f : FuncId} {u v : V} {H : List Ob} (hi : p.inl f = false) : wFix p f v (.ret u) H = xFrz 12 u H fun u' _ => u' = v := by
  unfold wFix xFrz
  rw [hi]
  refine propext ⟨?_, ?_⟩
  · rintro (⟨h, _⟩ | ⟨_, u', H', h1, h2⟩)
    · cases h
    · exact ⟨u', H', h1, h2⟩
  · rintro ⟨u', H', h1, h2⟩
    exact .inr ⟨rfl, u', H', h1, h2⟩
theorem wFix_inl {p : AP} {f : FuncId} {u v : V} {H : List Ob} (hi : p.inl f = true) : wFix p f v (.ret u) H = (u = v) := by
  unfold wFix
  rw [hi]
  refine propext ⟨?_, fun h => .inl ⟨rfl, h⟩⟩
  rintro (⟨_, h⟩ | ⟨h, _⟩)
  · exact h
  · cases h
@[simp] theorem wFix_panic {p : AP} {f : FuncId} {v u : V} {H : List Ob} : wFix p f v (.panic u) H = False := rfl
@[simp] theorem nr_bool {b : Bool} : nrm (.bool b) = .bool b := by rw [nrm]; all_goals (intros; contradiction)
@[simp] theorem nr_int {k : IntKind} {n : Int} : nrm (.int k n) = .int k n := by rw [nrm]; all_goals (intros; contradiction)
@[simp] theorem nr_str {s : ByteArray} : nrm (.str s) = .str s := by rw [nrm]; all_goals (intros; contradiction)
@[simp] theorem nr_float {k : FloatKind} {n : Nat} : nrm (.float k n) = .float k n := by rw [nrm]; all_goals (intros; contradiction)
@[simp] theorem nr_fnan {k : FloatKind} : nrm (.fnan k) = .fnan k := by rw [nrm]; all_goals (intros; contradiction)
@[simp] theorem nr_nilp : nrm .nilp = .nilp := by rw [nrm]; all_goals (intros; contradiction)
@[simp] theorem nr_nilfn : nrm .nilfn = .nilfn := by rw [nrm]; all_goals (intros; contradiction)
@[simp] theorem nr_ptr {i o : Nat} : nrm (.ptr i o) = .ptr i o := by rw [nrm]; all_goals (intros; contradiction)
@[simp] theorem nr_fn {f : Go.Fn} {a b : List V} : nrm (.fn f a b) = .fn f a b := by rw [nrm]; all_goals (intros; contradiction)
@[simp] theorem nr_list {l : List V} {c : Bool} : nrm (.list l c) = .list (l.map nrm) false := by rw [nrm, nrmL_eq]
@[simp] theorem nr_agg {l : List V} : nrm (.agg l) = .agg (l.map nrm) := by rw [nrm, nrmL_eq]
@[simp] theorem nr_tuple {l : List V} : nrm (.tuple l) = .tuple (l.map nrm) := by rw [nrm, nrmL_eq]
@[simp] theorem nrc_int {k : IntKind} : nrm ∘ V.int k = V.int k := funext fun _ => nr_int
@[simp] theorem nrc_str : nrm ∘ V.str = V.str := funext fun _ => nr_str
@[simp] theorem nrc_bool : nrm ∘ V.bool = V.bool := funext fun _ => nr_bool
@[simp] theorem nm_bool {b : Bool} : nm (.bool b) = true := by unfold nm; rfl
@[simp] theorem nm_int {k : IntKind} {n : Int} : nm (.int k n) = true := by unfold nm; rfl
@[simp] theorem nm_str {s : ByteArray} : nm (.str s) = true := by unfold nm; rfl
@[simp] theorem nm_float {k : FloatKind} {n : Nat} : nm (.float k n) = true := by unfold nm; rfl
@[simp] theorem nm_fnan {k : FloatKind} : nm (.fnan k) = true := by unfold nm; rfl
@[simp] theorem nm_nilp : nm .nilp = true := by unfold nm; rfl
@[simp] theorem nm_nilfn : nm .nilfn = true := by unfold nm; rfl
@[simp] theorem nm_ptr {i o : Nat} : nm (.ptr i o) = true := by unfold nm; rfl
@[simp] theorem nm_fn {f : Go.Fn} {a b : List V} : nm (.fn f a b) = true := by unfold nm; rfl
@[simp] theorem nm_list {l : List V} {c : Bool} : nm (.list l c) = (!c && l.all nm) := by rw [nm, nmL_eq]
@[simp] theorem nm_agg {l : List V} : nm (.agg l) = l.all nm := by rw [nm, nmL_eq]
@[simp] theorem nm_tuple {l : List V} : nm (.tuple l) = l.all nm := by rw [nm, nmL_eq]

/-! ### Values that name no object -/
theorem all_and {α : Type} (f g : α → Bool) (l : List α) : (l.all f && l.all g) = l.all fun x => f x && g x := by
  induction l with
  | nil => rfl
  | cons a l ih =>
    rw [List.all_cons, List.all_cons, List.all_cons, ← ih]
    cases f a <;> cases g a <;> simp
@[simp] theorem gd_bool {b : Bool} : ground (.bool b) = true := by unfold ground; rfl
@[simp] theorem gd_int {k : IntKind} {n : Int} : ground (.int k n) = true := by unfold ground; rfl
@[simp] theorem gd_str {s : ByteArray} : ground (.str s) = true := by unfold ground; rfl
@[simp] theorem gd_float {k : FloatKind} {n : Nat} : ground (.float k n) = true := by unfold ground; rfl
@[simp] theorem gd_fnan {k : FloatKind} : ground (.fnan k) = true := by unfold ground; rfl
@[simp] theorem gd_nilp : ground .nilp = true := by unfold ground; rfl
@[simp] theorem gd_nilfn : ground .nilfn = true := by unfold ground; rfl
@[simp] theorem gd_list {l : List V} {c : Bool} : ground (.list l c) = l.all ground := by rw [ground, groundL_eq]
@[simp] theorem gd_agg {l : List V} : ground (.agg l) = l.all ground := by rw [ground, groundL_eq]
@[simp] theorem gd_tuple {l : List V} : ground (.tuple l) = l.all ground := by rw [ground, groundL_eq]
@[simp] theorem gd_fn {f : Go.Fn} {a b : List V} : ground (.fn f a b) = (a.all ground && b.all ground) := by rw [ground, groundL_eq, groundL_eq]
@[simp] theorem gdL {l : List V} : groundL l = l.all ground := groundL_eq l

/-! ### Cells -/
@[simp] theorem cells_agg {l : List V} : cellsOf (.agg l) = l := (rfl)
@[simp] theorem cells_int {k : IntKind} {n : Int} : cellsOf (.int k n) = [.int k n] := (rfl)
@[simp] theorem cells_bool {b : Bool} : cellsOf (.bool b) = [.bool b] := (rfl)
@[simp] theorem cells_str {s : ByteArray} : cellsOf (.str s) = [.str s] := (rfl)
@[simp] theorem cells_list {l : List V} {c : Bool} : cellsOf (.list l c) = [.list l c] := (rfl)
@[simp] theorem cells_own {a b c d : Nat} : cellsOf (.own a b c d) = [.own a b c d] := (rfl)
@[simp] theorem cells_float {k : FloatKind} {n : Nat} : cellsOf (.float k n) = [.float k n] := (rfl)
@[simp] theorem cells_fnan {k : FloatKind} : cellsOf (.fnan k) = [.fnan k] := (rfl)
@[simp] theorem cells_ptr {a b : Nat} : cellsOf (.ptr a b) = [.ptr a b] := (rfl)
@[simp] theorem cells_nilp : cellsOf .nilp = [.nilp] := (rfl)
@[simp] theorem cells_fn {f : Go.Fn} {a b : List V} : cellsOf (.fn f a b) = [.fn f a b] := (rfl)
@[simp] theorem any_agg {l : List V} : isAny (.agg l) = false := by unfold isAny; rfl
@[simp] theorem any_tuple {l : List V} : isAny (.tuple l) = false := by unfold isAny; rfl
@[simp] theorem any_bool {b : Bool} : isAny (.bool b) = false := by unfold isAny; rfl
@[simp] theorem st_bool {b : Bool} : storable (.bool b) = true := by unfold storable; rfl
@[simp] theorem any_int {k : IntKind} {n : Int} : isAny (.int k n) = false := by unfold isAny; rfl
@[simp] theorem st_int {k : IntKind} {n : Int} : storable (.int k n) = true := by unfold storable; rfl
@[simp] theorem any_str {s : ByteArray} : isAny (.str s) = false := by unfold isAny; rfl
@[simp] theorem st_str {s : ByteArray} : storable (.str s) = true := by unfold storable; rfl
@[simp] theorem any_float {k : FloatKind} {n : Nat} : isAny (.float k n) = false := by unfold isAny; rfl
@[simp] theorem st_float {k : FloatKind} {n : Nat} : storable (.float k n) = true := by unfold storable; rfl
@[simp] theorem any_fnan {k : FloatKind} : isAny (.fnan k) = false := by unfold isAny; rfl
@[simp] theorem st_fnan {k : FloatKind} : storable (.fnan k) = true := by unfold storable; rfl
@[simp] theorem any_nilp  : isAny (.nilp) = false := by unfold isAny; rfl
@[simp] theorem st_nilp  : storable (.nilp) = true := by unfold storable; rfl
@[simp] theorem any_nilfn  : isAny (.nilfn) = false := by unfold isAny; rfl
@[simp] theorem st_nilfn  : storable (.nilfn) = true := by unfold storable; rfl
@[simp] theorem any_niliface  : isAny (.niliface) = false := by unfold isAny; rfl
@[simp] theorem st_niliface  : storable (.niliface) = true := by unfold storable; rfl
@[simp] theorem any_ptr {a b : Nat} : isAny (.ptr a b) = false := by unfold isAny; rfl
@[simp] theorem st_ptr {a b : Nat} : storable (.ptr a b) = true := by unfold storable; rfl
@[simp] theorem any_own {a b c d : Nat} : isAny (.own a b c d) = false := by unfold isAny; rfl
@[simp] theorem st_own {a b c d : Nat} : storable (.own a b c d) = true := by unfold storable; rfl
@[simp] theorem any_list {l : List V} {c : Bool} : isAny (.list l c) = false := by unfold isAny; rfl
@[simp] theorem st_list {l : List V} {c : Bool} : storable (.list l c) = true := by unfold storable; rfl
@[simp] theorem any_ref {l : List V} : isAny (.ref l) = false := by unfold isAny; rfl
@[simp] theorem st_ref {l : List V} : storable (.ref l) = true := by unfold storable; rfl
@[simp] theorem any_fn {f : Go.Fn} {a b : List V} : isAny (.fn f a b) = false := by unfold isAny; rfl
@[simp] theorem st_fn {f : Go.Fn} {a b : List V} : storable (.fn f a b) = true := by unfold storable; rfl
@[simp] theorem any_iface {t : TypeId} {v : V} : isAny (.iface t v) = false := by unfold isAny; rfl
@[simp] theorem st_iface {t : TypeId} {v : V} : storable (.iface t v) = true := by unfold storable; rfl
@[simp] theorem splice_eq {l : List V} {off : Nat} {x : List V} : splice l off x = l.take off ++ x ++ l.drop (off + x.length) := (rfl)
@[simp] theorem zeros_zero {z : List V} : zeros z 0 = [] := (rfl)
@[simp] theorem zeros_one {v : V} {n : Nat} : zeros [v] n = List.replicate n v := by
  induction n with
  | zero => rfl
  | succ n ih => rw [zeros, ih]; rfl
theorem uni_map {α : Type} {f : α → V} {l : List α} {n : Nat} (h : ∀ x, (cellsOf (f x)).length = n) : uni n (l.map f) = true := by
  unfold uni
  rw [List.all_map, List.all_eq_true]
  intro x _
  exact beq_iff_eq.2 (h x)
@[simp] theorem uni_nil {n : Nat} : uni n [] = true := (rfl)
@[simp] theorem uni_cons {n : Nat} {v : V} {l : List V} : uni n (v :: l) = ((cellsOf v).length == n && uni n l) := (rfl)
@[simp] theorem uni_append {n : Nat} {l m : List V} : uni n (l ++ m) = (uni n l && uni n m) := by
  unfold uni; rw [List.all_append]
theorem flat_map {α : Type} {f : α → V} {l : List α} : flat (l.map f) = l.flatMap fun x => cellsOf (f x) := by
  unfold flat
  rw [List.flatMap_map]
@[simp] theorem flat_nil : flat [] = [] := (rfl)
@[simp] theorem flat_cons {v : V} {l : List V} : flat (v :: l) = cellsOf v ++ flat l := (rfl)
@[simp] theorem flat_append {l m : List V} : flat (l ++ m) = flat l ++ flat m := by simp [flat]
theorem flat_one {α : Type} {f : α → V} {l : List α} (h : ∀ x, cellsOf (f x) = [f x]) : flat (l.map f) = l.map f := by
  rw [flat_map]
  induction l with
  | nil => rfl
  | cons a l ih => rw [List.flatMap_cons, ih, h]; rfl
@[simp] theorem chunk_one {len : Nat} {l : List V} : chunk 1 len l = l.take len := (rfl)

/-! ### Whole numbers within their bounds -/
theorem w64 {n : Int} (h1 : -9223372036854775808 ≤ n) (h2 : n ≤ 9223372036854775807) : IntKind.i64.wrap n = n := IntWalk.i64_in n ⟨h1, h2⟩
theorem w8 {n : Int} (h1 : 0 ≤ n) (h2 : n ≤ 255) : IntKind.u8.wrap n = n := IntWalk.u8_in n ⟨h1, h2⟩

/-! ### The heap's last object -/
@[simp] theorem wMut_end {H : List Ob} {l : List V} {K : List V → Prop} : wMut (H ++ [.live l]) H.length K = K l := by simp [wMut]
@[simp] theorem wLive_end {H : List Ob} {l : List V} {K : List V → Prop} : wLive (H ++ [.live l]) H.length K = K l := by simp [wLive]
@[simp] theorem wMut_next {H : List Ob} {o : Ob} {l : List V} {K : List V → Prop} : wMut (H ++ [o, .live l]) (H.length + 1) K = K l := by simp [wMut]
@[simp] theorem wLive_next {H : List Ob} {o : Ob} {l : List V} {K : List V → Prop} : wLive (H ++ [o, .live l]) (H.length + 1) K = K l := by simp [wLive]
theorem wLive_app {H G : List Ob} {i : Nat} {l : List V} {K : List V → Prop} (h : H[i]? = some (.live l)) : wLive (H ++ G) i K = K l := by
  have hi := (List.getElem?_eq_some_iff.1 h).1
  simp [wLive, List.getElem?_append_left hi, h]
theorem wMut_app {H G : List Ob} {i : Nat} {l : List V} {K : List V → Prop} (h : H[i]? = some (.live l)) : wMut (H ++ G) i K = K l := by
  have hi := (List.getElem?_eq_some_iff.1 h).1
  simp [wMut, List.getElem?_append_left hi, h]
theorem wLive_at {H : List Ob} {i : Nat} {l : List V} {K : List V → Prop} (h : H[i]? = some (.live l)) : wLive H i K = K l := by simp [wLive, h]
theorem wMut_at {H : List Ob} {i : Nat} {l : List V} {K : List V → Prop} (h : H[i]? = some (.live l)) : wMut H i K = K l := by simp [wMut, h]

@[simp] theorem take_map_length {α β : Type} {f : α → β} {l : List α} : (l.map f).take l.length = l.map f := by
  rw [← List.map_take, List.take_length]
@[simp] theorem getD_map_length {α β : Type} {f : α → β} {l : List α} : (l.map f).drop l.length = [] := by
  rw [← List.map_drop, List.drop_length]; rfl


/-! ### Loops, calls -/
theorem xL_by {p : AP} {b : WC} {Q : QX} {e : Env} {H : List Ob} (hc : okW b = true) (I : Nat → Env → List Ob → Prop) (k : Nat) (h : I k e H)
    (step : ∀ k e H, I k e H → wx p b e H (loopQ I k Q)) : xL p b e H Q := WL_by hc I k h step
/-- A call whose arguments are made to stay already. -/
def xCallN (p : AP) (f : FuncId) (args : List V) (H : List Ob) (Q : CR → List Ob → Prop) [Tok H] [Tok Q] : Prop := ∃ v, Comes p f args v ∧ Q (.ret v) H
theorem call_frz {p : AP} {f : FuncId} {args : List V} {H : List Ob} {Q : CR → List Ob → Prop} (hi : p.inl f = false)
    (h : xFrzL 12 args H fun a H' => xCallN p f a H' Q) : xCall p f args H Q := by
  obtain ⟨a, H', h1, v, h2, h3⟩ := h
  have h1 : mapS (freezeV depthF) args H = some (a, H') := h1
  have e : ∀ n, doCall (acall p n) p.inl f args H = doCall (acall p n) p.inl f (a.map nrm) H' := by
    intro n
    unfold doCall
    have hn : (a.map nrm).map nrm = a.map nrm := by
      have := h2.2.2.1
      rw [hi, Bool.false_or] at this
      exact nrms_nm this
    rw [hi, h1, grs_freeze h2.1 H', Option.map_some, Option.map_some, hn]
    rfl
  have : WCall p f args H Q = WCall p f (a.map nrm) H' Q := by
    unfold WCall
    simp only [e]
  show WCall p f args H Q
  rw [this, WCall_fn h2]
  exact h3
theorem callN_by {p : AP} {f : FuncId} {args : List V} {v : V} (h : Comes p f args v) {H : List Ob} {Q : CR → List Ob → Prop} : xCallN p f args H Q = Q (.ret v) H := by
  refine propext ⟨?_, fun hq => ⟨v, h, hq⟩⟩
  rintro ⟨u, h1, h2⟩
  rw [← WCall_fn h1 H Q] at h2
  rwa [WCall_fn h] at h2
theorem call_by {p : AP} {f : FuncId} {args : List V} {v : V} (h : Comes p f args v) {H : List Ob} {Q : CR → List Ob → Prop} : xCall p f args H Q = Q (.ret v) H := WCall_fn h H Q
theorem quiet_by {p : AP} {f : FuncId} {args : List V} {v : V} (h : Comes p f args v) {H : List Ob} {K : V → Prop} : xQuiet p f args H K = K v := WQuiet_fn h H K
theorem call_nrm {p : AP} {f : FuncId} {args a : List V} {v : V} (hi : p.inl f = false) (hg : args.all gr = true) (ha : args.map nrm = a) (h : Comes p f a v) {H : List Ob} {Q : CR → List Ob → Prop} : xCall p f args H Q = Q (.ret v) H := by
  subst ha
  have hn : (args.map nrm).map nrm = args.map nrm := by
    have := h.2.2.1
    rw [hi, Bool.false_or] at this
    exact nrms_nm this
  have e : ∀ n, doCall (acall p n) p.inl f args H = doCall (acall p n) p.inl f (args.map nrm) H := by
    intro n
    unfold doCall
    rw [hi, grs_freeze hg H, grs_freeze h.1 H, Option.map_some, Option.map_some, hn]
    rfl
  have : WCall p f args H Q = WCall p f (args.map nrm) H Q := by
    unfold WCall
    simp only [e]
  show WCall p f args H Q = _
  rw [this, WCall_fn h]
/-- A quiet call whose arguments may bear rooms. -/
theorem quiet_nrm {p : AP} {f : FuncId} {args a : List V} {v : V} (hi : p.inl f = false) (hg : args.all gr = true) (ha : args.map nrm = a) (h : Comes p f a v) {H : List Ob} {K : V → Prop} : xQuiet p f args H K = K v := by
  subst ha
  have hn : (args.map nrm).map nrm = args.map nrm := by
    have := h.2.2.1
    rw [hi, Bool.false_or] at this
    exact nrms_nm this
  have e : ∀ n H, doCall (acall p n) p.inl f args H = doCall (acall p n) p.inl f (args.map nrm) H := by
    intro n H
    unfold doCall
    rw [hi, grs_freeze hg H, grs_freeze h.1 H, Option.map_some, Option.map_some, hn]
    rfl
  have hv : ground v = true := by have := h.2.1; unfold gr at this; exact (Bool.and_eq_true _ _ ▸ this).1
  obtain ⟨n, hd⟩ := h.doCall
  refine propext ⟨?_, fun hk => ?_⟩
  · rintro ⟨m, l, u, h1, h2, h3, h4, h5⟩
    rw [grs_lend hg H] at h1
    cases h1
    rw [e] at h3
    have e1 := doCall_mono (acall_le p (Nat.le_max_left m n)) p.inl _ _ _ _ h3
    have e2 := doCall_mono (acall_le p (Nat.le_max_right m n)) p.inl _ _ _ _ (hd [])
    rw [e1] at e2
    cases e2
    exact h5
  · refine ⟨n, args, v, grs_lend hg H, grs_ground hg, ?_, by rw [hv, grs_ground hg, Bool.or_true]; rfl, hk⟩
    rw [e]; exact hd []
@[simp] theorem gk_bool {k : Nat} {b : Bool} : gk (k + 1) (.bool b) = true := by unfold gk; rfl
@[simp] theorem gk_int {k : Nat} {i : IntKind} {n : Int} : gk (k + 1) (.int i n) = true := by unfold gk; rfl
@[simp] theorem gk_str {k : Nat} {s : ByteArray} : gk (k + 1) (.str s) = true := by unfold gk; rfl
@[simp] theorem gk_float {k : Nat} {i : FloatKind} {n : Nat} : gk (k + 1) (.float i n) = true := by unfold gk; rfl
@[simp] theorem gk_fnan {k : Nat} {i : FloatKind} : gk (k + 1) (.fnan i) = true := by unfold gk; rfl
@[simp] theorem gk_nilp {k : Nat} : gk (k + 1) .nilp = true := by unfold gk; rfl
@[simp] theorem gk_nilfn {k : Nat} : gk (k + 1) .nilfn = true := by unfold gk; rfl
@[simp] theorem gk_list {k : Nat} {l : List V} {c : Bool} : gk (k + 1) (.list l c) = l.all ground := by
  show (groundL l && true) = _
  rw [groundL_eq, Bool.and_true]
@[simp] theorem gk_fn {k : Nat} {f : Go.Fn} {a b : List V} : gk (k + 1) (.fn f a b) = (a.all ground && b.all ground) := by
  show ((groundL a && groundL b) && true) = _
  rw [groundL_eq, groundL_eq, Bool.and_true]
@[simp] theorem gk_agg {k : Nat} {l : List V} : gk (k + 1) (.agg l) = l.all (gk k) := by
  show (groundL l && l.all (shal k)) = _
  rw [groundL_eq]; exact all_and _ _ l
@[simp] theorem gk_tuple {k : Nat} {l : List V} : gk (k + 1) (.tuple l) = l.all (gk k) := by
  show (groundL l && l.all (shal k)) = _
  rw [groundL_eq]; exact all_and _ _ l
@[simp] theorem gr_gk {v : V} : gr v = gk 12 v := rfl
theorem chunk_fm {α : Type} {n : Nat} (hn : n ≠ 1) {f : α → V} {c : α → List V} (hc : ∀ x, (c x).length = n) (hf : ∀ x, f x = .agg (c x)) (l : List α) (m : Nat) (hm : m = l.length) :
    chunk n m (l.flatMap c) = l.map f := by
  subst hm
  unfold chunk
  rw [if_neg hn]
  induction l with
  | nil => rfl
  | cons a l ih =>
    rw [List.length_cons, chunks, List.flatMap_cons, List.map_cons, hf, List.take_left' (hc a), List.drop_left' (hc a), ih]
@[simp] theorem wGet_map_end {α : Type} {f : α → V} {l : List α} {v : V} {K : V → Prop} : wGet (l.map f ++ [v]) l.length K = K v := by simp [wGet]
@[simp] theorem zeros_1 {z : List V} : zeros z 1 = z := by simp [zeros]
@[simp] theorem zeros_2 {z : List V} : zeros z 2 = z ++ z := by simp [zeros]
@[simp] theorem sh_bool {b : Bool} {d : Nat} : shal (d + 1) (.bool b) = true := by unfold shal; rfl
@[simp] theorem sh_int {k : IntKind} {n : Int} {d : Nat} : shal (d + 1) (.int k n) = true := by unfold shal; rfl
@[simp] theorem sh_str {s : ByteArray} {d : Nat} : shal (d + 1) (.str s) = true := by unfold shal; rfl
@[simp] theorem sh_float {k : FloatKind} {n : Nat} {d : Nat} : shal (d + 1) (.float k n) = true := by unfold shal; rfl
@[simp] theorem sh_fnan {k : FloatKind} {d : Nat} : shal (d + 1) (.fnan k) = true := by unfold shal; rfl
@[simp] theorem sh_nilp  {d : Nat} : shal (d + 1) (.nilp) = true := by unfold shal; rfl
@[simp] theorem sh_nilfn  {d : Nat} : shal (d + 1) (.nilfn) = true := by unfold shal; rfl
@[simp] theorem sh_list {l : List V} {c : Bool} {d : Nat} : shal (d + 1) (.list l c) = true := by unfold shal; rfl
@[simp] theorem lf_bool {b : Bool} : leafy (.bool b) = true := by unfold leafy; rfl
@[simp] theorem lf_int {k : IntKind} {n : Int} : leafy (.int k n) = true := by unfold leafy; rfl
@[simp] theorem lf_str {s : ByteArray} : leafy (.str s) = true := by unfold leafy; rfl
@[simp] theorem lf_float {k : FloatKind} {n : Nat} : leafy (.float k n) = true := by unfold leafy; rfl
@[simp] theorem lf_list {l : List V} {c : Bool} : leafy (.list l c) = true := by unfold leafy; rfl
theorem length_fm {α β : Type} {n : Nat} {c : α → List β} (hc : ∀ x, (c x).length = n) (l : List α) : (l.flatMap c).length = l.length * n := by
  induction l with
  | nil => simp
  | cons a l ih => rw [List.flatMap_cons, List.length_append, hc, ih, List.length_cons, Nat.succ_mul]; omega
@[simp] theorem wOb_zero_live {l : List V} {H : List Ob} {L F : List V → Prop} : wOb (.live l :: H) 0 L F = L l := by simp [wOb]
@[simp] theorem wOb_zero_fixed {l : List V} {H : List Ob} {L F : List V → Prop} : wOb (.fixed l :: H) 0 L F = F l := by simp [wOb]
@[simp] theorem wOb_succ {o : Ob} {H : List Ob} {n : Nat} {L F : List V → Prop} : wOb (o :: H) (n + 1) L F = wOb H n L F := by simp [wOb]
@[simp] theorem wOb_end {H : List Ob} {l : List V} {L F : List V → Prop} : wOb (H ++ [.live l]) H.length L F = L l := by simp [wOb]
@[simp] theorem wOb_next {H : List Ob} {o : Ob} {l : List V} {L F : List V → Prop} : wOb (H ++ [o, .live l]) (H.length + 1) L F = L l := by simp [wOb]
theorem wOb_at {H : List Ob} {i : Nat} {l : List V} {L F : List V → Prop} (h : H[i]? = some (.live l)) : wOb H i L F = L l := by simp [wOb, h]
theorem wOb_app {H G : List Ob} {i : Nat} {l : List V} {L F : List V → Prop} (h : H[i]? = some (.live l)) : wOb (H ++ G) i L F = L l := by
  have hi := (List.getElem?_eq_some_iff.1 h).1
  simp [wOb, List.getElem?_append_left hi, h]
@[simp] theorem wSetOb_eq {H : List Ob} {id : Nat} {o : Ob} {K : List Ob → Prop} : wSetOb H id o K = K (H.set id o) := (rfl)
@[simp] theorem wChunk_one {len : Nat} {l : List V} {K : List V → Prop} : wChunk 1 len l K = (l.all leafy = true ∧ wVal (l.take len) K) := by simp [wChunk, chunk, wVal]
/-- Elements, each an aggregate of n cells. -/
theorem wChunk_fm {α : Type} {n : Nat} (hn : n ≠ 1) {f : α → V} {c : α → List V} (hc : ∀ x, (c x).length = n) (hf : ∀ x, f x = .agg (c x)) {l : List α} {m : Nat} (hm : m = l.length) {K : List V → Prop} :
    wChunk n m (l.flatMap c) K = K (l.map f) := by
  unfold wChunk
  rw [chunk_fm hn hc hf l m hm]
  simp [hn]
end Fz
