/- What an operation needs, and what comes of it, as a proposition. -/
import Derived.Test.YtpojglkaohhbkaaFzX
import Derived.Test.YtpojglkaohhbkaaFzS
namespace Fz
open Go

def wInt (v : V) (K : IntKind → Int → Prop) : Prop := match v with
  | .int k n => K k n
  | _ => False
def wBool (v : V) (P N : Prop) : Prop := match v with
  | .bool b => if b = true then P else N
  | _ => False
def wNat (o : Option V) (d : Nat) (K : Nat → Prop) : Prop := match o with
  | none => K d
  | some v => wInt v fun _ i => 0 ≤ i ∧ K i.toNat

def wPeek (H : List Ob) (n : Nat) (v : V) (K : List V → Prop) : Prop := match v with
  | .ref l => n ≤ l.length ∧ K (l.take n)
  | .ptr id off => ∃ l, (H[id]? = some (.live l) ∨ H[id]? = some (.fixed l)) ∧ off + n ≤ l.length ∧ K ((l.drop off).take n)
  | _ => False

theorem wPeek_ok {H : List Ob} {n : Nat} {v : V} {K : List V → Prop} (h : wPeek H n v K) : ∃ l, peek H n v = some l ∧ K l := by
  unfold wPeek at h
  split at h
  · exact ⟨_, by simp only [peek, if_pos h.1], h.2⟩
  · obtain ⟨l, h1, h2, h3⟩ := h
    rcases h1 with h1 | h1
    · exact ⟨_, by simp only [peek, h1, if_pos h2], h3⟩
    · exact ⟨_, by simp only [peek, h1, if_pos h2], h3⟩
  · cases h

def wElems (H : List Ob) (n : Nat) (v : V) (K : List V → Nat → Prop) : Prop := match v with
  | .list l _ => uni n l = true ∧ K (flat l) l.length
  | .own id off len m => m = n ∧ wPeek H (len * n) (.ptr id off) fun x => K x len
  | .str s => n = 1 ∧ K (s.data.toList.map fun b => V.int .u8 b.toNat) s.size
  | _ => False

theorem wElems_ok {H : List Ob} {n : Nat} {v : V} {K : List V → Nat → Prop} (h : wElems H n v K) : ∃ x k, elems H n v = some (x, k) ∧ K x k := by
  unfold wElems at h
  split at h
  · exact ⟨_, _, by simp only [elems, if_pos h.1], h.2⟩
  · obtain ⟨rfl, h⟩ := h
    obtain ⟨l, h1, h2⟩ := wPeek_ok h
    exact ⟨_, _, by simp only [elems, if_true, h1, Option.map_some], h2⟩
  · obtain ⟨rfl, h⟩ := h
    exact ⟨_, _, by simp only [elems, if_true], h⟩
  · cases h

def wFill (cells : List V) (K : List V → Prop) : List (Nat × Nat × V) → Prop
  | [] => K cells
  | (off, n, v) :: r => ((cellsOf v).length = n ∧ off + n ≤ cells.length ∧ isAny v = false) ∧ wFill (splice cells off (cellsOf v)) K r

theorem wFill_ok {K : List V → Prop} : ∀ {ps : List (Nat × Nat × V)} {cells : List V}, wFill cells K ps → ∃ l, fillV cells ps = some l ∧ K l
  | [], cells, h => ⟨cells, rfl, h⟩
  | (off, n, v) :: r, cells, h => by
    obtain ⟨l, h1, h2⟩ := wFill_ok h.2
    exact ⟨l, by rw [fillV, if_pos h.1]; exact h1, h2⟩

theorem wNat_ok {o : Option V} {d : Nat} {K : Nat → Prop} (h : wNat o d K) : ∃ n, natV o d = some n ∧ K n := by
  cases o with
  | none => exact ⟨d, rfl, h⟩
  | some v =>
    cases v with
    | int k i => exact ⟨i.toNat, by simp only [natV, if_pos h.1], h.2⟩
    | _ => cases h

def wSlice (H : List Ob) (k : SlK) (x : V) (lo hi mx : Option V) (K : V → Prop) : Prop :=
  (mx.isSome && hi.isNone) = false ∧
  match k, x with
  | .str, .str s => mx.isSome = false ∧ wNat hi s.size fun h => wNat lo 0 fun l => (l ≤ h ∧ h ≤ s.size) ∧ K (.str (s.extract l h))
  | .sl n, .list e c => uni n e = true ∧ wNat mx e.length fun m => wNat hi e.length fun h => wNat lo 0 fun l =>
      (l ≤ h ∧ h ≤ m ∧ m ≤ e.length) ∧ K (.list ((e.drop l).take (h - l)) (if mx.isSome then m == h else c && h == e.length))
  | .sl n, .own id off len n' => wNat mx len fun m => wNat hi len fun h => wNat lo 0 fun l => (n = n' ∧ l ≤ h ∧ h ≤ m ∧ m ≤ len) ∧
      K (if h = l ∧ (l ≠ 0 ∨ mx.isSome = true) then .list [] (mx.isSome && m == h) else .own id (off + l * n) (h - l) n)
  | .arr alen n, .ptr id off => wNat mx alen fun m => wNat hi alen fun h => wNat lo 0 fun l => wPeek H (alen * n) (.ptr id off) fun _ => (l ≤ h ∧ h ≤ m ∧ m ≤ alen) ∧
      K (if h = l then .list [] (m == h) else .own id (off + l * n) (h - l) n)
  | _, _ => False

theorem wSlice_ok {H : List Ob} {k : SlK} {x : V} {lo hi mx : Option V} {K : V → Prop} (h : wSlice H k x lo hi mx K) : ∃ v, sliceV H k x lo hi mx = some v ∧ K v := by
  unfold wSlice at h
  obtain ⟨h0, h⟩ := h
  unfold sliceV
  rw [if_neg (by rw [h0]; exact Bool.false_ne_true)]
  split at h
  · obtain ⟨h1, h⟩ := h
    obtain ⟨a, ha, h⟩ := wNat_ok h
    obtain ⟨b, hb, h⟩ := wNat_ok h
    exact ⟨_, by simp only [h1, ha, hb, if_pos h.1]; rfl, h.2⟩
  · obtain ⟨h1, h⟩ := h
    obtain ⟨m, hm, h⟩ := wNat_ok h
    obtain ⟨a, ha, h⟩ := wNat_ok h
    obtain ⟨b, hb, h⟩ := wNat_ok h
    exact ⟨_, by simp only [h1, hm, ha, hb, if_pos h.1]; rfl, h.2⟩
  · obtain ⟨m, hm, h⟩ := wNat_ok h
    obtain ⟨a, ha, h⟩ := wNat_ok h
    obtain ⟨b, hb, h⟩ := wNat_ok h
    exact ⟨_, by simp only [hm, ha, hb, if_pos h.1], h.2⟩
  · obtain ⟨m, hm, h⟩ := wNat_ok h
    obtain ⟨a, ha, h⟩ := wNat_ok h
    obtain ⟨b, hb, h⟩ := wNat_ok h
    obtain ⟨l, hl, h⟩ := wPeek_ok h
    exact ⟨_, by simp only [hm, ha, hb, hl, if_pos h.1], h.2⟩
  · cases h

def wAppend (H : List Ob) (n bytes : Nat) (s : V) (xs : List V) (k : Nat) (Q : V → List Ob → Prop) : Prop := match s with
  | .list l c => if k = 0 then Q s H else (c = true ∧ uni n l = true ∧ xs.length = k * n ∧ capOk (l.length + k) bytes = true) ∧
      Q (.own H.length 0 (l.length + k) n) (H ++ [.live (flat l ++ xs)])
  | .own id off len m => off = 0 ∧ if k = 0 then Q s H else ∃ l, H[id]? = some (.live l) ∧ (m = n ∧ len * n ≤ l.length ∧ xs.all storable = true ∧ capOk (len + k) bytes = true) ∧
      Q (.own H.length 0 (len + k) n) (H.set id .dead ++ [.live (l.take (len * n) ++ xs)])
  | _ => False

theorem wAppend_ok {H : List Ob} {n bytes : Nat} {s : V} {xs : List V} {k : Nat} {Q : V → List Ob → Prop} (h : wAppend H n bytes s xs k Q) :
    ∃ v H', appendV H n bytes s xs k = some (v, H') ∧ Q v H' := by
  unfold wAppend at h
  unfold appendV
  split at h
  · split at h
    · rename_i hk; exact ⟨_, _, by simp only [if_pos hk], h⟩
    · rename_i hk
      obtain ⟨⟨h1, h2, h3, h4⟩, h5⟩ := h
      exact ⟨_, _, by simp only [if_neg hk, h1, h2, h4, h3, beq_self_eq_true, Bool.and_self, if_true], h5⟩
  · obtain ⟨rfl, h⟩ := h
    split at h
    · rename_i hk; exact ⟨_, _, by simp only [if_pos hk], h⟩
    · rename_i hk
      obtain ⟨l, h1, h2, h3⟩ := h
      exact ⟨_, _, by simp only [if_neg hk, h1, if_pos h2], h3⟩
  · cases h

/-- Bytes as a text. -/
def bytesV (l : List V) : ByteArray := ⟨(l.map fun v => match v with | .int _ n => n.toNat.toUInt8 | _ => 0).toArray⟩
def allU8 (l : List V) : Bool := l.all (fun v => match v with | .int .u8 n => decide (0 ≤ n) && decide (n < 256) | _ => false)

def wBin (op : BinOp) (ek : EqK) (x y : V) (K : V → Prop) : Prop := ∃ v, binV op ek x y = some v ∧ K v
def wUn (op : UnOp) (x : V) (K : V → Prop) : Prop := ∃ v, unV op x = some v ∧ K v

def wPur (k : PK) (l : List V) (K : V → Prop) : Prop := ∃ v, purV k l = some v ∧ K v
def wRd (H : List Ob) (k : RK) (l : List V) (K : V → Prop) : Prop := ∃ v, rdV H k l = some v ∧ K v
def wMem (H : List Ob) (k : MK) (l : List V) (Q : V → List Ob → Prop) : Prop := ∃ v H', (memV H k l = some (.val v H') ∨ memV H k l = some (.skip H') ∧ v = uv) ∧ Q v H'

def wOp (ρ : Opd → V) (H : List Ob) (Q : V → List Ob → Prop) : AOp → Prop
  | .mov x => Q (ρ x) H
  | .pick c a b => wBool (ρ c) (Q (ρ a) H) (Q (ρ b) H)
  | .alloc zero => Q (.ptr H.length 0) (H ++ [.live zero])
  | .box x => isAny (ρ x) = false ∧ Q (.ptr H.length 0) (H ++ [.live (cellsOf (ρ x))])
  | .build zero parts => wFill zero (fun l => Q (.agg l) H) (parts.map fun p => (p.1, p.2.1, ρ p.2.2))
  | .buildSlice n len zero parts => wFill (zeros zero len) (fun cells => if len = 0 then Q (.list [] true) H else Q (.own H.length 0 len n) (H ++ [.live cells]))
      (parts.map fun p => (p.1, p.2.1, ρ p.2.2))
  | .load agg n x => wPeek H n (ρ x) fun l => if agg = true then Q (.agg l) H else ∃ v, l = [v] ∧ Q v H
  | .store n a x => match ρ a with
    | .ptr id off => ∃ l, H[id]? = some (.live l) ∧ ((cellsOf (ρ x)).length = n ∧ off + n ≤ l.length ∧ (cellsOf (ρ x)).all storable = true) ∧
        Q uv (H.set id (.live (splice l off (cellsOf (ρ x)))))
    | _ => False
  | .nilCheck x => match ρ x with
    | .ptr i o => Q (.ptr i o) H
    | .ref l => Q (.ref l) H
    | .fn (.func f) a b => Q (.fn (.func f) a b) H
    | _ => False
  | .bin op k x y => wBin op k (ρ x) (ρ y) fun v => Q v H
  | .un op x => wUn op (ρ x) fun v => Q v H
  | .conv (.int k) x => wInt (ρ x) fun _ n => Q (.int k (k.wrap n)) H
  | .conv .s2s x => match ρ x with
    | .str s => Q (.str s) H
    | _ => False
  | .conv .b2s x => match ρ x with
    | .list l c => wElems H 1 (.list l c) fun p _ => allU8 p = true ∧ Q (.str (bytesV p)) H
    | .own a b c d => wElems H 1 (.own a b c d) fun p _ => allU8 p = true ∧ Q (.str (bytesV p)) H
    | _ => False
  | .conv _ _ => False
  | .makeIface t x => isAny (ρ x) = false ∧ Q (.iface t (ρ x)) H
  | .makeFunc f first captured => Q (.fn f (first.map ρ) (captured.map ρ)) H
  | .makeSlice n bytes zero len cap => wInt (ρ len) fun _ l => wInt (ρ cap) fun _ c =>
      (0 ≤ l ∧ l ≤ c ∧ c * bytes ≤ 2 ^ 47 ∧ c ≤ 2 ^ 47 ∧ (zero.length = n ∧ n ≠ 0)) ∧
      if c = 0 then Q (.list [] true) H else Q (.own H.length 0 l.toNat n) (H ++ [.live (zeros zero c.toNat)])
  | .slice k x lo hi mx => wSlice H k (ρ x) (lo.map ρ) (hi.map ρ) (mx.map ρ) fun v => Q v H
  | .fieldAddr off x => match ρ x with
    | .ptr id o => Q (.ptr id (o + off)) H
    | .ref l => off ≤ l.length ∧ Q (.ref (l.drop off)) H
    | _ => False
  | .field agg off n x => match ρ x with
    | .agg l => off + n ≤ l.length ∧ if agg = true then Q (.agg ((l.drop off).take n)) H else ∃ v, l[off]? = some v ∧ Q v H
    | _ => False
  | .indexSl n x i => wInt (ρ i) fun _ j => 0 ≤ j ∧ match ρ x with
      | .list l _ => ∃ v, l[j.toNat]? = some v ∧ (cellsOf v).length = n ∧ Q (.ref (cellsOf v)) H
      | .own id off len m => (j < len ∧ m = n) ∧ Q (.ptr id (off + j.toNat * n)) H
      | _ => False
  | .indexPA alen n x i => wInt (ρ i) fun _ j => 0 ≤ j ∧ match ρ x with
      | .ptr id off => j < alen ∧ Q (.ptr id (off + j.toNat * n)) H
      | .ref l => (j < alen ∧ j.toNat * n ≤ l.length) ∧ Q (.ref (l.drop (j.toNat * n))) H
      | _ => False
  | .indexArr alen n agg x i => wInt (ρ i) fun _ j => match ρ x with
      | .agg l => (0 ≤ j ∧ j < alen ∧ j.toNat * n + n ≤ l.length) ∧
          if agg = true then Q (.agg ((l.drop (j.toNat * n)).take n)) H else ∃ v, l[j.toNat * n]? = some v ∧ Q v H
      | _ => False
  | .indexStr x i => wInt (ρ i) fun _ j => 0 ≤ j ∧ match ρ x with
      | .str s => ∃ b, s.data.toList[j.toNat]? = some b ∧ Q (.int .u8 b.toNat) H
      | _ => False
  | .extract i x => match ρ x with
    | .tuple l => ∃ v, l[i]? = some v ∧ Q v H
    | _ => False
  | .lenC n => Q (.int .i64 n) H
  | .lenS x => match ρ x with
    | .str s => Q (.int .i64 s.size) H
    | _ => False
  | .len x => match ρ x with
    | .list l _ => Q (.int .i64 l.length) H
    | .own _ _ len _ => Q (.int .i64 len) H
    | _ => False
  | .cap x => match ρ x with
    | .list l c => c = true ∧ Q (.int .i64 l.length) H
    | _ => False
  | .append n bytes zs s x => match zs with
    | none => wElems H n (ρ x) fun xs k => wAppend H n bytes (ρ s) xs k Q
    | some zero => wInt (ρ x) fun _ l => (0 ≤ l ∧ l ≤ 2 ^ 47 ∧ l * bytes ≤ 2 ^ 47 ∧ zero.length = n) ∧ wAppend H n bytes (ρ s) (zeros zero l.toNat) l.toNat Q
  | .copy n d s => wElems H n (ρ s) fun xs k => match ρ d with
    | .list l _ => l = [] ∧ Q (.int .i64 0) H
    | .own id off len m => ∃ l, H[id]? = some (.live l) ∧ (m = n ∧ off + len * n ≤ l.length ∧ (xs.take (Nat.min k len * n)).all storable = true) ∧
        Q (.int .i64 (Nat.min k len : Nat)) (H.set id (.live (splice l off (xs.take (Nat.min k len * n)))))
    | _ => False
  | .clear zero n x => match ρ x with
    | .list l _ => l = [] ∧ Q uv H
    | .own id off len m => ∃ l, H[id]? = some (.live l) ∧ (m = n ∧ zero.length = n ∧ off + len * n ≤ l.length ∧ zero.all storable = true) ∧
        Q uv (H.set id (.live (splice l off (zeros zero len))))
    | _ => False
  | .pur k l => wPur k (l.map ρ) fun v => Q v H
  | .rd k l => wRd H k (l.map ρ) fun v => Q v H
  | .mem k l => wMem H k (l.map ρ) Q
  | .max l => ∃ v, maxV (l.map ρ) = some v ∧ Q v H
  | .min l => ∃ v, minV (l.map ρ) = some v ∧ Q v H
  | .panic _ => False
  | .call _ _ => False
  | .callv _ _ => False

theorem wInt_ok {v : V} {K : IntKind → Int → Prop} (h : wInt v K) : ∃ k n, v = .int k n ∧ K k n := by
  cases v with
  | int k n => exact ⟨k, n, rfl, h⟩
  | _ => cases h

theorem wOp_ok {ρ : Opd → V} {H : List Ob} {Q : V → List Ob → Prop} {op : AOp} (h : wOp ρ H Q op) :
    ∃ v H', (evOp ρ H op = some (.val v H') ∨ evOp ρ H op = some (.skip H') ∧ v = uv) ∧ Q v H' := by
  cases op with
  | mov x => exact ⟨_, _, .inl rfl, h⟩
  | pur k l =>
    obtain ⟨v, h1, h2⟩ := h
    exact ⟨_, _, .inl (by simp only [evOp, h1]; rfl), h2⟩
  | rd k l =>
    obtain ⟨v, h1, h2⟩ := h
    exact ⟨_, _, .inl (by simp only [evOp, h1]; rfl), h2⟩
  | mem k l => exact h
  | pick c a b =>
    simp only [wOp] at h
    cases hc : ρ c with
    | bool t =>
      rw [hc] at h
      cases t with
      | true => exact ⟨_, _, .inl (by simp only [evOp, hc]; rfl), h⟩
      | false => exact ⟨_, _, .inl (by simp only [evOp, hc]; rfl), h⟩
    | _ => rw [hc] at h; cases h
  | alloc zero => exact ⟨_, _, .inl rfl, h⟩
  | box x => exact ⟨_, _, .inl (by simp only [evOp, h.1]; rfl), h.2⟩
  | build zero parts =>
    obtain ⟨l, h1, h2⟩ := wFill_ok h
    exact ⟨_, _, .inl (by simp only [evOp, h1]; rfl), h2⟩
  | buildSlice n len zero parts =>
    obtain ⟨l, h1, h2⟩ := wFill_ok h
    by_cases hl : len = 0
    · rw [if_pos hl] at h2; exact ⟨_, _, .inl (by simp only [evOp, h1, if_pos hl]), h2⟩
    · rw [if_neg hl] at h2; exact ⟨_, _, .inl (by simp only [evOp, h1, if_neg hl]), h2⟩
  | load agg n x =>
    simp only [wOp] at h
    obtain ⟨l, h1, h2⟩ := wPeek_ok h
    cases agg with
    | true => exact ⟨_, _, .inl (by simp only [evOp, h1, if_true]), h2⟩
    | false =>
      rw [if_neg Bool.false_ne_true] at h2
      obtain ⟨v, rfl, h2⟩ := h2
      exact ⟨_, _, .inl (by simp only [evOp, h1]; rfl), h2⟩
  | store n a x =>
    simp only [wOp] at h
    split at h
    · rename_i id off ha
      obtain ⟨l, h1, h2, h3⟩ := h
      exact ⟨_, _, .inr ⟨by simp only [evOp, ha, h1, if_pos h2], rfl⟩, h3⟩
    · cases h
  | nilCheck x =>
    simp only [wOp] at h
    split at h
    · rename_i hx; exact ⟨_, _, .inl (by simp only [evOp, hx]), h⟩
    · rename_i hx; exact ⟨_, _, .inl (by simp only [evOp, hx]), h⟩
    · rename_i hx; exact ⟨_, _, .inl (by simp only [evOp, hx]), h⟩
    · cases h
  | bin op k x y =>
    obtain ⟨v, h1, h2⟩ := h
    exact ⟨_, _, .inl (by simp only [evOp, h1]; rfl), h2⟩
  | un op x =>
    obtain ⟨v, h1, h2⟩ := h
    exact ⟨_, _, .inl (by simp only [evOp, h1]; rfl), h2⟩
  | conv k x =>
    cases k with
    | int k =>
      obtain ⟨j, n, h1, h2⟩ := wInt_ok h
      exact ⟨_, _, .inl (by simp only [evOp, h1]), h2⟩
    | s2s =>
      simp only [wOp] at h
      split at h
      · rename_i hx; exact ⟨_, _, .inl (by simp only [evOp, hx]), h⟩
      · cases h
    | b2s =>
      simp only [wOp] at h
      split at h
      · rename_i hx
        obtain ⟨p, k, h1, h2, h3⟩ := wElems_ok h
        exact ⟨_, _, .inl (by simp only [evOp, hx, h1, Option.bind_some]; exact if_pos h2), h3⟩
      · rename_i hx
        obtain ⟨p, k, h1, h2, h3⟩ := wElems_ok h
        exact ⟨_, _, .inl (by simp only [evOp, hx, h1, Option.bind_some]; exact if_pos h2), h3⟩
      · cases h
    | _ => cases h
  | makeIface t x => exact ⟨_, _, .inl (by simp only [evOp, h.1]; rfl), h.2⟩
  | makeFunc f a b => exact ⟨_, _, .inl rfl, h⟩
  | makeSlice n bytes zero len cap =>
    obtain ⟨_, l, h1, h⟩ := wInt_ok h
    obtain ⟨_, c, h2, h3, h⟩ := wInt_ok h
    by_cases hc : c = 0
    · rw [if_pos hc] at h; exact ⟨_, _, .inl (by simp only [evOp, h1, h2, if_pos h3]; exact if_pos hc), h⟩
    · rw [if_neg hc] at h; exact ⟨_, _, .inl (by simp only [evOp, h1, h2, if_pos h3]; exact if_neg hc), h⟩
  | slice k x lo hi mx =>
    simp only [wOp] at h
    obtain ⟨v, h1, h2⟩ := wSlice_ok h
    exact ⟨_, _, .inl (by simp only [evOp, h1]; rfl), h2⟩
  | fieldAddr off x =>
    simp only [wOp] at h
    split at h
    · rename_i hx; exact ⟨_, _, .inl (by simp only [evOp, hx]), h⟩
    · rename_i hx; exact ⟨_, _, .inl (by simp only [evOp, hx, if_pos h.1]), h.2⟩
    · cases h
  | field agg off n x =>
    simp only [wOp] at h
    split at h
    · rename_i l hx
      obtain ⟨h1, h2⟩ := h
      cases agg with
      | true => exact ⟨_, _, .inl (by simp only [evOp, hx, if_pos h1, if_true]), h2⟩
      | false =>
        rw [if_neg Bool.false_ne_true] at h2
        obtain ⟨v, h3, h2⟩ := h2
        exact ⟨_, _, .inl (by simp only [evOp, hx, if_pos h1, h3]; rfl), h2⟩
    · cases h
  | indexSl n x i =>
    obtain ⟨_, j, h1, h2, h⟩ := wInt_ok h
    split at h
    · rename_i hx
      obtain ⟨v, h3, h4, h⟩ := h
      exact ⟨_, _, .inl (by simp only [evOp, h1, if_neg (show ¬ j < 0 from by omega), hx, h3, if_pos h4]), h⟩
    · rename_i hx
      exact ⟨_, _, .inl (by simp only [evOp, h1, if_neg (show ¬ j < 0 from by omega), hx, if_pos h.1]), h.2⟩
    · cases h
  | indexPA alen n x i =>
    obtain ⟨_, j, h1, h2, h⟩ := wInt_ok h
    split at h
    · rename_i hx
      exact ⟨_, _, .inl (by simp only [evOp, h1, if_neg (show ¬ j < 0 from by omega), hx, if_pos h.1]), h.2⟩
    · rename_i hx
      exact ⟨_, _, .inl (by simp only [evOp, h1, if_neg (show ¬ j < 0 from by omega), hx, if_pos h.1]), h.2⟩
    · cases h
  | indexArr alen n agg x i =>
    obtain ⟨_, j, h1, h⟩ := wInt_ok h
    split at h
    · rename_i l hx
      obtain ⟨h2, h3⟩ := h
      cases agg with
      | true => exact ⟨_, _, .inl (by simp only [evOp, h1, hx, if_pos h2, if_true]), h3⟩
      | false =>
        rw [if_neg Bool.false_ne_true] at h3
        obtain ⟨v, h4, h3⟩ := h3
        exact ⟨_, _, .inl (by simp only [evOp, h1, hx, if_pos h2, h4]; rfl), h3⟩
    · cases h
  | indexStr x i =>
    obtain ⟨_, j, h1, h2, h⟩ := wInt_ok h
    split at h
    · rename_i hx
      obtain ⟨v, h3, h⟩ := h
      exact ⟨_, _, .inl (by simp only [evOp, h1, if_neg (show ¬ j < 0 from by omega), hx, h3]), h⟩
    · cases h
  | extract i x =>
    simp only [wOp] at h
    split at h
    · rename_i hx
      obtain ⟨v, h3, h⟩ := h
      exact ⟨_, _, .inl (by simp only [evOp, hx, h3]), h⟩
    · cases h
  | lenC n => exact ⟨_, _, .inl rfl, h⟩
  | lenS x =>
    simp only [wOp] at h
    split at h
    · rename_i hx; exact ⟨_, _, .inl (by simp only [evOp, hx]), h⟩
    · cases h
  | len x =>
    simp only [wOp] at h
    split at h
    · rename_i hx; exact ⟨_, _, .inl (by simp only [evOp, hx]), h⟩
    · rename_i hx; exact ⟨_, _, .inl (by simp only [evOp, hx]), h⟩
    · cases h
  | cap x =>
    simp only [wOp] at h
    split at h
    · rename_i hx; obtain ⟨rfl, h⟩ := h; exact ⟨_, _, .inl (by simp only [evOp, hx]), h⟩
    · cases h
  | append n bytes zs s x =>
    cases zs with
    | none =>
      simp only [wOp] at h
      obtain ⟨xs, k, h1, h⟩ := wElems_ok h
      obtain ⟨v, H', h2, h⟩ := wAppend_ok h
      exact ⟨_, _, .inl (by simp only [evOp, h1, h2]), h⟩
    | some zero =>
      simp only [wOp] at h
      obtain ⟨_, l, h1, h3, h⟩ := wInt_ok h
      obtain ⟨v, H', h2, h⟩ := wAppend_ok h
      exact ⟨_, _, .inl (by simp only [evOp, h1, if_pos h3, h2]), h⟩
  | copy n d s =>
    simp only [wOp] at h
    obtain ⟨xs, k, h1, h⟩ := wElems_ok h
    split at h
    · rename_i hx
      obtain ⟨rfl, h⟩ := h
      exact ⟨_, _, .inl (by simp only [evOp, h1, hx]), h⟩
    · rename_i hx
      obtain ⟨l, h2, h3, h⟩ := h
      exact ⟨_, _, .inl (by simp only [evOp, h1, hx, h2, if_pos h3]), h⟩
    · cases h
  | clear zero n x =>
    simp only [wOp] at h
    split at h
    · rename_i hx
      obtain ⟨rfl, h⟩ := h
      exact ⟨_, _, .inl (by simp only [evOp, hx]), h⟩
    · rename_i hx
      obtain ⟨l, h2, h3, h⟩ := h
      exact ⟨_, _, .inl (by simp only [evOp, hx, h2, if_pos h3]), h⟩
    · cases h
  | max l =>
    obtain ⟨v, h1, h2⟩ := h
    exact ⟨_, _, .inl (by simp only [evOp, h1]; rfl), h2⟩
  | min l =>
    obtain ⟨v, h1, h2⟩ := h
    exact ⟨_, _, .inl (by simp only [evOp, h1]; rfl), h2⟩
  | panic x => cases h
  | call f l => cases h
  | callv f l => cases h
end Fz
