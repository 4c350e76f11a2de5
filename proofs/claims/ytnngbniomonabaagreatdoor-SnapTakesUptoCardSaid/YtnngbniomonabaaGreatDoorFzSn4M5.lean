import Derived.Test.YtnngbniomonabaaGreatDoorFzSn4M4
import Derived.Test.YtnngbniomonabaaGreatDoorRows
import Derived.Test.YtnngbniomonabaaGreatDoorCards
import Derived.Test.YtnngbniomonabaaGreatDoorTie
import Derived.Deep.DeepWitnessRowRef
import Derived.LaidMore
import Derived.Lay
set_option linter.all false
set_option linter.unusedVariables false
set_option linter.unusedSimpArgs false
set_option linter.unnecessarySimpa false
set_option maxRecDepth 100000
namespace Fz.D
open Go
theorem reach_one {H : List Ob} {i : Nat} {l : List V} (hi : H[i]? = some (.live l)) (hl : refsL l = []) : reach H 1000 [i] [] = some [i] := by
  show reach H (998 + 1 + 1) [i] [] = _
  rw [reach]
  rw [if_neg (by simp), hi]
  dsimp only
  rw [show refsOb (.live l) = [] from hl]
  rfl
@[simp] theorem refs_ints {k : IntKind} (l : List Int) : refsL (l.map (V.int k)) = [] := by
  induction l with
  | nil => rfl
  | cons a l ih => rw [List.map_cons, refsL, ih]; rfl
@[simp] theorem ren_ints {g : Nat → Nat} {k : IntKind} (l : List Int) : renL g (l.map (V.int k)) = l.map (V.int k) := by
  induction l with
  | nil => rfl
  | cons a l ih => rw [List.map_cons, renL, ih]; rfl
theorem set_same {α : Type} {H : List α} {i : Nat} {x : α} (h : H[i]? = some x) : H.set i x = H := by
  apply List.ext_getElem?
  intro j
  rw [List.getElem?_set]
  split
  · rename_i e; subst e; rw [h]; simp [(List.getElem?_eq_some_iff.1 h).1]
  · rfl
@[simp] theorem back_z {id n : Nat} : backK [id] n 0 = id := by simp [backK]
@[simp] theorem back_s {id n j : Nat} : backK [id] n (j + 1) = n + j := by simp [backK]
theorem clone_own {H : List Ob} {id off len : Nat} {l : List Int} {Q : CR → List Ob → Prop} (hl : H[id]? = some (.live (l.map (V.int .u8)))) (hb : off + len ≤ l.length) (h0 : len ≠ 0) (hc : len ≤ 1000000)
    (hq : Q (.ret (.own H.length 0 len 1)) (H ++ [.live (((l.drop off).take len).map (V.int .u8))])) : WCall p 49 [.own id off len 1] H Q := by
  have hr : reach H 1000 (refsL [.own id off len 1]) [] = some [id] := reach_one hl (refs_ints l)
  refine WCall_inl (by kernel_rfl) hr ?_
  refine WFun_of w49 rfl rfl k49 ?_
  have e1 : ([id] : List Nat).idxOf id = 0 := by simp
  simp -dsimp [w49, hl, renL, ren, e1, renOb]
  refine ⟨hb, ?_⟩
  rw [if_neg h0]
  refine ⟨⟨by omega, by simp [capOk]; omega⟩, ?_⟩
  have e2 : backK [id] H.length 1 = H.length := by simp [backK]
  have e3 : backH [id] (CR.ret (V.own 1 0 len 1)) [Ob.live (List.map (V.int IntKind.u8) l), Ob.live (List.take len (List.drop off (List.map (V.int IntKind.u8) l)))] H = H ++ [.live (((l.drop off).take len).map (V.int .u8))] := by
    unfold backH
    rw [if_pos (by simp [crV, refs])]
    simp only [List.length_singleton, List.take_succ_cons, List.take_zero, List.drop_succ_cons, List.drop_zero, List.map_cons, List.map_nil, setAll, renOb, ren_ints, set_same hl]
    rw [← List.map_drop, ← List.map_take, ren_ints]
  rw [e3]
  simpa [renR, ren, e2] using hq
end Fz.D
namespace Fz.D
open Go
theorem xor_ones {a : Nat} (h : a < 18446744073709551616) : a ^^^ 18446744073709551615 = 18446744073709551615 - a := by
  have h1 : (BitVec.ofNat 64 a ^^^ BitVec.allOnes 64).toNat = (~~~(BitVec.ofNat 64 a)).toNat := by rw [BitVec.xor_allOnes]
  rw [BitVec.toNat_xor, BitVec.toNat_not, BitVec.toNat_allOnes, BitVec.toNat_ofNat, Nat.mod_eq_of_lt (by omega)] at h1
  have e : (2 : Nat) ^ 64 - 1 = 18446744073709551615 := by decide
  rw [e] at h1
  exact h1
theorem zz_bits {n : Int} (h : i64 n) : IntKind.u64.wrap ((((IntKind.u64.wrap (IntKind.u64.wrap n * 2 ^ min 1 IntKind.u64.bits) % 2 ^ IntKind.u64.bits).toNat ^^^ (IntKind.u64.wrap (n.fdiv (2 ^ min 63 IntKind.i64.bits)) % 2 ^ IntKind.u64.bits).toNat : Nat)) : Int) = zz n := by
  unfold i64 at h
  unfold zz
  have b1 : (2 : Int) ^ min 1 IntKind.u64.bits = 2 := by decide
  have b2 : (2 : Int) ^ IntKind.u64.bits = 18446744073709551616 := by decide
  have b3 : (2 : Int) ^ min 63 IntKind.i64.bits = 9223372036854775808 := by decide
  rw [b1, b2, b3]
  have w : ∀ a : Int, IntKind.u64.wrap a = a % 18446744073709551616 := fun a => rfl
  have f : n.fdiv 9223372036854775808 = n / 9223372036854775808 := Int.fdiv_eq_ediv_of_nonneg _ (by omega)
  simp only [w, f]
  by_cases h0 : 0 ≤ n
  · have e1 : (n % 18446744073709551616 * 2 % 18446744073709551616 % 18446744073709551616).toNat = (2 * n).toNat := by omega
    have e2 : (n / 9223372036854775808 % 18446744073709551616 % 18446744073709551616).toNat = 0 := by omega
    rw [e1, e2, Nat.xor_zero, if_pos h0]; omega
  · have e1 : (n % 18446744073709551616 * 2 % 18446744073709551616 % 18446744073709551616).toNat = (18446744073709551616 + 2 * n).toNat := by omega
    have e2 : (n / 9223372036854775808 % 18446744073709551616 % 18446744073709551616).toNat = 18446744073709551615 := by omega
    rw [e1, e2, xor_ones (by omega), if_neg h0]; omega
theorem or_128 (k : Nat) : IntKind.u8.wrap (((((k : Int) % 128 % 2 ^ IntKind.u8.bits).toNat ||| 128 % 2 ^ IntKind.u8.bits : Nat)) : Int) = (k : Int) % 128 + 128 := by
  have b : (2 : Int) ^ IntKind.u8.bits = 256 := by decide
  have c : 128 % 2 ^ IntKind.u8.bits = 128 := by decide
  rw [b, c]
  have e1 : ((k : Int) % 128 % 256).toNat = k % 128 := by omega
  have e2 : k % 128 ||| 128 = k % 128 + 128 := by
    have := Nat.two_pow_add_eq_or_of_lt (i := 7) (b := k % 128) (by omega) 1
    rw [Nat.or_comm]
    simp at this
    omega
  rw [e1, e2, Fz.w8 (by omega) (by omega)]; omega
theorem num_s {n : Int} (h : i64 n) : Comes p 16 [.int .i64 n] (byV (numB (zz n).toNat)) := by
  obtain ⟨z0, z1⟩ := zz_le h
  refine Comes_of w16 rfl rfl k16 ?_ ?_ ?_ ?_
  · simp
  · simp
  · simp
  · obtain ⟨x, hx⟩ : ∃ x : Nat, zz n = x := ⟨(zz n).toNat, by omega⟩
    have hb := zz_bits h
    rw [hx] at hb z1
    simp -dsimp [w16, wFix_by, isInl, hx, hb]
    have t0 : ((x : Int).tmod 128) = (x : Int) % 128 := Int.tmod_eq_emod_of_nonneg (by omega)
    have t1 : IntKind.u64.wrap ((x : Int) / 128) = (x : Int) / 128 := u64 (by omega) (by omega)
    have t2 : IntKind.u8.wrap ((x : Int) % 128) = (x : Int) % 128 := Fz.w8 (by omega) (by omega)
    refine xL_by (by kernel_rfl) (fun k e H => ∃ (i : Nat) (cs : List Int), e 3 = .int .u64 (k : Nat) ∧ e 4 = .ptr 0 0 ∧ e 5 = .int .i64 (i : Nat) ∧ H = [.live (cs.map (V.int .u8))] ∧ cs.length = 10 ∧ i ≤ 9 ∧ numC k ++ cs.drop i = numB x ∧ k < 128 ^ i ∧ k < 18446744073709551616) (x / 128) ?_ ?_
    · refine ⟨9, [0, 0, 0, 0, 0, 0, 0, 0, 0, ((x % 128 : Nat) : Int)], ?_⟩
      simp -dsimp [t0, t1, t2, numB]
      omega
    · rintro k e H ⟨i, cs, h3, h4, h5, rfl, hcs, hi, hR, hk, hk2⟩
      have u0 : ((k : Int).tmod 128) = (k : Int) % 128 := Int.tmod_eq_emod_of_nonneg (by omega)
      have u1 : IntKind.u64.wrap ((k : Int) / 128) = (k : Int) / 128 := u64 (by omega) (by omega)
      have u3 : IntKind.u8.wrap ((k : Int) % 128) = (k : Int) % 128 := Fz.w8 (by omega) (by omega)
      simp -dsimp [h3, h4, h5, wFix_by, isInl, u0, u1, u3]
      split
      · rename_i hk0
        have hi0 : i ≠ 0 := by
          rintro rfl
          simp at hk; omega
        have e1 : IntKind.i64.wrap ((i : Int) - 1) = ((i - 1 : Nat) : Int) := by rw [Fz.w64 (by omega) (by omega)]; omega
        have u5 := or_128 k
        simp only [e1, u5]
        refine ⟨by omega, by omega, by simp; omega, k / 128, by omega, i - 1, cs.take (i - 1) ++ (((k % 128 : Nat) : Int) + 128) :: cs.drop i, ?_⟩
        have hp : k / 128 < 128 ^ (i - 1) := by
          rw [Nat.div_lt_iff_lt_mul (by omega), ← Nat.pow_succ, show (i - 1).succ = i from by omega]; exact hk
        have hi1 : i - 1 + 1 = i := by omega
        rw [numC_pos (by omega)] at hR
        simp -dsimp [h4, hi1] at hR ⊢
        refine ⟨e1, ?_, by omega, by omega, ?_, hp, by omega⟩
        · rw [e1, u5, Int.toNat_natCast, hi1]
        · rw [List.drop_append_of_le_length (by simp; omega)]
          simp [hR]
      · rename_i hk0
        have hk1 : k = 0 := by omega
        subst hk1
        rw [numC_zero, List.nil_append] at hR
        refine ⟨by omega, by omega, ?_⟩
        rw [if_neg (by omega)]
        refine clone_own (l := cs) (by simp) (by omega) (by omega) (by omega) ?_
        have e5 : (cs.drop i).take (10 - i) = cs.drop i := List.take_of_length_le (by simp; omega)
        have hlen : 10 - i = (numB x).length := by rw [← hR, List.length_drop, hcs]
        rw [e5, hR, hlen]
        simp -dsimp [wFix_by, isInl, byV]
end Fz.D
set_option maxRecDepth 100000
namespace Fz.D
open Go
theorem zeros_one (n : Nat) (z : V) : zeros [z] n = List.replicate n z := by
  induction n with
  | zero => rfl
  | succ n ih => rw [zeros, ih]; rfl
end Fz.D
set_option maxRecDepth 100000
namespace Fz.D
open Go
def tot (ls : List (List Int)) : Nat := (ls.map List.length).sum
def cat (ls : List (List Int)) : List Int := ls.flatten
@[simp] theorem cat_nil : cat [] = [] := rfl
end Fz.D
set_option maxRecDepth 100000
namespace Fz.D
open Go
theorem ac_cases {n b : Nat} {J : List Ob} {v : V} {l : List V} (h : Ac n b J v l) : v = .list [] true ∧ l = [] ∨ ∃ j len, v = .own (b + j) 0 len n ∧ len = l.length := by
  obtain ⟨_, _, h3⟩ := h
  rcases h3 with ⟨h3, h4⟩ | ⟨j, cells, h3, _⟩
  · exact .inl ⟨h4, h3⟩
  · exact .inr ⟨j, _, h3, rfl⟩
end Fz.D
namespace Fz.D
open Go
end Fz.D
namespace Fz.D
open Go
end Fz.D
set_option maxRecDepth 100000
namespace Fz.D
open Go
def encN (n : Int) : List Int := numB (zz n).toNat
def encs (l : List Int) : List Int := cat (l.map encN)
end Fz.D
set_option maxRecDepth 100000
namespace Fz.D
open Go
end Fz.D
namespace Fz.D
open Go
end Fz.D
namespace Fz.D
open Go
end Fz.D
set_option maxRecDepth 100000
namespace Fz.D
open Go
def nmB (s : ByteArray) : List Int := s.data.toList.map fun b => (b.toNat : Int)
def txt (b : List Int) : List Int := encN b.length ++ b
def flg (a b : Bool) : Int := (if a then 1 else 0) + (if b then 2 else 0)
end Fz.D
set_option maxRecDepth 100000
namespace Fz.D
open Go
def encL {α : Type} (f : α → List Int) (l : List α) : List Int := cat (l.map f)
def encSlo (s : Slo) : List Int := encs [s.v, if s.call then 1 else 0]
def encSpo (s : Spo) : List Int := encs [s.addr, s.at_]
def encWor (s : Wor) : List Int := txt (nmB s.name) ++ encs [s.code, flg s.now s.hid]
end Fz.D
set_option maxRecDepth 100000
namespace Fz.D
open Go
def encRun (r : Rn) : List Int := encN r.at_ ++ txt r.b
def encD (d : De) : List Int := encN d.mem.length ++ encL encRun d.mem ++ (encN d.dk ++ encN d.dt.length ++ encs d.dt) ++ (encN d.rk ++ encN d.rt.length ++ encL encSlo d.rt) ++ (encN d.ck ++ encN d.ct.length ++ encs d.ct) ++
  (encN d.wk ++ encN d.wt.length ++ encL encWor d.wt) ++ (encN d.sk ++ encN d.st.length ++ encL encSpo d.st) ++ encs [d.out] ++ encs [d.r0, d.r1, d.r2, d.r3, d.r4, d.r5] ++ encs [flg d.comp d.halt]
structure DeOk (d : De) : Prop where
  mem : ∀ r ∈ d.mem, i64 r.at_ ∧ r.b.length ≤ 10000
  meml : d.mem.length ≤ 1000
  dk : i64 d.dk
  dt : ∀ n ∈ d.dt, i64 n
  dtl : d.dt.length ≤ 1000
  rk : i64 d.rk
  rt : ∀ s ∈ d.rt, i64 s.v
  rtl : d.rt.length ≤ 1000
  ck : i64 d.ck
  ct : ∀ n ∈ d.ct, i64 n
  ctl : d.ct.length ≤ 1000
  wk : i64 d.wk
  wt : ∀ s ∈ d.wt, i64 s.code ∧ (nmB s.name).length ≤ 1000
  wtl : d.wt.length ≤ 1000
  sk : i64 d.sk
  st : ∀ s ∈ d.st, i64 s.addr ∧ i64 s.at_
  stl : d.st.length ≤ 1000
  out : i64 d.out
  regs : ∀ n ∈ [d.r0, d.r1, d.r2, d.r3, d.r4, d.r5], i64 n
end Fz.D
set_option maxRecDepth 100000
namespace Fz.D
open Go
end Fz.D
set_option maxRecDepth 100000
namespace Fz.D
open Go
end Fz.D
set_option maxRecDepth 100000
namespace Fz.D
open Go
def shr {α : Type} (q : α → α → Bool) : List α → List α → Nat
  | a :: x, b :: y => if q a b then shr q x y + 1 else 0
  | _, _ => 0
theorem drop_map {α β : Type} (f : α → β) (l : List α) (n : Nat) : List.drop n (List.map f l) = (l.drop n).map f := List.map_drop.symm
theorem map_tail2 {α β : Type} (f : α → β) (l : List α) (n : Nat) : List.take (l.length - n) (List.map f (List.drop n l)) = (l.drop n).map f := List.take_of_length_le (by simp)
def inQ (a b : Int) : Bool := decide (a = b)
def sloQ (a b : Slo) : Bool := decide (a.v = b.v) && (a.call == b.call)
def worQ (a b : Wor) : Bool := decide (a.name = b.name) && (decide (a.code = b.code) && ((a.now == b.now) && (a.hid == b.hid)))
def spoQ (a b : Spo) : Bool := decide (a.addr = b.addr) && decide (a.at_ = b.at_)
theorem int_beq (a b : Int) : (a == b) = decide (a = b) := rfl
theorem slo_leaves (a b : Slo) : eqLeaves [.int .i64 a.v, .bool a.call] [.int .i64 b.v, .bool b.call] [(0, .int), (1, .bool)] = some (sloQ a b) := by
  unfold sloQ
  simp only [eqLeaves, leafEq, List.getElem?_cons_zero, List.getElem?_cons_succ, if_true, int_beq]
  cases decide (a.v = b.v) <;> cases (a.call == b.call) <;> rfl
theorem wor_leaves (a b : Wor) : eqLeaves [.str a.name, .int .i64 a.code, .bool a.now, .bool a.hid] [.str b.name, .int .i64 b.code, .bool b.now, .bool b.hid] [(0, .str), (1, .int), (2, .bool), (3, .bool)] = some (worQ a b) := by
  unfold worQ
  simp only [eqLeaves, leafEq, List.getElem?_cons_zero, List.getElem?_cons_succ, if_true, int_beq, bytes_beq]
  cases decide (a.name = b.name) <;> cases decide (a.code = b.code) <;> cases (a.now == b.now) <;> cases (a.hid == b.hid) <;> rfl
theorem spo_leaves (a b : Spo) : eqLeaves [.int .i64 a.addr, .int .i64 a.at_] [.int .i64 b.addr, .int .i64 b.at_] [(0, .int), (1, .int)] = some (spoQ a b) := by
  unfold spoQ
  simp only [eqLeaves, leafEq, List.getElem?_cons_zero, List.getElem?_cons_succ, if_true, int_beq]
  cases decide (a.addr = b.addr) <;> cases decide (a.at_ = b.at_) <;> rfl
end Fz.D
set_option maxRecDepth 100000
namespace Fz.D
open Go
def gt (a : List Int) (i : Nat) : Int := a.getD i 0
theorem gt_at {a : List Int} {i : Nat} (h : i < a.length) : a[i] = gt a i := by simp [gt, h]
def rn (a : List Int) (s i : Nat) : Rn := ⟨s, (a.drop s).take (i - s)⟩
def fin (a : List Int) (g : List Rn × Nat) (i : Nat) : List Rn := if g.2 < i then g.1 ++ [rn a g.2 i] else g.1
def G (a b : List Int) : Nat → List Rn × Nat
  | 0 => ([], 0)
  | i + 1 => if gt a i = gt b i then (fin a (G a b i) i, i + 1) else G a b i
def runsF (a b : List Int) : List Rn := fin a (G a b a.length) a.length
theorem acc_len {n b : Nat} {J : List Ob} {v : V} {l : List V} (h : Acc n b J v l) {K : V → Prop} : wSl v (fun l _ => wVal (V.int .i64 l.length) fun v => K v) (fun _ _ n _ => K (.int .i64 n)) = K (.int .i64 l.length) := by
  obtain ⟨_, _, h3⟩ := h
  rcases h3 with ⟨rfl, rfl⟩ | ⟨j, rfl, _⟩ <;> rfl
end Fz.D
set_option maxRecDepth 100000
namespace Fz.D
open Go
def byT (b : List Int) : V := .list (b.map (V.int .u8)) true
def runT (r : Rn) : V := .agg [.int .i64 r.at_, byT r.b]
@[simp] theorem byT.gd (b : List Int) : ground (byT b) = true := by simp [byT]
@[simp] theorem byT.any (b : List Int) : isAny (byT b) = false := rfl
@[simp] theorem byT.st (b : List Int) : storable (byT b) = true := rfl
@[simp] theorem byT.cells (b : List Int) : cellsOf (byT b) = [byT b] := rfl
@[simp] theorem byT.nr (b : List Int) : nrm (byT b) = byV b := by simp [byT, byV]
@[simp] theorem runT.gd (r : Rn) : ground (runT r) = true := by simp [runT]
@[simp] theorem runT.gk (r : Rn) (k : Nat) : gk (k + 2) (runT r) = true := by simp [runT, byT]
@[simp] theorem runT.any (r : Rn) : isAny (runT r) = false := rfl
@[simp] theorem runT.cells (r : Rn) : cellsOf (runT r) = [.int .i64 r.at_, byT r.b] := rfl
@[simp] theorem runT.nr (r : Rn) : nrm (runT r) = runV r := by simp [runT, runV]
@[simp] theorem runT.nrc : nrm ∘ runT = runV := funext fun x => runT.nr x
@[simp] theorem runT.uni (l : List Rn) : uni 2 (l.map runT) = true := uni_map fun _ => rfl
@[simp] theorem runT.flat (l : List Rn) : flat (l.map runT) = l.flatMap fun r => [.int .i64 r.at_, byT r.b] := by rw [flat_map]; rfl
abbrev Lp (i : Nat) : Ob := .loop 200 [5] [.ptr i 0] .ready
end Fz.D
set_option maxRecDepth 100000
namespace Fz.D
open Go
abbrev HR (a b : List Int) (v : V) (rest : List V) (T : List Ob) : List Ob := Lp 3 :: .live [byV a] :: .live [byV b] :: .live (v :: rest) :: T
end Fz.D
set_option maxRecDepth 100000
namespace Fz.D
open Go
def diffD (f t : St) : De := { mem := runsF f.mem t.mem, dk := (shr inQ f.data t.data : Nat), dt := f.data.drop (shr inQ f.data t.data), rk := (shr sloQ f.ret t.ret : Nat), rt := f.ret.drop (shr sloQ f.ret t.ret), ck := (shr inQ f.ctl t.ctl : Nat), ct := f.ctl.drop (shr inQ f.ctl t.ctl), wk := (shr worQ f.words t.words : Nat), wt := f.words.drop (shr worQ f.words t.words), sk := (shr spoQ f.spots t.spots : Nat), st := f.spots.drop (shr spoQ f.spots t.spots), out := (t.out.length : Int) - f.out.length, r0 := f.ip, r1 := f.here, r2 := f.at_, r3 := f.tok, r4 := f.in_, r5 := f.err, comp := f.comp, halt := f.halt }
structure StLen (s : St) : Prop where
  mem : s.mem.length ≤ 100000
  data : s.data.length ≤ 100000
  ret : s.ret.length ≤ 100000
  ctl : s.ctl.length ≤ 100000
  words : s.words.length ≤ 100000
  spots : s.spots.length ≤ 100000
  out : s.out.length ≤ 100000000
end Fz.D
set_option maxRecDepth 100000
namespace Fz.D
open Go
def by8 (b : List Int) : Prop := ∀ x ∈ b, 0 ≤ x ∧ x < 256
def bstr (b : List Int) : ByteArray := bytesV (b.map (V.int .u8))
theorem all8 {b : List Int} (h : by8 b) : allU8 (b.map (V.int .u8)) = true := by
  unfold allU8
  rw [List.all_map, List.all_eq_true]
  intro x hx
  have := h x hx
  simp [this.1, this.2]
def u8f (x : Int) : UInt8 := x.toNat.toUInt8
theorem bstr_eq (b : List Int) : bstr b = ⟨(b.map u8f).toArray⟩ := by
  unfold bstr bytesV
  rw [List.map_map]; rfl
theorem bstr_inj {a b : List Int} (ha : by8 a) (hb : by8 b) (h : bstr a = bstr b) : a = b := by
  rw [bstr_eq, bstr_eq] at h
  have h1 : a.map u8f = b.map u8f := by
    have := congrArg (fun x => x.data.toList) h
    simpa using this
  have key : ∀ (l : List Int), by8 l → (l.map u8f).map (fun u => (u.toNat : Int)) = l := by
    intro l hl
    rw [List.map_map]
    conv => rhs; rw [← List.map_id l]
    refine List.map_congr_left fun x hx => ?_
    have := hl x hx
    have e : (u8f x).toNat = x.toNat := by
      show x.toNat % 256 = _
      omega
    simp only [Function.comp_apply, id_eq, e]
    omega
  rw [← key a ha, ← key b hb, h1]
def fewB (s : St) : Bool := (s.words.take 41).all (fun w => decide (w.name.size ≤ 60)) && (decide (s.mem.length ≤ 600) && (decide (s.data.length ≤ 40) && (decide (s.ret.length ≤ 40) && (decide (s.ctl.length ≤ 200) && (decide (s.words.length ≤ 40) && (decide (s.spots.length ≤ 100) && decide (s.out.length ≤ 200)))))))
theorem all_take {α : Type} {f : α → Bool} {l : List α} {i : Nat} (h : i < l.length) : (l.take (i + 1)).all f = ((l.take i).all f && f l[i]) := by
  rw [List.take_succ_eq_append_getElem h, List.all_append, List.all_cons, List.all_nil, Bool.and_true]
theorem all_false {α : Type} {f : α → Bool} {l : List α} {i n : Nat} (h : i < l.length) (hn : i < n) (hf : f l[i] = false) : (l.take n).all f = false := by
  rw [List.all_eq_false]
  exact ⟨l[i], List.mem_take_iff_getElem.2 ⟨i, by omega, rfl⟩, by simp [hf]⟩
def fewD (d : De) : Bool := (d.mem.take 21).all (fun w => decide (w.b.length ≤ 100)) && ((d.wt.take 21).all (fun w => decide (w.name.size ≤ 60)) && (decide (d.mem.length ≤ 20) && (decide (d.dt.length ≤ 20) && (decide (d.rt.length ≤ 20) && (decide (d.ct.length ≤ 20) && (decide (d.wt.length ≤ 20) && decide (d.st.length ≤ 20)))))))
end Fz.D
set_option maxRecDepth 100000
namespace Fz.D
open Go
theorem by8_app {a b : List Int} (ha : by8 a) (hb : by8 b) : by8 (a ++ b) := fun x hx => by
  rcases List.mem_append.1 hx with h | h
  · exact ha x h
  · exact hb x h
theorem by8_nil : by8 [] := fun x hx => by cases hx
theorem by8_nmB (s : ByteArray) : by8 (nmB s) := fun x hx => by
  obtain ⟨b, _, rfl⟩ := List.mem_map.1 hx
  have := b.toNat_lt
  omega
theorem bstr_fold (b : List Int) : bytesV (b.map (V.int .u8)) = bstr b := rfl
theorem tk_map {α β : Type} (f : α → β) (l : List α) (n : Nat) : List.take n (List.map f l) = (l.take n).map f := List.map_take.symm
def nearB (f t : St) : Bool := decide (f.mem.length = t.mem.length) && (decide (f.out.length ≤ t.out.length) && decide (bstr (t.out.take f.out.length) = bstr f.out))
theorem ints_self {a : List Int} (ha : a.length ≤ 1000000) : Comes p 43 [inV a, inV a] (.bool true) := by
  refine Comes_of w43 rfl rfl k43 ?_ ?_ ?_ ?_
  · simp
  · simp
  · simp
  · simp -dsimp [w43, wFix_by, isInl]
    refine xL_by (by kernel_rfl) (fun k e H => ∃ i : Nat, i ≤ a.length ∧ k = a.length - i ∧ e 0 = inV a ∧ e 1 = inV a ∧ e 5 = .int .i64 i) a.length ?_ ?_
    · refine ⟨0, by omega, rfl, ?_⟩
      simp -dsimp
    · rintro k e H ⟨i, hi, hk, h0, h1, h5⟩
      by_cases c1 : i < a.length
      · have g1 : a[i]?.getD default = a[i] := by simp [c1]
        have w2 : IntKind.i64.wrap ((i : Int) + 1) = ((i + 1 : Nat) : Int) := by rw [Fz.w64 (by omega) (by omega)]; omega
        have z : inQ a[i] a[i] = true := by simp [inQ]
        simp -dsimp [h0, h1, h5, wFix_by, isInl, inV, c1, g1, wOpt, w2, z]
        refine ⟨a.length - (i + 1), by omega, i + 1, by omega, rfl, ?_⟩
        simp -dsimp [h0, h1, inV]
      · simp -dsimp [h0, h1, h5, wFix_by, isInl, c1]
theorem slots_self {a : List Slo} (ha : a.length ≤ 1000000) : Comes p 44 [slosV a, slosV a] (.bool true) := by
  refine Comes_of w44 rfl rfl k44 ?_ ?_ ?_ ?_
  · simp
  · simp
  · simp
  · simp -dsimp [w44, wFix_by, isInl]
    refine xL_by (by kernel_rfl) (fun k e H => ∃ i : Nat, i ≤ a.length ∧ k = a.length - i ∧ e 0 = slosV a ∧ e 1 = slosV a ∧ e 5 = .int .i64 i) a.length ?_ ?_
    · refine ⟨0, by omega, rfl, ?_⟩
      simp -dsimp
    · rintro k e H ⟨i, hi, hk, h0, h1, h5⟩
      by_cases c1 : i < a.length
      · have g1 : a[i]?.getD default = a[i] := by simp [c1]
        have w2 : IntKind.i64.wrap ((i : Int) + 1) = ((i + 1 : Nat) : Int) := by rw [Fz.w64 (by omega) (by omega)]; omega
        have z : sloQ a[i] a[i] = true := by simp [sloQ]
        simp -dsimp [h0, h1, h5, wFix_by, isInl, slosV, c1, g1, wOpt, w2, slo_leaves, z]
        refine ⟨a.length - (i + 1), by omega, i + 1, by omega, rfl, ?_⟩
        simp -dsimp [h0, h1, slosV]
      · simp -dsimp [h0, h1, h5, wFix_by, isInl, c1]
theorem words_self {a : List Wor} (ha : a.length ≤ 1000000) : Comes p 45 [worsV a, worsV a] (.bool true) := by
  refine Comes_of w45 rfl rfl k45 ?_ ?_ ?_ ?_
  · simp
  · simp
  · simp
  · simp -dsimp [w45, wFix_by, isInl]
    refine xL_by (by kernel_rfl) (fun k e H => ∃ i : Nat, i ≤ a.length ∧ k = a.length - i ∧ e 0 = worsV a ∧ e 1 = worsV a ∧ e 5 = .int .i64 i) a.length ?_ ?_
    · refine ⟨0, by omega, rfl, ?_⟩
      simp -dsimp
    · rintro k e H ⟨i, hi, hk, h0, h1, h5⟩
      by_cases c1 : i < a.length
      · have g1 : a[i]?.getD default = a[i] := by simp [c1]
        have w2 : IntKind.i64.wrap ((i : Int) + 1) = ((i + 1 : Nat) : Int) := by rw [Fz.w64 (by omega) (by omega)]; omega
        have z : worQ a[i] a[i] = true := by simp [worQ]
        simp -dsimp [h0, h1, h5, wFix_by, isInl, worsV, c1, g1, wOpt, w2, wor_leaves, z]
        refine ⟨a.length - (i + 1), by omega, i + 1, by omega, rfl, ?_⟩
        simp -dsimp [h0, h1, worsV]
      · simp -dsimp [h0, h1, h5, wFix_by, isInl, c1]
theorem spots_self {a : List Spo} (ha : a.length ≤ 1000000) : Comes p 46 [sposV a, sposV a] (.bool true) := by
  refine Comes_of w46 rfl rfl k46 ?_ ?_ ?_ ?_
  · simp
  · simp
  · simp
  · simp -dsimp [w46, wFix_by, isInl]
    refine xL_by (by kernel_rfl) (fun k e H => ∃ i : Nat, i ≤ a.length ∧ k = a.length - i ∧ e 0 = sposV a ∧ e 1 = sposV a ∧ e 5 = .int .i64 i) a.length ?_ ?_
    · refine ⟨0, by omega, rfl, ?_⟩
      simp -dsimp
    · rintro k e H ⟨i, hi, hk, h0, h1, h5⟩
      by_cases c1 : i < a.length
      · have g1 : a[i]?.getD default = a[i] := by simp [c1]
        have w2 : IntKind.i64.wrap ((i : Int) + 1) = ((i + 1 : Nat) : Int) := by rw [Fz.w64 (by omega) (by omega)]; omega
        have z : spoQ a[i] a[i] = true := by simp [spoQ]
        simp -dsimp [h0, h1, h5, wFix_by, isInl, sposV, c1, g1, wOpt, w2, spo_leaves, z]
        refine ⟨a.length - (i + 1), by omega, i + 1, by omega, rfl, ?_⟩
        simp -dsimp [h0, h1, sposV]
      · simp -dsimp [h0, h1, h5, wFix_by, isInl, c1]
theorem same_self {s : St} (hs : StLen s) (hm : by8 s.mem) (ho : by8 s.out) : Comes p 11 [stV s, stV s] (.bool true) := by
  have c1 := ints_self (a := s.data) (by have := hs.data; omega)
  have c2 := slots_self (a := s.ret) (by have := hs.ret; omega)
  have c3 := ints_self (a := s.ctl) (by have := hs.ctl; omega)
  have c4 := words_self (a := s.words) (by have := hs.words; omega)
  have c5 := spots_self (a := s.spots) (by have := hs.spots; omega)
  refine Comes_of w11 rfl rfl k11 ?_ ?_ ?_ ?_
  · simp
  · simp
  · simp
  · simp -dsimp [w11, wFix_by, isInl, call_by c1, call_by c2, call_by c3, call_by c4, call_by c5]
    simp -dsimp [byV, all8 hm, all8 ho]
end Fz.D
set_option maxRecDepth 100000
namespace Fz.D
open Go
structure StTy (s : St) : Prop where
  mem : by8 s.mem
  data : ∀ n ∈ s.data, i64 n
  ret : ∀ x ∈ s.ret, i64 x.v
  ctl : ∀ n ∈ s.ctl, i64 n
  words : ∀ x ∈ s.words, i64 x.code
  spots : ∀ x ∈ s.spots, i64 x.addr ∧ i64 x.at_
  out : by8 s.out
  regs : ∀ n ∈ [s.ip, s.here, s.at_, s.tok, s.in_, s.err], i64 n
structure DeTy (d : De) : Prop where
  mem : ∀ r ∈ d.mem, i64 r.at_ ∧ by8 r.b
  dk : i64 d.dk
  dt : ∀ n ∈ d.dt, i64 n
  rk : i64 d.rk
  rt : ∀ s ∈ d.rt, i64 s.v
  ck : i64 d.ck
  ct : ∀ n ∈ d.ct, i64 n
  wk : i64 d.wk
  wt : ∀ s ∈ d.wt, i64 s.code
  sk : i64 d.sk
  st : ∀ s ∈ d.st, i64 s.addr ∧ i64 s.at_
  out : i64 d.out
  regs : ∀ n ∈ [d.r0, d.r1, d.r2, d.r3, d.r4, d.r5], i64 n
def SloT : Ty := .agg [.int .i64, .bool]
def WorT : Ty := .agg [.str, .int .i64, .bool, .bool]
def SpoT : Ty := .agg [.int .i64, .int .i64]
def RnT : Ty := .agg [.int .i64, .sl (.int .u8)]
def StT : Ty := .agg [.sl (.int .u8), .sl (.int .i64), .sl SloT, .sl (.int .i64), .sl WorT, .sl SpoT, .sl (.int .u8), .int .i64, .int .i64, .int .i64, .int .i64, .int .i64, .int .i64, .bool, .bool]
def DeT : Ty := .agg [.sl RnT, .agg [.int .i64, .sl (.int .i64)], .agg [.int .i64, .sl SloT], .agg [.int .i64, .sl (.int .i64)], .agg [.int .i64, .sl WorT], .agg [.int .i64, .sl SpoT], .int .i64,
  .agg [.int .i64, .int .i64, .int .i64, .int .i64, .int .i64, .int .i64], .bool, .bool]
theorem list_of {α : Type} {T : Ty} {f : α → V} {P : α → Prop} (h : ∀ v, HasT T v → ∃ a, v = f a ∧ P a) {v : V} (hv : HasT (.sl T) v) : ∃ l : List α, v = .list (l.map f) false ∧ ∀ a ∈ l, P a := by
  obtain ⟨vs, rfl, hh⟩ := hv
  have : ∃ l : List α, vs = l.map f ∧ ∀ a ∈ l, P a := by
    induction vs with
    | nil => exact ⟨[], rfl, fun a h => by cases h⟩
    | cons v vs ih =>
      obtain ⟨l, rfl, hl⟩ := ih fun x hx => hh x (List.mem_cons_of_mem _ hx)
      obtain ⟨a, rfl, ha⟩ := h v (hh v (List.mem_cons_self ..))
      refine ⟨a :: l, rfl, fun x hx => ?_⟩
      rcases List.mem_cons.1 hx with rfl | hx
      · exact ha
      · exact hl x hx
  obtain ⟨l, rfl, hl⟩ := this
  exact ⟨l, rfl, hl⟩
theorem u8_of {v : V} (h : HasT (.int .u8) v) : ∃ n, v = V.int .u8 n ∧ (0 ≤ n ∧ n < 256) := by
  obtain ⟨n, rfl, h1, h2⟩ := h
  have h1 : 0 ≤ n := h1
  have h2 : n ≤ 255 := h2
  exact ⟨n, rfl, by omega⟩
theorem by_of {v : V} (h : HasT (.sl (.int .u8)) v) : ∃ b, v = byV b ∧ by8 b := list_of (fun _ h => u8_of h) h
end Fz.D
set_option maxRecDepth 100000
namespace Fz.D
open Go Go.Proofs Go.Proofs.YtnngbniomonabaaGreatDoor Go.ChangeShapes Go.WideShapes Go.ChangeAt Go.RowKit
def nr (af : AFun) : Bool := !hasR af.code && match af.dfr with
  | some (pre, _, _, r) => pre.all (fun c => !hasR c) && !hasR r
  | none => true
theorem rOkF_of {q : AP} {af : AFun} (h : nr af = true) : rOkF q af := by
  unfold nr at h
  rw [Bool.and_eq_true, Bool.not_eq_true'] at h
  refine ⟨rOk_of _ h.1, fun x hx => ?_⟩
  obtain ⟨pre, a, b, r⟩ := x
  rw [hx] at h
  simp only [Bool.and_eq_true, List.all_eq_true, Bool.not_eq_true'] at h
  exact ⟨fun c hc => rOk_of _ (h.2.1 c hc), rOk_of _ h.2.2⟩
theorem tab_nr : tab.all (fun x => x.1 == 20 || (x.1 == 18 || (x.1 == 7 || (x.1 == 31 || nr x.2)))) = true := by kernel_rfl
theorem rng_ok (f : FuncId) (af : AFun) (h : p.fn f = some af) : rOkF p af := by
  by_cases hf : f = 20
  · subst hf
    have e : p.fn 20 = some w20.toA := rfl
    rw [e] at h
    cases h
    refine ⟨?_, fun x hx => by cases hx⟩
    simp only [WF.toA, w20, toA, rOk, true_and, and_true]
    exact ⟨bd200, rfl, rfl, rfl, rfl⟩
  have hdeltaDiff := hf
  clear hf
  by_cases hf : f = 18
  · subst hf
    have e : p.fn 18 = some w18.toA := rfl
    rw [e] at h
    cases h
    refine ⟨?_, fun x hx => by cases hx⟩
    simp only [WF.toA, w18, toA, rOk, true_and, and_true]
    exact ⟨bd180, rfl, rfl, rfl, rfl⟩
  have hrlePut := hf
  clear hf
  by_cases hf : f = 7
  · subst hf
    have e : p.fn 7 = some w7.toA := rfl
    rw [e] at h
    cases h
    refine ⟨?_, fun x hx => by cases hx⟩
    simp only [WF.toA, w7, toA, rOk, true_and, and_true]
    exact ⟨bd70, rfl, rfl, rfl, rfl⟩
  have hsnapPut := hf
  clear hf
  by_cases hf : f = 31
  · subst hf
    have e : p.fn 31 = some w31.toA := rfl
    rw [e] at h
    cases h
    refine ⟨?_, fun x hx => by cases hx⟩
    simp only [WF.toA, w31, toA, rOk, true_and, and_true]
    exact ⟨bd310, rfl, rfl, rfl, rfl⟩
  have hsnapmemory := hf
  clear hf
  have := List.all_eq_true.1 tab_nr _ (lk_mem _ _ _ h)
  simp only [Bool.or_eq_true, beq_iff_eq] at this
  rcases this with h1 | h1 | h1 | h1 | h1
  · exact absurd h1 hdeltaDiff
  · exact absurd h1 hrlePut
  · exact absurd h1 hsnapPut
  · exact absurd h1 hsnapmemory
  · exact rOkF_of h1
theorem apOk : APOk Tryz.prog p where
  mixed := by kernel_rfl
  fn f af h := tab_ok _ (lk_mem _ _ _ h)
  prim f g h args H v H' hv K β w cargs _ hI ha := by
    have h : (if f = 123 then some rowP else none) = some g := h
    split at h
    · rename_i e; subst e; cases h
      exact row_ok (t := 22) (e := 5) Tryz.func123 (by kernel_rfl) (by kernel_rfl) (by kernel_rfl) Tryz.underlying22 (fun a => ⟨Tryz.f123.params, by kernel_rfl⟩) args H v H' hv K β w cargs hI ha (by decide)
    · cases h
  rng := rng_ok
  bods := bods_ok
theorem bulkOk : Bulk (fun {_} => Rows.uptoBulk) (fun {_} => Rows.uptoBulkAll) where
  lit b := by simp [Rows.uptoBulk]
  pos d := by
    cases d with
    | lit l => cases l <;> simp [Rows.uptoBulk]
    | _ => simp [Rows.uptoBulk]
  agg l := by simp [Rows.uptoBulk]
  slice l m := by simp [Rows.uptoBulk]
  nil := by simp [Rows.uptoBulkAll]
  cons d l := by simp [Rows.uptoBulkAll]
theorem own : ownKnob Tryz.prog.godebug = none := by kernel_rfl
theorem laidOut : laidOutB Tryz.prog = true := by kernel_rfl
theorem frz_bool {k : Nat} {u u' : V} {b : Bool} {H H' : List Ob} (h : freezeV k u H = some (u', H')) (hn : nrm u' = .bool b) : u = .bool b := by
  cases k with
  | zero => cases h
  | succ k =>
    have hu : ∀ x, nrm x = .bool b → x = .bool b := by
      intro x hx
      cases x <;> first | (rw [nr_bool] at hx; exact hx) | (simp [nrm] at hx)
    have := hu u' hn
    subst this
    cases u with
    | bool c => simp [freezeV] at h; rw [h.1]
    | own a b c d => exfalso; simp only [freezeV] at h; repeat' split at h
                     all_goals first | (cases h; done) | simp at h
    | mref a => exfalso; simp only [freezeV] at h; repeat' split at h
                all_goals first | (cases h; done) | simp at h
    | agg l => simp only [freezeV] at h; obtain ⟨x, _, h⟩ := Option.map_eq_some_iff.1 h; simp at h
    | tuple l => simp only [freezeV] at h; obtain ⟨x, _, h⟩ := Option.map_eq_some_iff.1 h; simp at h
    | _ => simp [freezeV] at h
theorem done {f : FuncId} {args : List V} (h : Comes p f args (.bool true)) (hi : p.inlY f = false) : ∃ n H', acall p n f args [] = some (.ret (.bool true), H') := by
  obtain ⟨_, _, _, n, u, H', h3, h4⟩ := h
  rcases h4 with ⟨h4, rfl⟩ | ⟨_, u', H'', h5, h6⟩
  · rw [hi] at h4; cases h4
  · exact ⟨n, H', by rw [h3, frz_bool h5 h6]⟩
end Fz.D
set_option maxRecDepth 100000
namespace Go.Proofs.YtnngbniomonabaaGreatDoor
open Fz Fz.D Go.ChangeShapes Go.WideShapes Go.ChangeAt Go.RowKit
def seatLaid : List (String × DataW Unit) := [("unicode/utf8.acceptRanges", Rows.laid_unicode_utf8_acceptRanges), ("unicode/utf8.first", Rows.laid_unicode_utf8_first)]
theorem glob_seat {W : World} (_ : laidMetH Tryz.prog seatLaid W) : GlobW W := by intro g l h; cases h
theorem door_met (os : Os) (args : Array Value) : laidMetH Tryz.prog seatLaid ((World.laidAll Tryz.prog os seatLaid).forCall (fun _ _ => 0) ⟨#[], args, []⟩).memory := by
  rw [MakeChecks.laidMetH_plain _ _ _ (by kernel_rfl)]
  exact laidMet_laidAll _ (by kernel_rfl) (by kernel_rfl)
end Go.Proofs.YtnngbniomonabaaGreatDoor
set_option maxRecDepth 100000
namespace Fz.D
open Go
def rcount (c : Int) : List Int → Nat
  | [] => 0
  | x :: r => if x = c then rcount c r + 1 else 0
def rleK : Nat → List Int → List Int
  | 0, _ => []
  | _ + 1, [] => []
  | k + 1, c :: r => encN (rcount c (c :: r) : Nat) ++ c :: rleK k ((c :: r).drop (rcount c (c :: r)))
def rleF (b : List Int) : List Int := rleK b.length b
theorem rleK_nil (k : Nat) : rleK k [] = [] := by cases k <;> rfl
end Fz.D
set_option maxRecDepth 100000
namespace Fz.D
open Go
end Fz.D
set_option maxRecDepth 100000
namespace Fz.D
open Go
theorem mul64_s {n : Nat} (hn : n ≤ 100000) : Comes p 132 [.int .u64 1, .int .u64 n] (.tuple [.int .u64 0, .int .u64 n]) := by
  refine Comes_of w132 rfl rfl k132 ?_ ?_ ?_ ?_
  · simp
  · simp
  · simp
  · simp -dsimp [w132, wFix_by, isInl]
    have f0 : (2 ^ min 32 IntKind.u64.bits : Int) = 4294967296 := rfl
    have f1 : Int.fdiv 1 4294967296 = 0 := rfl
    have f2 : Int.fdiv (n : Int) 4294967296 = 0 := by rw [Int.fdiv_eq_ediv_of_nonneg _ (by omega)]; omega
    have f3 : n % 2 ^ IntKind.u64.bits &&& 4294967295 % 2 ^ IntKind.u64.bits = n := by
      show n % 18446744073709551616 &&& 4294967295 = n
      rw [Nat.mod_eq_of_lt (by omega), show 4294967295 = 2 ^ 32 - 1 from rfl, Nat.and_two_pow_sub_one_eq_mod]
      omega
    have f4 : 1 % 2 ^ IntKind.u64.bits &&& 4294967295 % 2 ^ IntKind.u64.bits = 1 := by decide
    have f5 : IntKind.u64.wrap (n : Int) = n := IntWalk.u64_in n ⟨by omega, by omega⟩
    have f6 : IntKind.u64.wrap 0 = 0 := rfl
    have f7 : IntKind.u64.wrap ((1 : Nat) : Int) = 1 := rfl
    have f8 : Int.fdiv 0 4294967296 = 0 := rfl
    have f9 : (0 % 2 ^ IntKind.u64.bits : Int).toNat = 0 := rfl
    rw [f0, f1, f2, f3, f4, f5, f7]
    simp only [Int.zero_mul, Int.one_mul, Int.mul_zero, f6, f5, f2, Int.zero_add, Int.add_zero, f8, f9, Nat.zero_and, Int.natCast_zero, Int.ofNat_zero, and_self]
theorem mul_s {n : Nat} (hn : n ≤ 100000) : Comes p 122 [.int .u64 1, .int .u64 n] (.tuple [.int .u64 0, .int .u64 n]) := by
  have c := mul64_s hn
  have f5 : IntKind.u64.wrap (n : Int) = n := IntWalk.u64_in n ⟨by omega, by omega⟩
  have f6 : IntKind.u64.wrap 0 = 0 := rfl
  refine Comes_of w122 rfl rfl k122 ?_ ?_ ?_ ?_
  · simp
  · simp
  · simp
  · simp -dsimp [w122, wFix_by, isInl, call_by c, f5, f6]
theorem ren_any (g : Nat → Nat) : ∀ n, renL g (List.replicate n V.any) = List.replicate n V.any
  | 0 => rfl
  | n + 1 => by rw [List.replicate_succ, renL, ren_any g n]; rfl
theorem refs_any : ∀ n, refsL (List.replicate n V.any) = []
  | 0 => rfl
  | n + 1 => by rw [List.replicate_succ, refsL, refs_any n]; rfl
theorem row_call {n : Nat} (hn : n ≤ 100000) {H : List Ob} {Q : CR → List Ob → Prop} (hq : Q (.ret (.own H.length 0 n 1)) (H ++ [.live (List.replicate n .any)])) : xCall p 123 [.int .i64 n] H Q := by
  refine WCall_inl (ids := []) rfl rfl ?_
  have e : acall p 1 123 [.int .i64 n] [] = some (.ret (.own 0 0 n 1), [.live (List.replicate n .any)]) := by
    have h1 : p.prim 123 = some rowP := rfl
    have h2 : rowP [.int .i64 (n : Int)] [] = some (.own 0 0 n 1, [.live (List.replicate n .any)]) := by
      show (if (0 : Int) ≤ n ∧ (n : Int) ≤ 281474976710656 then some (V.own 0 0 (n : Int).toNat 1, ([] : List Ob) ++ [Ob.live (List.replicate (n : Int).toNat V.any)]) else none) = _
      rw [if_pos (by omega)]
      rfl
    simp only [acall, callW, if_neg (show 123 ≠ YF by decide), h1, h2, Option.map_some]
  refine ⟨1, _, _, e, by simp, ?_⟩
  have k0 : backK [] H.length 0 = H.length := by simp [backK]
  simp [backH, setAll, renOb, ren, renR, crV, refs, refsL, k0, ren_any, refs_any]
  exact hq
end Fz.D
set_option maxRecDepth 100000
namespace Fz.D
open Go
theorem rep_s {c : Int} {n : Nat} (h1 : 1 ≤ n) (hn : n ≤ 8192) : Comes p 109 [byV [c], .int .i64 n] (byV (List.replicate n c)) := by
  have m := mul_s (n := n) (by omega)
  have f1 : ¬ (n : Int) = 0 := by omega
  have f2 : ¬ (n : Int) < 0 := by omega
  have f3 : ¬ (9223372036854775807 : Int) < n := by omega
  have f4 : ¬ (8192 : Int) < n := by omega
  have f5 : IntKind.u64.wrap (n : Int) = n := IntWalk.u64_in n ⟨by omega, by omega⟩
  have f6 : IntKind.i64.wrap (n : Int) = n := Fz.w64 (by omega) (by omega)
  have f7 : IntKind.u64.wrap 1 = 1 := rfl
  refine Comes_of w109 rfl rfl k109 ?_ ?_ ?_ ?_
  · simp
  · simp
  · simp
  · simp -dsimp [w109, wFix_by, isInl, byV, f1, f2, f3, f4, f5, f6, f7, call_by m]
    intro _
    refine row_call (n := n) (by omega) ?_
    have f8 : ¬ n = 0 := by omega
    simp -dsimp [f1, f2, f3, f4, f8]
    refine ⟨by intro x hx; have := List.mem_of_mem_take hx; simp at this; subst this; rfl, ?_⟩
    refine xL_by (by kernel_rfl) (fun k e H => ∃ bp : Nat, 1 ≤ bp ∧ bp ≤ n ∧ k = n - bp ∧ e 7 = .int .i64 n ∧ e 8 = .int .i64 n ∧ e 9 = .own 0 0 n 1 ∧ e 10 = .int .i64 bp ∧ H = [.live (List.replicate bp (.int .u8 c) ++ List.replicate (n - bp) .any)]) (n - 1) ?_ ?_
    · refine ⟨1, by omega, by omega, rfl, ?_⟩
      have f9 : Nat.min 1 n = 1 := Nat.min_eq_left h1
      simp -dsimp [f9]
    rintro k e H ⟨bp, b1, b2, hk, h7, h8, h9, h10, rfl⟩
    by_cases c1 : bp < n
    · have c2 : ¬ n < bp := by omega
      have c3 : ¬ n = bp := by omega
      simp -dsimp [h7, h8, h9, h10, c1, c2, c3]
      obtain ⟨q, hq⟩ : ∃ q, q = min (n - bp) bp := ⟨_, rfl⟩
      refine ⟨by omega, n - (bp + q), by omega, bp + q, by omega, by omega, rfl, ?_⟩
      simp -dsimp [h7, h8, h9, h10, c1, c2, c3]
      have hq2 : bp.min (n - bp) = q := by rw [hq]; exact Nat.min_comm _ _
      have hq3 : min bp (n - bp) = q := by rw [hq]; exact Nat.min_comm _ _
      rw [hq2, hq3]
      refine ⟨by rw [Fz.w64 (by omega) (by omega)], ?_⟩
      rw [List.drop_append, List.drop_eq_nil_of_le (by simp), List.nil_append, List.length_replicate, List.drop_replicate, show n - bp - (bp + q - bp) = n - (bp + q) from by omega]
    · have hb : bp = n := by omega
      subst hb
      simp -dsimp [h7, h8, h9, h10, c1, wFix_by, isInl]
end Fz.D
set_option maxRecDepth 100000
namespace Fz.D
open Go
theorem stF (s : St) : V.agg (cellsOf (stV s)) = stV s := rfl
theorem deF (d : De) : V.agg (cellsOf (deV d)) = deV d := rfl
end Fz.D
set_option maxRecDepth 100000
namespace Fz.D
open Go
theorem zeros_gd {z : List V} (h : groundL z = true) : ∀ k, groundL (zeros z k) = true
  | 0 => rfl
  | k + 1 => by
    rw [zeros, groundL_eq, List.all_append, ← groundL_eq, ← groundL_eq, h, zeros_gd h k]; rfl
theorem zeros_len {z : List V} : ∀ k, (zeros z k).length = k * z.length
  | 0 => by simp [zeros]
  | k + 1 => by rw [zeros, List.length_append, zeros_len k, Nat.succ_mul]; omega
def totA {α : Type} (ls : List (List α)) : Nat := (ls.map List.length).sum
theorem totA_take {α : Type} (ls : List (List α)) (i : Nat) : totA (ls.take i) ≤ totA ls := by
  unfold totA
  conv => rhs; rw [← List.take_append_drop i ls]
  rw [List.map_append, List.sum_append]; omega
theorem totA_succ {α : Type} (ls : List (List α)) (i : Nat) (h : i < ls.length) : totA (ls.take (i + 1)) = totA (ls.take i) + ls[i].length := by
  unfold totA
  rw [List.take_succ_eq_append_getElem h, List.map_append, List.sum_append]; simp
def catA {α : Type} (ls : List (List α)) : List α := ls.flatten
@[simp] theorem catA_nil {α : Type} : catA ([] : List (List α)) = [] := rfl
theorem catA_len {α : Type} (ls : List (List α)) : (catA ls).length = totA ls := by
  unfold totA catA; rw [List.length_flatten]
theorem catA_succ {α : Type} (ls : List (List α)) (i : Nat) (h : i < ls.length) : catA (ls.take (i + 1)) = catA (ls.take i) ++ ls[i] := by
  unfold catA
  rw [List.take_succ_eq_append_getElem h, List.flatten_append]; simp
theorem frz_acg (b : Nat) {H : List Ob} {n k : Nat} {v : V} {l : List V} {K : V → List Ob → Prop} (ha : Ac n b (H.drop b) v l) (hg : (flat l).all (gk k) = true)
    (hl : (n = 1 ∧ l.all leafy = true) ∨ (n ≠ 1 ∧ ∀ v ∈ l, ∃ c, v = .agg c)) (hK : ∀ H', H'.take b = H.take b → H'.length = H.length → K (.list (l.map nrm) false) H') : xFrz (k + 1) v H K := by
  obtain ⟨h1, h2, h3⟩ := ha
  rcases h3 with ⟨rfl, rfl⟩ | ⟨j, cells, rfl, h4, h5, h6⟩
  · rw [frz_gk (by rw [gk_list]; rfl)]
    exact hK H rfl rfl
  · rw [List.getElem?_drop] at h4
    rw [frz_own, wOb_at h4]
    refine ⟨⟨by omega, h2⟩, ?_⟩
    rw [wVal_eq, wSetOb_eq]
    have e1 : (cells.drop 0).take (l.length * n) = flat l := by rw [List.drop_zero, h6]
    rw [e1, frzL_gk hg, wVal_eq]
    have e3 : ∀ H', (H.set (b + j) (.fixed cells)) = H' → H'.take b = H.take b ∧ H'.length = H.length := by
      rintro H' rfl
      refine ⟨?_, by simp⟩
      rw [List.take_set_of_le (by omega)]
    obtain ⟨q1, q2⟩ := e3 _ rfl
    generalize H.set (b + j) (.fixed cells) = H' at q1 q2 ⊢
    rcases hl with ⟨rfl, hl⟩ | ⟨hn, hl⟩
    · rw [wChunk_one]
      obtain ⟨f1, _⟩ := flat_leafy hl
      rw [f1]
      refine ⟨by rw [leafy_nrm]; exact hl, ?_⟩
      show K _ _
      rw [List.take_of_length_le (by simp)]
      exact hK _ q1 q2
    · refine ⟨.inl hn, ?_⟩
      have : chunk n l.length ((flat l).map nrm) = l.map nrm := by
        rw [← chunk_nrm]
        unfold chunk
        rw [if_neg hn, chunk_of h1 hn hl]
      rw [this]
      exact hK _ q1 q2
theorem acg_back {b m n : Nat} {g : Nat → Nat} {J : List Ob} {id len : Nat} {l : List V} (hg : ∀ j, g (b + j) = m + j) (hl : groundL (flat l) = true) (h : Ac n b J (.own id 0 len n) l) : Ac n m (J.map (renOb g)) (.own (g id) 0 len n) l := by
  obtain ⟨h1, h2, h3⟩ := h
  refine ⟨h1, h2, ?_⟩
  rcases h3 with ⟨_, h3⟩ | ⟨j, cells, h3, h4, h5, h6⟩
  · cases h3
  · cases h3
    refine .inr ⟨j, renL g cells, by rw [hg], by rw [List.getElem?_map, h4]; rfl, by rw [renL_eq, List.length_map (f := ren g)]; exact h5, ?_⟩
    rw [renL_eq, ← List.map_take, h6, ← renL_eq, groundL_ren g _ hl]
theorem grow_int {n : Int} {H : List Ob} {Q : CR → List Ob → Prop} (h0 : 0 ≤ n) (h1 : n ≤ 10000000) (hq : ∀ v J, Ac 1 H.length J v [] → Q (.ret v) (H ++ J)) : WCall p 124 [.list [] true, .int .i64 n] H Q := by
  have hr : reach H 1000 (refsL [.list [] true, .int .i64 n]) [] = some [] := rfl
  refine WCall_inl (by kernel_rfl) hr ?_
  refine WFun_of w124 rfl rfl k124 ?_
  have e0 : IntKind.i64.wrap n = n := Fz.w64 (by omega) (by omega)
  have z0 : IntKind.i64.wrap 0 = 0 := Fz.w64 (by omega) (by omega)
  have none : Q (renR (backK [] H.length) (CR.ret (V.list [] true))) (backH [] (CR.ret (V.list [] true)) [] H) := by
    have := hq (.list [] true) [] (ac_nil (by decide))
    simpa [renR, ren, renL, backH, crV, refs, refsL, setAll] using this
  by_cases hn : n = 0
  · subst hn
    simp -dsimp [w124, renL, ren]
    have e1 : IntKind.i64.wrap (-IntKind.i64.wrap 0) = 0 := by rw [z0]; exact z0
    rw [e1, if_neg (by omega)]
    exact none
  · have hp : 0 < n := by omega
    have hz : ¬ n < 0 := by omega
    simp -dsimp [w124, renL, ren, e0, hp, hz]
    have e1 : IntKind.i64.wrap (n - IntKind.i64.wrap 0) = n := by rw [z0, Int.sub_zero]; exact e0
    rw [e1, if_pos hp]
    have hl : (zeros [V.int .i64 0] n.toNat).length = n.toNat * 1 := zeros_len _
    first
    | (refine ⟨⟨h0, by omega, by omega⟩, ?_⟩
       rw [if_neg (by omega)]
       refine ⟨⟨hl, by simp [capOk]; omega⟩, ?_⟩)
    | (rw [if_neg (by omega)]
       refine ⟨⟨h0, by omega, by omega⟩, by simp [capOk]; omega, ?_⟩)
    | (refine ⟨⟨h0, by omega, by omega⟩, ?_⟩
       rw [if_neg (by omega)]
       refine ⟨by simp [capOk]; omega, ?_⟩)
    have := hq (.own H.length 0 0 1) [.live (zeros [V.int .i64 0] n.toNat)] ⟨rfl, by decide, .inr ⟨0, _, rfl, rfl, by simp, by simp [flat]⟩⟩
    have e2 : renOb (backK [] H.length) (.live (zeros [V.int .i64 0] n.toNat)) = .live (zeros [V.int .i64 0] n.toNat) := by
      rw [renOb, groundL_ren _ _ (zeros_gd (by simp) _)]
    try rw [show List.replicate n.toNat (V.int .i64 0) = zeros [V.int .i64 0] n.toNat from by simp]
    simp only [renR, ren, renL, backH, crV, refs, refsL, setAll, List.take_zero, List.flatMap_nil, List.append_nil, List.length_nil, List.any_cons, List.map_nil, List.drop_zero, List.map_cons, e2, List.any_nil]
    simpa [backK] using this
theorem concat_own_int {ls : List (List Int)} (ht : totA ls ≤ 10000000) (hl : ls.length ≤ 1000000) {Q : CR → List Ob → Prop} (hq : ∀ v J, Ac 1 1 J v ((catA ls).map (V.int .i64)) → Q (.ret v) (.live (ls.map inV) :: J)) :
    WFun p 110 [.own 0 0 ls.length 1] [.live (ls.map inV)] Q := by
  refine WFun_of w110 rfl rfl k110 ?_
  simp -dsimp [w110]
  refine xL_by (by kernel_rfl) (fun k e H => ∃ i : Nat, i ≤ ls.length ∧ k = ls.length - i ∧ e 0 = .own 0 0 ls.length 1 ∧ e 9 = .own 0 0 ls.length 1 ∧ e 10 = .int .i64 ls.length ∧ e 11 = .int .i64 i ∧ e 3 = .int .i64 (totA (ls.take i)) ∧ H = [.live (ls.map inV)]) ls.length ?_ ?_
  · exact ⟨0, by simp [totA]⟩
  · rintro k e H ⟨i, hi, hk, h0, h9, h10, h11, h3, rfl⟩
    have t1 := totA_take ls i
    simp -dsimp [h0, h9, h10, h11, h3]
    split
    · rename_i hlt
      have t2 := totA_succ ls i hlt
      have t3 := totA_take ls (i + 1)
      have d1 : List.take 1 (List.drop i (ls.map inV)) = [inV ls[i]] := by
        rw [List.drop_eq_getElem_cons (by simpa using hlt)]; simp
      have w1 : IntKind.i64.wrap (((totA (ls.take i) : Nat) : Int) + ((ls[i].length : Nat) : Int)) = ((totA (ls.take (i + 1)) : Nat) : Int) := by rw [Fz.w64 (by omega) (by omega)]; omega
      have w2 : IntKind.i64.wrap ((i : Int) + 1) = ((i + 1 : Nat) : Int) := by rw [Fz.w64 (by omega) (by omega)]; omega
      refine ⟨hlt, by omega, ?_⟩
      rw [d1]
      simp -dsimp [h0, h9, h10, h11, h3, w1, w2]
      refine ⟨ls.length - (i + 1), by omega, i + 1, by omega, rfl, ?_⟩
      simp -dsimp [h0, h9, h10]
    · rename_i hge
      have hii : i = ls.length := by omega
      subst hii
      rw [List.take_length] at h3 ⊢
      refine grow_int (by omega) (by omega) fun v J hac => ?_
      simp -dsimp [h0, h9, h10, h11, h3]
      refine xL_by (by kernel_rfl) (fun k e H => ∃ (i : Nat) (v : V) (J : List Ob), i ≤ ls.length ∧ k = ls.length - i ∧ e 25 = .own 0 0 ls.length 1 ∧ e 26 = .int .i64 ls.length ∧ e 27 = .int .i64 i ∧ e 6 = v ∧ Ac 1 1 J v ((catA (ls.take i)).map (V.int .i64)) ∧ H = .live (ls.map inV) :: J) ls.length ?_ ?_
      · exact ⟨0, v, J, by simp [h0]; exact hac⟩
      · rintro k e H ⟨i, v, J, hi, hk, h25, h26, h27, h6, hac, rfl⟩
        simp -dsimp [h25, h26, h27, h6]
        split
        · rename_i hlt
          have d1 : List.take 1 (List.drop i (ls.map inV)) = [inV ls[i]] := by
            rw [List.drop_eq_getElem_cons (by simpa using hlt)]; simp
          refine ⟨hlt, by omega, ?_⟩
          rw [d1]
          simp -dsimp [h25, h26, h27, h6]
          have t2 := totA_succ ls i hlt
          have t3 := totA_take ls (i + 1)
          have t4 : (catA (ls.take i)).length = totA (ls.take i) := catA_len _
          have e1 := catA_succ ls i hlt
          refine app_ac 1 (m := ls[i].map (V.int .i64)) (l := (catA (ls.take i)).map (V.int .i64)) (by simpa using hac) (by simp) (by simp) (by simp) (by simp) (by simp) (by rw [List.length_map, List.length_map, t4]; simp [capOk]; omega) fun v' J' hac' => ?_
          have w2 : IntKind.i64.wrap ((i : Int) + 1) = ((i + 1 : Nat) : Int) := by rw [Fz.w64 (by omega) (by omega)]; omega
          simp -dsimp [h25, h26, h27, w2]
          refine ⟨ls.length - (i + 1), by omega, i + 1, v', J', by omega, rfl, ?_⟩
          simp -dsimp [h25, h26]
          rw [e1, List.map_append]
          exact hac'
        · rename_i hge
          have hii : i = ls.length := by omega
          subst hii
          rw [List.take_length] at hac
          exact hq _ _ hac
theorem concat_call_int {H : List Ob} {id : Nat} {ls : List (List Int)} (hid : H[id]? = some (.live (ls.map inV))) (ht : totA ls ≤ 10000000) (hl : ls.length ≤ 1000000) {Q : CR → List Ob → Prop}
    (hq : ∀ v J, Ac 1 H.length J v ((catA ls).map (V.int .i64)) → Q (.ret v) (H ++ J)) : WCall p 110 [.own id 0 ls.length 1] H Q := by
  have hgl : groundL (ls.map inV) = true := by simp
  have hr : reach H 1000 (refsL [.own id 0 ls.length 1]) [] = some [id] := reach_one hid (groundL_refs _ hgl)
  refine WCall_inl (by kernel_rfl) hr ?_
  have e1 : renL (fun i => ([id] : List Nat).idxOf i) [.own id 0 ls.length 1] = [.own 0 0 ls.length 1] := by simp [renL, ren]
  have e2 : (([id] : List Nat).map fun i => renOb (fun i => ([id] : List Nat).idxOf i) (H[i]?.getD .dead)) = [.live (ls.map inV)] := by
    simp only [List.map_cons, List.map_nil, hid, Option.getD_some, renOb, groundL_ren _ _ hgl]
  rw [e1, e2]
  refine concat_own_int ht hl fun v J hac => ⟨by simp, ?_⟩
  have e3 : (refsOb (.live (ls.map inV))) = [] := groundL_refs _ hgl
  rcases ac_cases hac with ⟨rfl, h0⟩ | ⟨j, len, rfl, _⟩
  · have e4 : backH [id] (.ret (.list [] true)) (.live (ls.map inV) :: J) H = H := by
      unfold backH
      rw [if_neg (by simp [crV, refs, refsL, e3])]
      simp [setAll, renOb, groundL_ren _ _ hgl, set_same hid]
    rw [e4]
    have := hq (.list [] true) [] ⟨by rw [h0]; rfl, by decide, .inl ⟨h0, rfl⟩⟩
    simpa [renR, ren, renL] using this
  · have hg : ∀ j, backK [id] H.length (1 + j) = H.length + j := fun j => by rw [Nat.add_comm]; exact back_s
    have e4 : backH [id] (.ret (.own (1 + j) 0 len 1)) (.live (ls.map inV) :: J) H = H ++ J.map (renOb (backK [id] H.length)) := by
      unfold backH
      rw [if_pos (by simp [crV, refs])]
      simp [setAll, renOb, groundL_ren _ _ hgl, set_same hid]
    rw [e4]
    have := hq _ _ (acg_back hg (by simp) hac)
    simpa [renR, ren] using this
theorem joined_int {l tail : List Int} {keep : Int} (hl : l.length ≤ 1000000) (ht : tail.length ≤ 1000000) : Comes p 88 [inV l, .int .i64 keep, inV tail]
    (if 0 ≤ keep ∧ keep ≤ l.length then .tuple [inV (l.take keep.toNat ++ tail), .bool true] else .tuple [inV [], .bool false]) := by
  refine Comes_of w88 rfl rfl k88 ?_ ?_ ?_ ?_
  · simp
  · simp
  · split <;> simp
  · by_cases c1 : keep < 0
    · have c3 : ¬ (0 ≤ keep ∧ keep ≤ l.length) := by omega
      simp -dsimp [w88, wFix_by, isInl, c1, c3]
      try simp [inV]
    · by_cases c2 : keep ≤ l.length
      · have c3 : 0 ≤ keep ∧ keep ≤ l.length := by omega
        have c4 : ¬ (l.length : Int) < keep := by omega
        simp -dsimp [-List.map_take, tk_map, w88, wFix_by, isInl, c1, c3, c4]
        try refine ⟨by omega, ?_⟩
        refine concat_call_int (ls := [l.take keep.toNat, tail]) rfl (by simp [totA]; omega) (by simp) fun v J hac => ?_
        have hac : Ac 1 1 J v ((l.take keep.toNat ++ tail).map (V.int .i64)) := by
          have e : catA [l.take keep.toNat, tail] = l.take keep.toNat ++ tail := by simp [catA]
          rw [e] at hac; exact hac
        generalize l.take keep.toNat ++ tail = m at hac ⊢
        simp -dsimp [wFix_by, isInl]
        refine frz_acg 1 (k := 10) hac (by simp) (.inl ⟨rfl, by simp⟩) fun H' _ _ => ?_
        simp -dsimp [inV]
      · have c3 : ¬ (0 ≤ keep ∧ keep ≤ l.length) := by omega
        have c4 : (l.length : Int) < keep := by omega
        simp -dsimp [w88, wFix_by, isInl, c1, c3, c4]
        try simp [inV]
theorem grow_slo {n : Int} {H : List Ob} {Q : CR → List Ob → Prop} (h0 : 0 ≤ n) (h1 : n ≤ 10000000) (hq : ∀ v J, Ac 2 H.length J v [] → Q (.ret v) (H ++ J)) : WCall p 125 [.list [] true, .int .i64 n] H Q := by
  have hr : reach H 1000 (refsL [.list [] true, .int .i64 n]) [] = some [] := rfl
  refine WCall_inl (by kernel_rfl) hr ?_
  refine WFun_of w125 rfl rfl k125 ?_
  have e0 : IntKind.i64.wrap n = n := Fz.w64 (by omega) (by omega)
  have z0 : IntKind.i64.wrap 0 = 0 := Fz.w64 (by omega) (by omega)
  have none : Q (renR (backK [] H.length) (CR.ret (V.list [] true))) (backH [] (CR.ret (V.list [] true)) [] H) := by
    have := hq (.list [] true) [] (ac_nil (by decide))
    simpa [renR, ren, renL, backH, crV, refs, refsL, setAll] using this
  by_cases hn : n = 0
  · subst hn
    simp -dsimp [w125, renL, ren]
    have e1 : IntKind.i64.wrap (-IntKind.i64.wrap 0) = 0 := by rw [z0]; exact z0
    rw [e1, if_neg (by omega)]
    exact none
  · have hp : 0 < n := by omega
    have hz : ¬ n < 0 := by omega
    simp -dsimp [w125, renL, ren, e0, hp, hz]
    have e1 : IntKind.i64.wrap (n - IntKind.i64.wrap 0) = n := by rw [z0, Int.sub_zero]; exact e0
    rw [e1, if_pos hp]
    have hl : (zeros [V.int .i64 0, V.bool false] n.toNat).length = n.toNat * 2 := zeros_len _
    first
    | (refine ⟨⟨h0, by omega, by omega⟩, ?_⟩
       rw [if_neg (by omega)]
       refine ⟨⟨hl, by simp [capOk]; omega⟩, ?_⟩)
    | (rw [if_neg (by omega)]
       refine ⟨⟨h0, by omega, by omega⟩, by simp [capOk]; omega, ?_⟩)
    | (refine ⟨⟨h0, by omega, by omega⟩, ?_⟩
       rw [if_neg (by omega)]
       refine ⟨by simp [capOk]; omega, ?_⟩)
    have := hq (.own H.length 0 0 2) [.live (zeros [V.int .i64 0, V.bool false] n.toNat)] ⟨rfl, by decide, .inr ⟨0, _, rfl, rfl, by simp, by simp [flat]⟩⟩
    have e2 : renOb (backK [] H.length) (.live (zeros [V.int .i64 0, V.bool false] n.toNat)) = .live (zeros [V.int .i64 0, V.bool false] n.toNat) := by
      rw [renOb, groundL_ren _ _ (zeros_gd (by simp) _)]
    try rw [show List.replicate n.toNat (V.int .i64 0) = zeros [V.int .i64 0, V.bool false] n.toNat from by simp]
    simp only [renR, ren, renL, backH, crV, refs, refsL, setAll, List.take_zero, List.flatMap_nil, List.append_nil, List.length_nil, List.any_cons, List.map_nil, List.drop_zero, List.map_cons, e2, List.any_nil]
    simpa [backK] using this
theorem concat_own_slo {ls : List (List Slo)} (ht : totA ls ≤ 10000000) (hl : ls.length ≤ 1000000) {Q : CR → List Ob → Prop} (hq : ∀ v J, Ac 2 1 J v ((catA ls).map sloV) → Q (.ret v) (.live (ls.map slosV) :: J)) :
    WFun p 111 [.own 0 0 ls.length 1] [.live (ls.map slosV)] Q := by
  refine WFun_of w111 rfl rfl k111 ?_
  simp -dsimp [w111]
  refine xL_by (by kernel_rfl) (fun k e H => ∃ i : Nat, i ≤ ls.length ∧ k = ls.length - i ∧ e 0 = .own 0 0 ls.length 1 ∧ e 9 = .own 0 0 ls.length 1 ∧ e 10 = .int .i64 ls.length ∧ e 11 = .int .i64 i ∧ e 3 = .int .i64 (totA (ls.take i)) ∧ H = [.live (ls.map slosV)]) ls.length ?_ ?_
  · exact ⟨0, by simp [totA]⟩
  · rintro k e H ⟨i, hi, hk, h0, h9, h10, h11, h3, rfl⟩
    have t1 := totA_take ls i
    simp -dsimp [h0, h9, h10, h11, h3]
    split
    · rename_i hlt
      have t2 := totA_succ ls i hlt
      have t3 := totA_take ls (i + 1)
      have d1 : List.take 1 (List.drop i (ls.map slosV)) = [slosV ls[i]] := by
        rw [List.drop_eq_getElem_cons (by simpa using hlt)]; simp
      have w1 : IntKind.i64.wrap (((totA (ls.take i) : Nat) : Int) + ((ls[i].length : Nat) : Int)) = ((totA (ls.take (i + 1)) : Nat) : Int) := by rw [Fz.w64 (by omega) (by omega)]; omega
      have w2 : IntKind.i64.wrap ((i : Int) + 1) = ((i + 1 : Nat) : Int) := by rw [Fz.w64 (by omega) (by omega)]; omega
      refine ⟨hlt, by omega, ?_⟩
      rw [d1]
      simp -dsimp [h0, h9, h10, h11, h3, w1, w2]
      refine ⟨ls.length - (i + 1), by omega, i + 1, by omega, rfl, ?_⟩
      simp -dsimp [h0, h9, h10]
    · rename_i hge
      have hii : i = ls.length := by omega
      subst hii
      rw [List.take_length] at h3 ⊢
      refine grow_slo (by omega) (by omega) fun v J hac => ?_
      simp -dsimp [h0, h9, h10, h11, h3]
      refine xL_by (by kernel_rfl) (fun k e H => ∃ (i : Nat) (v : V) (J : List Ob), i ≤ ls.length ∧ k = ls.length - i ∧ e 25 = .own 0 0 ls.length 1 ∧ e 26 = .int .i64 ls.length ∧ e 27 = .int .i64 i ∧ e 6 = v ∧ Ac 2 1 J v ((catA (ls.take i)).map sloV) ∧ H = .live (ls.map slosV) :: J) ls.length ?_ ?_
      · exact ⟨0, v, J, by simp [h0]; exact hac⟩
      · rintro k e H ⟨i, v, J, hi, hk, h25, h26, h27, h6, hac, rfl⟩
        simp -dsimp [h25, h26, h27, h6]
        split
        · rename_i hlt
          have d1 : List.take 1 (List.drop i (ls.map slosV)) = [slosV ls[i]] := by
            rw [List.drop_eq_getElem_cons (by simpa using hlt)]; simp
          refine ⟨hlt, by omega, ?_⟩
          rw [d1]
          simp -dsimp [h25, h26, h27, h6]
          have t2 := totA_succ ls i hlt
          have t3 := totA_take ls (i + 1)
          have t4 : (catA (ls.take i)).length = totA (ls.take i) := catA_len _
          have e1 := catA_succ ls i hlt
          refine app_ac 1 (m := ls[i].map sloV) (l := (catA (ls.take i)).map sloV) (by simpa using hac) (by simp) (by simp) (by simp) (by simp) (by simp) (by rw [List.length_map, List.length_map, t4]; simp [capOk]; omega) fun v' J' hac' => ?_
          have w2 : IntKind.i64.wrap ((i : Int) + 1) = ((i + 1 : Nat) : Int) := by rw [Fz.w64 (by omega) (by omega)]; omega
          simp -dsimp [h25, h26, h27, w2]
          refine ⟨ls.length - (i + 1), by omega, i + 1, v', J', by omega, rfl, ?_⟩
          simp -dsimp [h25, h26]
          rw [e1, List.map_append]
          exact hac'
        · rename_i hge
          have hii : i = ls.length := by omega
          subst hii
          rw [List.take_length] at hac
          exact hq _ _ hac
theorem concat_call_slo {H : List Ob} {id : Nat} {ls : List (List Slo)} (hid : H[id]? = some (.live (ls.map slosV))) (ht : totA ls ≤ 10000000) (hl : ls.length ≤ 1000000) {Q : CR → List Ob → Prop}
    (hq : ∀ v J, Ac 2 H.length J v ((catA ls).map sloV) → Q (.ret v) (H ++ J)) : WCall p 111 [.own id 0 ls.length 1] H Q := by
  have hgl : groundL (ls.map slosV) = true := by simp
  have hr : reach H 1000 (refsL [.own id 0 ls.length 1]) [] = some [id] := reach_one hid (groundL_refs _ hgl)
  refine WCall_inl (by kernel_rfl) hr ?_
  have e1 : renL (fun i => ([id] : List Nat).idxOf i) [.own id 0 ls.length 1] = [.own 0 0 ls.length 1] := by simp [renL, ren]
  have e2 : (([id] : List Nat).map fun i => renOb (fun i => ([id] : List Nat).idxOf i) (H[i]?.getD .dead)) = [.live (ls.map slosV)] := by
    simp only [List.map_cons, List.map_nil, hid, Option.getD_some, renOb, groundL_ren _ _ hgl]
  rw [e1, e2]
  refine concat_own_slo ht hl fun v J hac => ⟨by simp, ?_⟩
  have e3 : (refsOb (.live (ls.map slosV))) = [] := groundL_refs _ hgl
  rcases ac_cases hac with ⟨rfl, h0⟩ | ⟨j, len, rfl, _⟩
  · have e4 : backH [id] (.ret (.list [] true)) (.live (ls.map slosV) :: J) H = H := by
      unfold backH
      rw [if_neg (by simp [crV, refs, refsL, e3])]
      simp [setAll, renOb, groundL_ren _ _ hgl, set_same hid]
    rw [e4]
    have := hq (.list [] true) [] ⟨by rw [h0]; rfl, by decide, .inl ⟨h0, rfl⟩⟩
    simpa [renR, ren, renL] using this
  · have hg : ∀ j, backK [id] H.length (1 + j) = H.length + j := fun j => by rw [Nat.add_comm]; exact back_s
    have e4 : backH [id] (.ret (.own (1 + j) 0 len 2)) (.live (ls.map slosV) :: J) H = H ++ J.map (renOb (backK [id] H.length)) := by
      unfold backH
      rw [if_pos (by simp [crV, refs])]
      simp [setAll, renOb, groundL_ren _ _ hgl, set_same hid]
    rw [e4]
    have := hq _ _ (acg_back hg (by simp) hac)
    simpa [renR, ren] using this
theorem joined_slo {l tail : List Slo} {keep : Int} (hl : l.length ≤ 1000000) (ht : tail.length ≤ 1000000) : Comes p 89 [slosV l, .int .i64 keep, slosV tail]
    (if 0 ≤ keep ∧ keep ≤ l.length then .tuple [slosV (l.take keep.toNat ++ tail), .bool true] else .tuple [slosV [], .bool false]) := by
  refine Comes_of w89 rfl rfl k89 ?_ ?_ ?_ ?_
  · simp
  · simp
  · split <;> simp
  · by_cases c1 : keep < 0
    · have c3 : ¬ (0 ≤ keep ∧ keep ≤ l.length) := by omega
      simp -dsimp [w89, wFix_by, isInl, c1, c3]
      try simp [slosV]
    · by_cases c2 : keep ≤ l.length
      · have c3 : 0 ≤ keep ∧ keep ≤ l.length := by omega
        have c4 : ¬ (l.length : Int) < keep := by omega
        simp -dsimp [-List.map_take, tk_map, w89, wFix_by, isInl, c1, c3, c4]
        try refine ⟨by omega, ?_⟩
        refine concat_call_slo (ls := [l.take keep.toNat, tail]) rfl (by simp [totA]; omega) (by simp) fun v J hac => ?_
        have hac : Ac 2 1 J v ((l.take keep.toNat ++ tail).map sloV) := by
          have e : catA [l.take keep.toNat, tail] = l.take keep.toNat ++ tail := by simp [catA]
          rw [e] at hac; exact hac
        generalize l.take keep.toNat ++ tail = m at hac ⊢
        simp -dsimp [wFix_by, isInl]
        refine frz_acg 1 (k := 10) hac (by simp) (.inr ⟨by decide, by simp; exact fun x _ => ⟨_, rfl⟩⟩) fun H' _ _ => ?_
        simp -dsimp [slosV]
      · have c3 : ¬ (0 ≤ keep ∧ keep ≤ l.length) := by omega
        have c4 : (l.length : Int) < keep := by omega
        simp -dsimp [w89, wFix_by, isInl, c1, c3, c4]
        try simp [slosV]
theorem grow_wor {n : Int} {H : List Ob} {Q : CR → List Ob → Prop} (h0 : 0 ≤ n) (h1 : n ≤ 10000000) (hq : ∀ v J, Ac 4 H.length J v [] → Q (.ret v) (H ++ J)) : WCall p 126 [.list [] true, .int .i64 n] H Q := by
  have hr : reach H 1000 (refsL [.list [] true, .int .i64 n]) [] = some [] := rfl
  refine WCall_inl (by kernel_rfl) hr ?_
  refine WFun_of w126 rfl rfl k126 ?_
  have e0 : IntKind.i64.wrap n = n := Fz.w64 (by omega) (by omega)
  have z0 : IntKind.i64.wrap 0 = 0 := Fz.w64 (by omega) (by omega)
  have none : Q (renR (backK [] H.length) (CR.ret (V.list [] true))) (backH [] (CR.ret (V.list [] true)) [] H) := by
    have := hq (.list [] true) [] (ac_nil (by decide))
    simpa [renR, ren, renL, backH, crV, refs, refsL, setAll] using this
  by_cases hn : n = 0
  · subst hn
    simp -dsimp [w126, renL, ren]
    have e1 : IntKind.i64.wrap (-IntKind.i64.wrap 0) = 0 := by rw [z0]; exact z0
    rw [e1, if_neg (by omega)]
    exact none
  · have hp : 0 < n := by omega
    have hz : ¬ n < 0 := by omega
    simp -dsimp [w126, renL, ren, e0, hp, hz]
    have e1 : IntKind.i64.wrap (n - IntKind.i64.wrap 0) = n := by rw [z0, Int.sub_zero]; exact e0
    rw [e1, if_pos hp]
    have hl : (zeros [V.str ⟨#[]⟩, V.int .i64 0, V.bool false, V.bool false] n.toNat).length = n.toNat * 4 := zeros_len _
    first
    | (refine ⟨⟨h0, by omega, by omega⟩, ?_⟩
       rw [if_neg (by omega)]
       refine ⟨⟨hl, by simp [capOk]; omega⟩, ?_⟩)
    | (rw [if_neg (by omega)]
       refine ⟨⟨h0, by omega, by omega⟩, by simp [capOk]; omega, ?_⟩)
    | (refine ⟨⟨h0, by omega, by omega⟩, ?_⟩
       rw [if_neg (by omega)]
       refine ⟨by simp [capOk]; omega, ?_⟩)
    have := hq (.own H.length 0 0 4) [.live (zeros [V.str ⟨#[]⟩, V.int .i64 0, V.bool false, V.bool false] n.toNat)] ⟨rfl, by decide, .inr ⟨0, _, rfl, rfl, by simp, by simp [flat]⟩⟩
    have e2 : renOb (backK [] H.length) (.live (zeros [V.str ⟨#[]⟩, V.int .i64 0, V.bool false, V.bool false] n.toNat)) = .live (zeros [V.str ⟨#[]⟩, V.int .i64 0, V.bool false, V.bool false] n.toNat) := by
      rw [renOb, groundL_ren _ _ (zeros_gd (by simp) _)]
    try rw [show List.replicate n.toNat (V.int .i64 0) = zeros [V.str ⟨#[]⟩, V.int .i64 0, V.bool false, V.bool false] n.toNat from by simp]
    simp only [renR, ren, renL, backH, crV, refs, refsL, setAll, List.take_zero, List.flatMap_nil, List.append_nil, List.length_nil, List.any_cons, List.map_nil, List.drop_zero, List.map_cons, e2, List.any_nil]
    simpa [backK] using this
theorem concat_own_wor {ls : List (List Wor)} (ht : totA ls ≤ 10000000) (hl : ls.length ≤ 1000000) {Q : CR → List Ob → Prop} (hq : ∀ v J, Ac 4 1 J v ((catA ls).map worV) → Q (.ret v) (.live (ls.map worsV) :: J)) :
    WFun p 112 [.own 0 0 ls.length 1] [.live (ls.map worsV)] Q := by
  refine WFun_of w112 rfl rfl k112 ?_
  simp -dsimp [w112]
  refine xL_by (by kernel_rfl) (fun k e H => ∃ i : Nat, i ≤ ls.length ∧ k = ls.length - i ∧ e 0 = .own 0 0 ls.length 1 ∧ e 9 = .own 0 0 ls.length 1 ∧ e 10 = .int .i64 ls.length ∧ e 11 = .int .i64 i ∧ e 3 = .int .i64 (totA (ls.take i)) ∧ H = [.live (ls.map worsV)]) ls.length ?_ ?_
  · exact ⟨0, by simp [totA]⟩
  · rintro k e H ⟨i, hi, hk, h0, h9, h10, h11, h3, rfl⟩
    have t1 := totA_take ls i
    simp -dsimp [h0, h9, h10, h11, h3]
    split
    · rename_i hlt
      have t2 := totA_succ ls i hlt
      have t3 := totA_take ls (i + 1)
      have d1 : List.take 1 (List.drop i (ls.map worsV)) = [worsV ls[i]] := by
        rw [List.drop_eq_getElem_cons (by simpa using hlt)]; simp
      have w1 : IntKind.i64.wrap (((totA (ls.take i) : Nat) : Int) + ((ls[i].length : Nat) : Int)) = ((totA (ls.take (i + 1)) : Nat) : Int) := by rw [Fz.w64 (by omega) (by omega)]; omega
      have w2 : IntKind.i64.wrap ((i : Int) + 1) = ((i + 1 : Nat) : Int) := by rw [Fz.w64 (by omega) (by omega)]; omega
      refine ⟨hlt, by omega, ?_⟩
      rw [d1]
      simp -dsimp [h0, h9, h10, h11, h3, w1, w2]
      refine ⟨ls.length - (i + 1), by omega, i + 1, by omega, rfl, ?_⟩
      simp -dsimp [h0, h9, h10]
    · rename_i hge
      have hii : i = ls.length := by omega
      subst hii
      rw [List.take_length] at h3 ⊢
      refine grow_wor (by omega) (by omega) fun v J hac => ?_
      simp -dsimp [h0, h9, h10, h11, h3]
      refine xL_by (by kernel_rfl) (fun k e H => ∃ (i : Nat) (v : V) (J : List Ob), i ≤ ls.length ∧ k = ls.length - i ∧ e 25 = .own 0 0 ls.length 1 ∧ e 26 = .int .i64 ls.length ∧ e 27 = .int .i64 i ∧ e 6 = v ∧ Ac 4 1 J v ((catA (ls.take i)).map worV) ∧ H = .live (ls.map worsV) :: J) ls.length ?_ ?_
      · exact ⟨0, v, J, by simp [h0]; exact hac⟩
      · rintro k e H ⟨i, v, J, hi, hk, h25, h26, h27, h6, hac, rfl⟩
        simp -dsimp [h25, h26, h27, h6]
        split
        · rename_i hlt
          have d1 : List.take 1 (List.drop i (ls.map worsV)) = [worsV ls[i]] := by
            rw [List.drop_eq_getElem_cons (by simpa using hlt)]; simp
          refine ⟨hlt, by omega, ?_⟩
          rw [d1]
          simp -dsimp [h25, h26, h27, h6]
          have t2 := totA_succ ls i hlt
          have t3 := totA_take ls (i + 1)
          have t4 : (catA (ls.take i)).length = totA (ls.take i) := catA_len _
          have e1 := catA_succ ls i hlt
          refine app_ac 1 (m := ls[i].map worV) (l := (catA (ls.take i)).map worV) (by simpa using hac) (by simp) (by simp) (by simp) (by simp) (by simp) (by rw [List.length_map, List.length_map, t4]; simp [capOk]; omega) fun v' J' hac' => ?_
          have w2 : IntKind.i64.wrap ((i : Int) + 1) = ((i + 1 : Nat) : Int) := by rw [Fz.w64 (by omega) (by omega)]; omega
          simp -dsimp [h25, h26, h27, w2]
          refine ⟨ls.length - (i + 1), by omega, i + 1, v', J', by omega, rfl, ?_⟩
          simp -dsimp [h25, h26]
          rw [e1, List.map_append]
          exact hac'
        · rename_i hge
          have hii : i = ls.length := by omega
          subst hii
          rw [List.take_length] at hac
          exact hq _ _ hac
theorem concat_call_wor {H : List Ob} {id : Nat} {ls : List (List Wor)} (hid : H[id]? = some (.live (ls.map worsV))) (ht : totA ls ≤ 10000000) (hl : ls.length ≤ 1000000) {Q : CR → List Ob → Prop}
    (hq : ∀ v J, Ac 4 H.length J v ((catA ls).map worV) → Q (.ret v) (H ++ J)) : WCall p 112 [.own id 0 ls.length 1] H Q := by
  have hgl : groundL (ls.map worsV) = true := by simp
  have hr : reach H 1000 (refsL [.own id 0 ls.length 1]) [] = some [id] := reach_one hid (groundL_refs _ hgl)
  refine WCall_inl (by kernel_rfl) hr ?_
  have e1 : renL (fun i => ([id] : List Nat).idxOf i) [.own id 0 ls.length 1] = [.own 0 0 ls.length 1] := by simp [renL, ren]
  have e2 : (([id] : List Nat).map fun i => renOb (fun i => ([id] : List Nat).idxOf i) (H[i]?.getD .dead)) = [.live (ls.map worsV)] := by
    simp only [List.map_cons, List.map_nil, hid, Option.getD_some, renOb, groundL_ren _ _ hgl]
  rw [e1, e2]
  refine concat_own_wor ht hl fun v J hac => ⟨by simp, ?_⟩
  have e3 : (refsOb (.live (ls.map worsV))) = [] := groundL_refs _ hgl
  rcases ac_cases hac with ⟨rfl, h0⟩ | ⟨j, len, rfl, _⟩
  · have e4 : backH [id] (.ret (.list [] true)) (.live (ls.map worsV) :: J) H = H := by
      unfold backH
      rw [if_neg (by simp [crV, refs, refsL, e3])]
      simp [setAll, renOb, groundL_ren _ _ hgl, set_same hid]
    rw [e4]
    have := hq (.list [] true) [] ⟨by rw [h0]; rfl, by decide, .inl ⟨h0, rfl⟩⟩
    simpa [renR, ren, renL] using this
  · have hg : ∀ j, backK [id] H.length (1 + j) = H.length + j := fun j => by rw [Nat.add_comm]; exact back_s
    have e4 : backH [id] (.ret (.own (1 + j) 0 len 4)) (.live (ls.map worsV) :: J) H = H ++ J.map (renOb (backK [id] H.length)) := by
      unfold backH
      rw [if_pos (by simp [crV, refs])]
      simp [setAll, renOb, groundL_ren _ _ hgl, set_same hid]
    rw [e4]
    have := hq _ _ (acg_back hg (by simp) hac)
    simpa [renR, ren] using this
theorem joined_wor {l tail : List Wor} {keep : Int} (hl : l.length ≤ 1000000) (ht : tail.length ≤ 1000000) : Comes p 90 [worsV l, .int .i64 keep, worsV tail]
    (if 0 ≤ keep ∧ keep ≤ l.length then .tuple [worsV (l.take keep.toNat ++ tail), .bool true] else .tuple [worsV [], .bool false]) := by
  refine Comes_of w90 rfl rfl k90 ?_ ?_ ?_ ?_
  · simp
  · simp
  · split <;> simp
  · by_cases c1 : keep < 0
    · have c3 : ¬ (0 ≤ keep ∧ keep ≤ l.length) := by omega
      simp -dsimp [w90, wFix_by, isInl, c1, c3]
      try simp [worsV]
    · by_cases c2 : keep ≤ l.length
      · have c3 : 0 ≤ keep ∧ keep ≤ l.length := by omega
        have c4 : ¬ (l.length : Int) < keep := by omega
        simp -dsimp [-List.map_take, tk_map, w90, wFix_by, isInl, c1, c3, c4]
        try refine ⟨by omega, ?_⟩
        refine concat_call_wor (ls := [l.take keep.toNat, tail]) rfl (by simp [totA]; omega) (by simp) fun v J hac => ?_
        have hac : Ac 4 1 J v ((l.take keep.toNat ++ tail).map worV) := by
          have e : catA [l.take keep.toNat, tail] = l.take keep.toNat ++ tail := by simp [catA]
          rw [e] at hac; exact hac
        generalize l.take keep.toNat ++ tail = m at hac ⊢
        simp -dsimp [wFix_by, isInl]
        refine frz_acg 1 (k := 10) hac (by simp) (.inr ⟨by decide, by simp; exact fun x _ => ⟨_, rfl⟩⟩) fun H' _ _ => ?_
        simp -dsimp [worsV]
      · have c3 : ¬ (0 ≤ keep ∧ keep ≤ l.length) := by omega
        have c4 : (l.length : Int) < keep := by omega
        simp -dsimp [w90, wFix_by, isInl, c1, c3, c4]
        try simp [worsV]
theorem grow_spo {n : Int} {H : List Ob} {Q : CR → List Ob → Prop} (h0 : 0 ≤ n) (h1 : n ≤ 10000000) (hq : ∀ v J, Ac 2 H.length J v [] → Q (.ret v) (H ++ J)) : WCall p 127 [.list [] true, .int .i64 n] H Q := by
  have hr : reach H 1000 (refsL [.list [] true, .int .i64 n]) [] = some [] := rfl
  refine WCall_inl (by kernel_rfl) hr ?_
  refine WFun_of w127 rfl rfl k127 ?_
  have e0 : IntKind.i64.wrap n = n := Fz.w64 (by omega) (by omega)
  have z0 : IntKind.i64.wrap 0 = 0 := Fz.w64 (by omega) (by omega)
  have none : Q (renR (backK [] H.length) (CR.ret (V.list [] true))) (backH [] (CR.ret (V.list [] true)) [] H) := by
    have := hq (.list [] true) [] (ac_nil (by decide))
    simpa [renR, ren, renL, backH, crV, refs, refsL, setAll] using this
  by_cases hn : n = 0
  · subst hn
    simp -dsimp [w127, renL, ren]
    have e1 : IntKind.i64.wrap (-IntKind.i64.wrap 0) = 0 := by rw [z0]; exact z0
    rw [e1, if_neg (by omega)]
    exact none
  · have hp : 0 < n := by omega
    have hz : ¬ n < 0 := by omega
    simp -dsimp [w127, renL, ren, e0, hp, hz]
    have e1 : IntKind.i64.wrap (n - IntKind.i64.wrap 0) = n := by rw [z0, Int.sub_zero]; exact e0
    rw [e1, if_pos hp]
    have hl : (zeros [V.int .i64 0, V.int .i64 0] n.toNat).length = n.toNat * 2 := zeros_len _
    first
    | (refine ⟨⟨h0, by omega, by omega⟩, ?_⟩
       rw [if_neg (by omega)]
       refine ⟨⟨hl, by simp [capOk]; omega⟩, ?_⟩)
    | (rw [if_neg (by omega)]
       refine ⟨⟨h0, by omega, by omega⟩, by simp [capOk]; omega, ?_⟩)
    | (refine ⟨⟨h0, by omega, by omega⟩, ?_⟩
       rw [if_neg (by omega)]
       refine ⟨by simp [capOk]; omega, ?_⟩)
    have := hq (.own H.length 0 0 2) [.live (zeros [V.int .i64 0, V.int .i64 0] n.toNat)] ⟨rfl, by decide, .inr ⟨0, _, rfl, rfl, by simp, by simp [flat]⟩⟩
    have e2 : renOb (backK [] H.length) (.live (zeros [V.int .i64 0, V.int .i64 0] n.toNat)) = .live (zeros [V.int .i64 0, V.int .i64 0] n.toNat) := by
      rw [renOb, groundL_ren _ _ (zeros_gd (by simp) _)]
    try rw [show List.replicate n.toNat (V.int .i64 0) = zeros [V.int .i64 0, V.int .i64 0] n.toNat from by simp]
    simp only [renR, ren, renL, backH, crV, refs, refsL, setAll, List.take_zero, List.flatMap_nil, List.append_nil, List.length_nil, List.any_cons, List.map_nil, List.drop_zero, List.map_cons, e2, List.any_nil]
    simpa [backK] using this
theorem concat_own_spo {ls : List (List Spo)} (ht : totA ls ≤ 10000000) (hl : ls.length ≤ 1000000) {Q : CR → List Ob → Prop} (hq : ∀ v J, Ac 2 1 J v ((catA ls).map spoV) → Q (.ret v) (.live (ls.map sposV) :: J)) :
    WFun p 113 [.own 0 0 ls.length 1] [.live (ls.map sposV)] Q := by
  refine WFun_of w113 rfl rfl k113 ?_
  simp -dsimp [w113]
  refine xL_by (by kernel_rfl) (fun k e H => ∃ i : Nat, i ≤ ls.length ∧ k = ls.length - i ∧ e 0 = .own 0 0 ls.length 1 ∧ e 9 = .own 0 0 ls.length 1 ∧ e 10 = .int .i64 ls.length ∧ e 11 = .int .i64 i ∧ e 3 = .int .i64 (totA (ls.take i)) ∧ H = [.live (ls.map sposV)]) ls.length ?_ ?_
  · exact ⟨0, by simp [totA]⟩
  · rintro k e H ⟨i, hi, hk, h0, h9, h10, h11, h3, rfl⟩
    have t1 := totA_take ls i
    simp -dsimp [h0, h9, h10, h11, h3]
    split
    · rename_i hlt
      have t2 := totA_succ ls i hlt
      have t3 := totA_take ls (i + 1)
      have d1 : List.take 1 (List.drop i (ls.map sposV)) = [sposV ls[i]] := by
        rw [List.drop_eq_getElem_cons (by simpa using hlt)]; simp
      have w1 : IntKind.i64.wrap (((totA (ls.take i) : Nat) : Int) + ((ls[i].length : Nat) : Int)) = ((totA (ls.take (i + 1)) : Nat) : Int) := by rw [Fz.w64 (by omega) (by omega)]; omega
      have w2 : IntKind.i64.wrap ((i : Int) + 1) = ((i + 1 : Nat) : Int) := by rw [Fz.w64 (by omega) (by omega)]; omega
      refine ⟨hlt, by omega, ?_⟩
      rw [d1]
      simp -dsimp [h0, h9, h10, h11, h3, w1, w2]
      refine ⟨ls.length - (i + 1), by omega, i + 1, by omega, rfl, ?_⟩
      simp -dsimp [h0, h9, h10]
    · rename_i hge
      have hii : i = ls.length := by omega
      subst hii
      rw [List.take_length] at h3 ⊢
      refine grow_spo (by omega) (by omega) fun v J hac => ?_
      simp -dsimp [h0, h9, h10, h11, h3]
      refine xL_by (by kernel_rfl) (fun k e H => ∃ (i : Nat) (v : V) (J : List Ob), i ≤ ls.length ∧ k = ls.length - i ∧ e 25 = .own 0 0 ls.length 1 ∧ e 26 = .int .i64 ls.length ∧ e 27 = .int .i64 i ∧ e 6 = v ∧ Ac 2 1 J v ((catA (ls.take i)).map spoV) ∧ H = .live (ls.map sposV) :: J) ls.length ?_ ?_
      · exact ⟨0, v, J, by simp [h0]; exact hac⟩
      · rintro k e H ⟨i, v, J, hi, hk, h25, h26, h27, h6, hac, rfl⟩
        simp -dsimp [h25, h26, h27, h6]
        split
        · rename_i hlt
          have d1 : List.take 1 (List.drop i (ls.map sposV)) = [sposV ls[i]] := by
            rw [List.drop_eq_getElem_cons (by simpa using hlt)]; simp
          refine ⟨hlt, by omega, ?_⟩
          rw [d1]
          simp -dsimp [h25, h26, h27, h6]
          have t2 := totA_succ ls i hlt
          have t3 := totA_take ls (i + 1)
          have t4 : (catA (ls.take i)).length = totA (ls.take i) := catA_len _
          have e1 := catA_succ ls i hlt
          refine app_ac 1 (m := ls[i].map spoV) (l := (catA (ls.take i)).map spoV) (by simpa using hac) (by simp) (by simp) (by simp) (by simp) (by simp) (by rw [List.length_map, List.length_map, t4]; simp [capOk]; omega) fun v' J' hac' => ?_
          have w2 : IntKind.i64.wrap ((i : Int) + 1) = ((i + 1 : Nat) : Int) := by rw [Fz.w64 (by omega) (by omega)]; omega
          simp -dsimp [h25, h26, h27, w2]
          refine ⟨ls.length - (i + 1), by omega, i + 1, v', J', by omega, rfl, ?_⟩
          simp -dsimp [h25, h26]
          rw [e1, List.map_append]
          exact hac'
        · rename_i hge
          have hii : i = ls.length := by omega
          subst hii
          rw [List.take_length] at hac
          exact hq _ _ hac
theorem concat_call_spo {H : List Ob} {id : Nat} {ls : List (List Spo)} (hid : H[id]? = some (.live (ls.map sposV))) (ht : totA ls ≤ 10000000) (hl : ls.length ≤ 1000000) {Q : CR → List Ob → Prop}
    (hq : ∀ v J, Ac 2 H.length J v ((catA ls).map spoV) → Q (.ret v) (H ++ J)) : WCall p 113 [.own id 0 ls.length 1] H Q := by
  have hgl : groundL (ls.map sposV) = true := by simp
  have hr : reach H 1000 (refsL [.own id 0 ls.length 1]) [] = some [id] := reach_one hid (groundL_refs _ hgl)
  refine WCall_inl (by kernel_rfl) hr ?_
  have e1 : renL (fun i => ([id] : List Nat).idxOf i) [.own id 0 ls.length 1] = [.own 0 0 ls.length 1] := by simp [renL, ren]
  have e2 : (([id] : List Nat).map fun i => renOb (fun i => ([id] : List Nat).idxOf i) (H[i]?.getD .dead)) = [.live (ls.map sposV)] := by
    simp only [List.map_cons, List.map_nil, hid, Option.getD_some, renOb, groundL_ren _ _ hgl]
  rw [e1, e2]
  refine concat_own_spo ht hl fun v J hac => ⟨by simp, ?_⟩
  have e3 : (refsOb (.live (ls.map sposV))) = [] := groundL_refs _ hgl
  rcases ac_cases hac with ⟨rfl, h0⟩ | ⟨j, len, rfl, _⟩
  · have e4 : backH [id] (.ret (.list [] true)) (.live (ls.map sposV) :: J) H = H := by
      unfold backH
      rw [if_neg (by simp [crV, refs, refsL, e3])]
      simp [setAll, renOb, groundL_ren _ _ hgl, set_same hid]
    rw [e4]
    have := hq (.list [] true) [] ⟨by rw [h0]; rfl, by decide, .inl ⟨h0, rfl⟩⟩
    simpa [renR, ren, renL] using this
  · have hg : ∀ j, backK [id] H.length (1 + j) = H.length + j := fun j => by rw [Nat.add_comm]; exact back_s
    have e4 : backH [id] (.ret (.own (1 + j) 0 len 2)) (.live (ls.map sposV) :: J) H = H ++ J.map (renOb (backK [id] H.length)) := by
      unfold backH
      rw [if_pos (by simp [crV, refs])]
      simp [setAll, renOb, groundL_ren _ _ hgl, set_same hid]
    rw [e4]
    have := hq _ _ (acg_back hg (by simp) hac)
    simpa [renR, ren] using this
theorem joined_spo {l tail : List Spo} {keep : Int} (hl : l.length ≤ 1000000) (ht : tail.length ≤ 1000000) : Comes p 91 [sposV l, .int .i64 keep, sposV tail]
    (if 0 ≤ keep ∧ keep ≤ l.length then .tuple [sposV (l.take keep.toNat ++ tail), .bool true] else .tuple [sposV [], .bool false]) := by
  refine Comes_of w91 rfl rfl k91 ?_ ?_ ?_ ?_
  · simp
  · simp
  · split <;> simp
  · by_cases c1 : keep < 0
    · have c3 : ¬ (0 ≤ keep ∧ keep ≤ l.length) := by omega
      simp -dsimp [w91, wFix_by, isInl, c1, c3]
      try simp [sposV]
    · by_cases c2 : keep ≤ l.length
      · have c3 : 0 ≤ keep ∧ keep ≤ l.length := by omega
        have c4 : ¬ (l.length : Int) < keep := by omega
        simp -dsimp [-List.map_take, tk_map, w91, wFix_by, isInl, c1, c3, c4]
        try refine ⟨by omega, ?_⟩
        refine concat_call_spo (ls := [l.take keep.toNat, tail]) rfl (by simp [totA]; omega) (by simp) fun v J hac => ?_
        have hac : Ac 2 1 J v ((l.take keep.toNat ++ tail).map spoV) := by
          have e : catA [l.take keep.toNat, tail] = l.take keep.toNat ++ tail := by simp [catA]
          rw [e] at hac; exact hac
        generalize l.take keep.toNat ++ tail = m at hac ⊢
        simp -dsimp [wFix_by, isInl]
        refine frz_acg 1 (k := 10) hac (by simp) (.inr ⟨by decide, by simp; exact fun x _ => ⟨_, rfl⟩⟩) fun H' _ _ => ?_
        simp -dsimp [sposV]
      · have c3 : ¬ (0 ≤ keep ∧ keep ≤ l.length) := by omega
        have c4 : (l.length : Int) < keep := by omega
        simp -dsimp [w91, wFix_by, isInl, c1, c3, c4]
        try simp [sposV]
end Fz.D
set_option maxRecDepth 100000
namespace Fz.D
open Go
theorem clone_list {H : List Ob} {b : List Int} {Q : CR → List Ob → Prop} (hb : b.length ≤ 1000000) (hq : ∀ v J, Acc 1 H.length J v (b.map (V.int .u8)) → Q (.ret v) (H ++ J)) : WCall p 49 [byV b] H Q := by
  have h0 : refsL [byV b] = [] := groundL_refs _ (by simp)
  refine WCall_inl (by kernel_rfl) (ids := []) (by rw [h0]; rfl) ?_
  rw [groundL_ren _ [byV b] (by simp)]
  by_cases hb0 : b = []
  · subst hb0
    have e : acall p 20 49 [.list [] false] [] = some (.ret (.list [] true), []) := by kernel_rfl
    have := hq (.list [] true) [] (acc_nil (by decide))
    exact ⟨20, _, _, e, by simp, by simpa [renR, ren, renL, backH, crV, refs, refsL, setAll, renOb, backK] using this⟩
  · have := hq (.own H.length 0 b.length 1) [.live (b.map (V.int .u8))] ⟨by simp, by decide, .inr ⟨0, by simp, by simp⟩⟩
    have hne : b.map (V.int .u8) ≠ [] := by simpa using hb0
    refine WFun_of w49 rfl rfl k49 ?_
    simp -dsimp [w49, byV, xPur_isNilNe hne, hb0]
    refine ⟨by simp [capOk]; omega, ?_⟩
    simpa [renR, ren, renL, backH, crV, refs, refsL, setAll, renOb, backK] using this
theorem index_own {l : List Bool} (hl : l.length ≤ 100000) {Q : CR → List Ob → Prop} (hq : ∀ n : Int, (0 ≤ n ↔ l.all id = false) → Q (.ret (.int .i64 n)) [.live (l.map V.bool)]) : WFun p 114 [.own 0 0 l.length 1, .bool false] [.live (l.map V.bool)] Q := by
  refine WFun_of w114 rfl rfl k114 ?_
  simp -dsimp [w114]
  refine xL_by (by kernel_rfl) (fun k e H => ∃ i : Nat, i ≤ l.length ∧ k = l.length - i ∧ e 0 = .own 0 0 l.length 1 ∧ e 1 = .bool false ∧ e 7 = .int .i64 l.length ∧ e 8 = .int .i64 i ∧ H = [.live (l.map V.bool)] ∧ (l.take i).all id = true) l.length ?_ ?_
  · refine ⟨0, by omega, rfl, ?_⟩
    simp -dsimp
  · rintro k e H ⟨i, hi, hk, h0, h1, h7, h8, rfl, hall⟩
    by_cases c1 : i < l.length
    · have d1 : List.take 1 (List.drop i (l.map V.bool)) = [.bool l[i]] := by
        rw [List.drop_eq_getElem_cons (by simpa using c1)]; simp
      have w2 : IntKind.i64.wrap ((i : Int) + 1) = ((i + 1 : Nat) : Int) := by rw [Fz.w64 (by omega) (by omega)]; omega
      have q := all_take (f := id) c1
      cases c2 : l[i] with
      | true =>
        rw [c2] at d1
        simp -dsimp [h0, h1, h7, h8, c1, d1, w2]
        refine ⟨by omega, ?_⟩
        refine ⟨l.length - (i + 1), by omega, i + 1, by omega, rfl, ?_⟩
        rw [q, hall]
        simp -dsimp [h0, h1, h7, c2]
      | false =>
        rw [c2] at d1
        simp -dsimp [h0, h1, h7, h8, c1, d1, w2]
        refine ⟨by omega, hq i ⟨fun _ => ?_, fun _ => by omega⟩⟩
        rw [List.all_eq_false]
        exact ⟨l[i], List.getElem_mem c1, by simp [c2]⟩
    · have hii : i = l.length := by omega
      subst hii
      rw [List.take_length] at hall
      simp -dsimp [h0, h1, h7, h8, c1]
      exact hq (-1) ⟨fun h => by omega, fun h => by rw [hall] at h; cases h⟩
theorem contains_own {l : List Bool} (hl : l.length ≤ 100000) {Q : CR → List Ob → Prop} (hq : Q (.ret (.bool (!l.all id))) [.live (l.map V.bool)]) : WFun p 92 [.own 0 0 l.length 1, .bool false] [.live (l.map V.bool)] Q := by
  refine WFun_of w92 rfl rfl k92 ?_
  simp -dsimp [w92]
  have gl : groundL (l.map V.bool) = true := by simp
  have hr : reach [.live (l.map V.bool)] 1000 (refsL [.own 0 0 l.length 1, .bool false]) [] = some [0] := reach_one (i := 0) rfl (groundL_refs _ gl)
  refine WCall_inl (by kernel_rfl) hr ?_
  have e1 : renL (fun i => ([0] : List Nat).idxOf i) [.own 0 0 l.length 1, .bool false] = [.own 0 0 l.length 1, .bool false] := by simp [renL, ren]
  have e2 : (([0] : List Nat).map fun i => renOb (fun i => ([0] : List Nat).idxOf i) (([.live (l.map V.bool)] : List Ob)[i]?.getD .dead)) = [.live (l.map V.bool)] := by
    simp only [List.map_cons, List.map_nil, List.getElem?_cons_zero, Option.getD_some, renOb, groundL_ren _ _ gl]
  rw [e1, e2]
  refine index_own hl fun n hn => ⟨by simp, ?_⟩
  have e4 : backH [0] (.ret (.int .i64 n)) [.live (l.map V.bool)] [.live (l.map V.bool)] = [.live (l.map V.bool)] := by
    unfold backH
    rw [if_neg (by simp [crV, refs, refsOb, groundL_refs _ gl])]
    simp [setAll, renOb, groundL_ren _ _ gl]
  rw [e4]
  have e5 : (decide (0 ≤ n)) = !l.all id := by
    cases h : l.all id with
    | true => rw [h] at hn; simp at hn; simp; omega
    | false => rw [h] at hn; simp at hn; simp [hn]
  simp -dsimp [renR, ren, e5]
  exact hq
theorem contains_call {H : List Ob} {id : Nat} {l : List Bool} (hid : H[id]? = some (.live (l.map V.bool))) (hl : l.length ≤ 100000) {Q : CR → List Ob → Prop} (hq : Q (.ret (.bool (!l.all _root_.id))) H) : WCall p 92 [.own id 0 l.length 1, .bool false] H Q := by
  have gl : groundL (l.map V.bool) = true := by simp
  have hr : reach H 1000 (refsL [.own id 0 l.length 1, .bool false]) [] = some [id] := reach_one hid (groundL_refs _ gl)
  refine WCall_inl (by kernel_rfl) hr ?_
  have e1 : renL (fun i => ([id] : List Nat).idxOf i) [.own id 0 l.length 1, .bool false] = [.own 0 0 l.length 1, .bool false] := by simp [renL, ren]
  have e2 : (([id] : List Nat).map fun i => renOb (fun i => ([id] : List Nat).idxOf i) (H[i]?.getD .dead)) = [.live (l.map V.bool)] := by
    simp only [List.map_cons, List.map_nil, hid, Option.getD_some, renOb, groundL_ren _ _ gl]
  rw [e1, e2]
  refine contains_own hl ⟨by simp, ?_⟩
  have e4 : backH [id] (.ret (.bool (!l.all _root_.id))) [.live (l.map V.bool)] H = H := by
    unfold backH
    rw [if_neg (by simp [crV, refs, refsOb, groundL_refs _ gl])]
    simp [setAll, renOb, groundL_ren _ _ gl, set_same hid]
  rw [e4]
  simpa [renR, ren] using hq
theorem within_s (a b : Int) : Comes p 117 [.int .i64 a, .int .i64 b] (.bool (decide (0 ≤ a ∧ a ≤ b))) := by
  refine Comes_of w117 rfl rfl k117 ?_ ?_ ?_ ?_
  · simp
  · simp
  · simp
  · by_cases h : 0 ≤ a <;> simp -dsimp [w117, wFix_by, isInl, h]
end Fz.D
set_option maxRecDepth 100000
namespace Fz.D
open Go
def wi (a : Int) (n : Nat) : Bool := decide (0 ≤ a ∧ a ≤ (n : Int))
theorem wi_s (a : Int) (n : Nat) : Comes p 117 [.int .i64 a, .int .i64 n] (.bool (wi a n)) := within_s a n
def runOk (n : Nat) (r : Rn) : Bool := wi r.at_ n && decide (r.at_ + r.b.length ≤ n)
def restOk (t : St) (d : De) : Bool := wi d.dk t.data.length && (wi d.rk t.ret.length && (wi d.ck t.ctl.length && (wi d.wk t.words.length && (wi d.sk t.spots.length && wi d.out t.out.length))))
def fitsB (t : St) (d : De) : Bool := d.mem.all (runOk t.mem.length) && restOk t d
theorem fits_s {t : St} {d : De} (ht : t.mem.length ≤ 100000) (hd : d.mem.length ≤ 100000) (hr : ∀ r ∈ d.mem, r.b.length ≤ 100000) : Comes p 101 [stV t, deV d] (.bool (fitsB t d)) := by
  refine Comes_of w101 rfl rfl k101 ?_ ?_ ?_ ?_
  · simp
  · simp
  · simp
  · simp -dsimp [w101, wFix_by, isInl]
    refine xL_by (by kernel_rfl) (fun k e H => ∃ i : Nat, i ≤ d.mem.length ∧ k = d.mem.length - i ∧ e 2 = .ptr 0 0 ∧ e 3 = .ptr 1 0 ∧ e 5 = .int .i64 i ∧ H = [.live (cellsOf (stV t)), .live (cellsOf (deV d))] ∧ (d.mem.take i).all (runOk t.mem.length) = true) d.mem.length ?_ ?_
    · refine ⟨0, by omega, rfl, ?_⟩
      simp -dsimp
    rintro k e H ⟨i, hi, hk, h2, h3, h5, rfl, hall⟩
    by_cases c1 : i < d.mem.length
    · have w2 : IntKind.i64.wrap ((i : Int) + 1) = ((i + 1 : Nat) : Int) := by rw [Fz.w64 (by omega) (by omega)]; omega
      have g1 : d.mem[i]?.getD default = d.mem[i] := by simp [c1]
      have hb := hr d.mem[i] (List.getElem_mem c1)
      have q := all_take (f := runOk t.mem.length) c1
      have ws := wi_s d.mem[i].at_ t.mem.length
      have bad : runOk t.mem.length d.mem[i] = false → fitsB t d = false := fun h => by
        have := all_false (n := d.mem.length) c1 c1 h
        rw [List.take_length] at this
        unfold fitsB
        rw [this]; rfl
      cases c3 : wi d.mem[i].at_ t.mem.length with
      | false =>
        have z := bad (by unfold runOk; rw [c3]; rfl)
        rw [c3] at ws
        simp -dsimp [h2, h3, h5, c1, g1, w2, quiet_by ws, wFix_by, isInl, z]
      | true =>
        rw [c3] at ws
        have c3' : 0 ≤ d.mem[i].at_ ∧ d.mem[i].at_ ≤ t.mem.length := by simpa [wi] using c3
        have w4 : IntKind.i64.wrap (d.mem[i].at_ + (d.mem[i].b.length : Int)) = d.mem[i].at_ + d.mem[i].b.length := Fz.w64 (by omega) (by omega)
        by_cases c4 : d.mem[i].at_ + d.mem[i].b.length ≤ t.mem.length
        · have c4' : ¬ (t.mem.length : Int) < d.mem[i].at_ + d.mem[i].b.length := by omega
          simp -dsimp [h2, h3, h5, c1, g1, w2, w4, quiet_by ws, c4', wFix_by, isInl]
          refine ⟨d.mem.length - (i + 1), by omega, i + 1, by omega, rfl, ?_⟩
          rw [q, hall]
          simp -dsimp [h2, h3, runOk, c3, c4]
        · have c4' : (t.mem.length : Int) < d.mem[i].at_ + d.mem[i].b.length := by omega
          have z := bad (by unfold runOk; rw [c3]; simp; omega)
          simp -dsimp [h2, h3, h5, c1, g1, w2, w4, quiet_by ws, c4', wFix_by, isInl, z]
    · have hii : i = d.mem.length := by omega
      subst hii
      rw [List.take_length] at hall
      have hf : fitsB t d = restOk t d := by unfold fitsB; rw [hall]; rfl
      have s0 := wi_s d.dk t.data.length
      cases d0 : wi d.dk t.data.length with
      | false =>
        rw [d0] at s0
        simp -dsimp [h2, h3, h5, c1, wFix_by, isInl, hf, restOk, d0, call_by s0]
      | true =>
      rw [d0] at s0
      have s1 := wi_s d.rk t.ret.length
      cases d1 : wi d.rk t.ret.length with
      | false =>
        rw [d1] at s1
        simp -dsimp [h2, h3, h5, c1, wFix_by, isInl, hf, restOk, d0, call_by s0, d1, call_by s1]
      | true =>
      rw [d1] at s1
      have s2 := wi_s d.ck t.ctl.length
      cases d2 : wi d.ck t.ctl.length with
      | false =>
        rw [d2] at s2
        simp -dsimp [h2, h3, h5, c1, wFix_by, isInl, hf, restOk, d0, call_by s0, d1, call_by s1, d2, call_by s2]
      | true =>
      rw [d2] at s2
      have s3 := wi_s d.wk t.words.length
      cases d3 : wi d.wk t.words.length with
      | false =>
        rw [d3] at s3
        simp -dsimp [h2, h3, h5, c1, wFix_by, isInl, hf, restOk, d0, call_by s0, d1, call_by s1, d2, call_by s2, d3, call_by s3]
      | true =>
      rw [d3] at s3
      have s4 := wi_s d.sk t.spots.length
      cases d4 : wi d.sk t.spots.length with
      | false =>
        rw [d4] at s4
        simp -dsimp [h2, h3, h5, c1, wFix_by, isInl, hf, restOk, d0, call_by s0, d1, call_by s1, d2, call_by s2, d3, call_by s3, d4, call_by s4]
      | true =>
      rw [d4] at s4
      have s5 := wi_s d.out t.out.length
      cases d5 : wi d.out t.out.length with
      | false =>
        rw [d5] at s5
        simp -dsimp [h2, h3, h5, c1, wFix_by, isInl, hf, restOk, d0, call_by s0, d1, call_by s1, d2, call_by s2, d3, call_by s3, d4, call_by s4, d5, call_by s5]
      | true =>
      rw [d5] at s5
      simp -dsimp [h2, h3, h5, c1, wFix_by, isInl, hf, restOk, d0, call_by s0, d1, call_by s1, d2, call_by s2, d3, call_by s3, d4, call_by s4, d5, call_by s5]
def patch (m : List Int) (r : Rn) : List Int := m.take r.at_.toNat ++ r.b ++ m.drop (r.at_.toNat + r.b.length)
theorem patch_len {m : List Int} {r : Rn} (h : runOk m.length r = true) : (patch m r).length = m.length := by
  unfold runOk wi at h
  simp only [Bool.and_eq_true, decide_eq_true_eq] at h
  unfold patch
  simp only [List.length_append, List.length_take, List.length_drop]
  omega
def backS (t : St) (d : De) : St := { mem := d.mem.foldl patch t.mem, data := t.data.take d.dk.toNat ++ d.dt, ret := t.ret.take d.rk.toNat ++ d.rt, ctl := t.ctl.take d.ck.toNat ++ d.ct, words := t.words.take d.wk.toNat ++ d.wt, spots := t.spots.take d.sk.toNat ++ d.st, out := t.out.take (t.out.length - d.out.toNat), ip := d.r0, here := d.r1, at_ := d.r2, tok := d.r3, in_ := d.r4, err := d.r5, comp := d.comp, halt := d.halt }
def St0 : St := { mem := [], data := [], ret := [], ctl := [], words := [], spots := [], out := [], ip := 0, here := 0, at_ := 0, tok := 0, in_ := 0, err := 0, comp := false, halt := false }
def backV (t : St) (d : De) : V := if fitsB t d = true then .tuple [stV (backS t d), .int .i64 0] else .tuple [stV St0, .int .i64 1]
end Fz.D
set_option maxRecDepth 100000
namespace Fz.D
open Go
def patchK (m : List Int) (r : Rn) (k : Nat) : List Int := m.take r.at_.toNat ++ r.b.take k ++ m.drop (r.at_.toNat + k)
theorem patchK_zero (m : List Int) (r : Rn) : patchK m r 0 = m := by simp [patchK]
theorem patchK_all (m : List Int) (r : Rn) : patchK m r r.b.length = patch m r := by simp [patchK, patch]
theorem patchK_len {m : List Int} {r : Rn} {k : Nat} (h : runOk m.length r = true) (hk : k ≤ r.b.length) : (patchK m r k).length = m.length := by
  unfold runOk wi at h
  simp only [Bool.and_eq_true, decide_eq_true_eq] at h
  unfold patchK
  simp only [List.length_append, List.length_take, List.length_drop]
  omega
theorem patchK_succ {m : List Int} {r : Rn} {k : Nat} (h : runOk m.length r = true) (hk : k < r.b.length) : patchK m r (k + 1) = (patchK m r k).set (r.at_.toNat + k) r.b[k] := by
  unfold runOk wi at h
  simp only [Bool.and_eq_true, decide_eq_true_eq] at h
  unfold patchK
  have l1 : (m.take r.at_.toNat ++ r.b.take k).length = r.at_.toNat + k := by simp; omega
  rw [List.set_append_right _ _ (by omega), l1, Nat.sub_self, List.drop_eq_getElem_cons (show r.at_.toNat + k < m.length by omega), List.set_cons_zero, List.take_succ_eq_append_getElem hk]
  rw [List.append_assoc, List.append_assoc, List.append_assoc]
  rfl
theorem acc_store {k j i : Nat} {H : List Ob} {v : V} {l : List Int} {x : Int} (hj : Acc 1 k (H.drop k) v (l.map (V.int .u8))) (hi : i < l.length) :
    ∃ id, v = .own id 0 l.length 1 ∧ k ≤ id ∧ H[id]? = some (.live (l.map (V.int .u8))) ∧ Acc 1 k ((H.set id (.live ((l.set i x).map (V.int .u8)))).drop k) v ((l.set i x).map (V.int .u8)) ∧ (H.set id (.live ((l.set i x).map (V.int .u8)))).take k = H.take k := by
  obtain ⟨h1, h2, h3⟩ := hj
  rcases h3 with ⟨h3, _⟩ | ⟨j, rfl, h4⟩
  · have : l = [] := by simpa using h3
    subst this; simp at hi
  · rw [List.getElem?_drop, flat_int] at h4
    have hlt := (List.getElem?_eq_some_iff.1 h4).1
    refine ⟨k + j, by simp, by omega, h4, ⟨uni_int _, h2, .inr ⟨j, by simp, ?_⟩⟩, by rw [List.take_set_of_le (by omega)]⟩
    rw [List.getElem?_drop, List.getElem?_set_self hlt, flat_int]
theorem fold_len {n : Nat} : ∀ (rs : List Rn) (m : List Int), m.length = n → rs.all (runOk n) = true → (rs.foldl patch m).length = n
  | [], m, h, _ => h
  | r :: rs, m, h, ha => by
    rw [List.all_cons, Bool.and_eq_true] at ha
    rw [List.foldl_cons]
    exact fold_len rs _ (by rw [patch_len (by rw [h]; exact ha.1), h]) ha.2
theorem acc_val {n b : Nat} {J : List Ob} {v : V} {l : List V} (h : Acc n b J v l) : cellsOf v = [v] ∧ isAny v = false ∧ storable v = true := by
  obtain ⟨_, _, h3⟩ := h
  rcases h3 with ⟨_, rfl⟩ | ⟨j, rfl, _⟩ <;> exact ⟨rfl, rfl, rfl⟩
def Z15 : List V := [.list [] true, .list [] true, .list [] true, .list [] true, .list [] true, .list [] true, .list [] true, .int .i64 0, .int .i64 0, .int .i64 0, .int .i64 0, .int .i64 0, .int .i64 0, .bool false, .bool false]
theorem app_new {H : List Ob} {n bytes k : Nat} {m xs : List V} {K : V → List Ob → Prop} (hxs : xs = flat m) (hk : k = m.length) (hu : uni n m = true) (hs : (flat m).all storable = true) (hn : n ≠ 0) (hc : capOk m.length bytes = true)
    (hK : ∀ v' J', Ac n H.length J' v' m → K v' (H ++ J')) : xAppend H n bytes (.list [] true) xs k K := by
  refine app_ac H.length (l := []) (m := m) (by rw [List.drop_length]; exact ac_nil hn) (Nat.le_refl _) hxs hk hu hs (by simpa using hc) fun v' J' h => ?_
  rw [List.take_length]
  exact hK v' J' h
theorem app_more {H J : List Ob} {n bytes k : Nat} {v : V} {l m xs : List V} {K : V → List Ob → Prop} (ha : Ac n H.length J v l) (hxs : xs = flat m) (hk : k = m.length) (hu : uni n m = true) (hs : (flat m).all storable = true) (hc : capOk (l.length + m.length) bytes = true)
    (hK : ∀ v' J', Ac n H.length J' v' (l ++ m) → K v' (H ++ J')) : xAppend (H ++ J) n bytes v xs k K := by
  refine app_ac H.length (l := l) (m := m) (by rw [List.drop_left]; exact ha) (by simp) hxs hk hu hs hc fun v' J' h => ?_
  rw [List.take_left]
  exact hK v' J' h
structure BkOk (t : St) (d : De) : Prop where
  tm : t.mem.length ≤ 100000
  to : t.out.length ≤ 100000
  dm : d.mem.length ≤ 100000
  db : ∀ r ∈ d.mem, r.b.length ≤ 100000
  l1 : t.data.length ≤ 100000 ∧ d.dt.length ≤ 100000
  l2 : t.ret.length ≤ 100000 ∧ d.rt.length ≤ 100000
  l3 : t.ctl.length ≤ 100000 ∧ d.ct.length ≤ 100000
  l4 : t.words.length ≤ 100000 ∧ d.wt.length ≤ 100000
  l5 : t.spots.length ≤ 100000 ∧ d.st.length ≤ 100000
abbrev R2 (t : St) (d : De) : List Ob := [.live (cellsOf (stV t)), .live (cellsOf (deV d))]
theorem refBack_s {t : St} {d : De} (ok : BkOk t d) : Comes p 42 [stV t, deV d] (backV t d) := by
  have tm := ok.tm
  have dm := ok.dm
  have c0 := fits_s (t := t) (d := d) ok.tm ok.dm ok.db
  rw [← stF t, ← deF d] at c0
  simp only [stV.cells, deV.cells] at c0
  refine Comes_of w42 rfl rfl k42 ?_ ?_ ?_ ?_
  · simp
  · simp
  · unfold backV; split <;> simp
  · cases hf : fitsB t d with
    | false =>
      rw [hf] at c0
      simp -dsimp [w42, wFix_by, isInl, call_by c0, backV, hf]
      rfl
    | true =>
      rw [hf] at c0
      have hall : d.mem.all (runOk t.mem.length) = true := by unfold fitsB at hf; rw [Bool.and_eq_true] at hf; exact hf.1
      have hrest : restOk t d = true := by unfold fitsB at hf; rw [Bool.and_eq_true] at hf; exact hf.2
      simp -dsimp [-wAppend_list, w42, wFix_by, isInl, call_by c0, backV, hf]
      refine app_acc 3 (m := t.mem.map (V.int .u8)) (l := []) (acc_nil (by decide)) (by simp) (by simp) (by simp) (by simp) (by simp) (by simp [capOk]; omega) fun v T ha => ?_
      simp -dsimp [-wAppend_list]
      refine xL_by (by kernel_rfl) (fun k e H => ∃ (i : Nat) (T : List Ob), i ≤ d.mem.length ∧ k = d.mem.length - i ∧ e 2 = .ptr 0 0 ∧ e 3 = .ptr 1 0 ∧ e 4 = .ptr 2 0 ∧ e 7 = .int .i64 i ∧ e 6 = v ∧ H = .live (cellsOf (stV t)) :: .live (cellsOf (deV d)) :: .live Z15 :: T ∧ Acc 1 3 T v (((d.mem.take i).foldl patch t.mem).map (V.int .u8))) d.mem.length ?_ ?_
      · refine ⟨0, T, by omega, rfl, ?_⟩
        simp -dsimp [Z15]
        simpa using ha
      clear ha T
      rintro k e H ⟨i, T, hi, hk, h2, h3, h4, h7, h6, rfl, ha⟩
      by_cases c1 : i < d.mem.length
      · have g1 : d.mem[i]?.getD default = d.mem[i] := by simp [c1]
        have hb := ok.db d.mem[i] (List.getElem_mem c1)
        have hr : runOk t.mem.length d.mem[i] = true := List.all_eq_true.1 hall _ (List.getElem_mem c1)
        have w2 : IntKind.i64.wrap ((i : Int) + 1) = ((i + 1 : Nat) : Int) := by rw [Fz.w64 (by omega) (by omega)]; omega
        have hml : ((d.mem.take i).foldl patch t.mem).length = t.mem.length := fold_len _ _ rfl (by
          rw [List.all_eq_true] at hall ⊢
          exact fun x hx => hall x (List.mem_of_mem_take hx))
        have hstep : (d.mem.take (i + 1)).foldl patch t.mem = patch ((d.mem.take i).foldl patch t.mem) d.mem[i] := by
          rw [List.take_succ_eq_append_getElem c1, List.foldl_append]; rfl
        generalize (d.mem.take i).foldl patch t.mem = m at *
        have hr' : runOk m.length d.mem[i] = true := by rw [hml]; exact hr
        have hw : 0 ≤ d.mem[i].at_ ∧ d.mem[i].at_ + d.mem[i].b.length ≤ m.length := by
          unfold runOk wi at hr'
          simp only [Bool.and_eq_true, decide_eq_true_eq] at hr'
          omega
        obtain ⟨r, hrr⟩ : ∃ r, r = d.mem[i] := ⟨_, rfl⟩
        rw [← hrr] at g1 hb hr hr' hw hstep
        simp -dsimp [-wAppend_list, h2, h3, h4, h7, h6, c1, w2, ← hrr]
        refine xL_by (by kernel_rfl) (fun k e H => ∃ (j : Nat) (T : List Ob), j ≤ r.b.length ∧ k = r.b.length - j ∧ e 2 = .ptr 0 0 ∧ e 3 = .ptr 1 0 ∧ e 4 = .ptr 2 0 ∧ e 7 = .int .i64 i ∧ e 8 = .int .i64 j ∧ e 6 = v ∧ H = .live (cellsOf (stV t)) :: .live (cellsOf (deV d)) :: .live Z15 :: T ∧ Acc 1 3 T v ((patchK m r j).map (V.int .u8))) r.b.length ?_ ?_
        · refine ⟨0, T, by omega, rfl, ?_⟩
          simp -dsimp [h2, h3, h4, h7, h6]
          rw [patchK_zero]; exact ha
        clear ha T
        rintro k' e H ⟨j, T, hj, hk', h2, h3, h4, h7, h8, h6, rfl, ha⟩
        by_cases c2 : j < r.b.length
        · have g2 : r.b[j]?.getD default = r.b[j] := by simp [c2]
          have w3 : IntKind.i64.wrap ((j : Int) + 1) = ((j + 1 : Nat) : Int) := by rw [Fz.w64 (by omega) (by omega)]; omega
          obtain ⟨q, hq⟩ : ∃ q, q = r.at_.toNat := ⟨_, rfl⟩
          have w4 : IntKind.i64.wrap (r.at_ + (j : Int)) = ((q + j : Nat) : Int) := by rw [Fz.w64 (by omega) (by omega)]; omega
          have hpl := patchK_len hr' hj
          obtain ⟨id, hv, hid, hget, hacc, htake⟩ := acc_store (k := 3) (j := 0) (H := .live (cellsOf (stV t)) :: .live (cellsOf (deV d)) :: .live Z15 :: T) (i := r.at_.toNat + j) (x := r.b[j]) ha (by omega)
          obtain ⟨id, rfl⟩ : ∃ q, id = q + 1 + 1 + 1 := ⟨id - 3, by omega⟩
          rw [← patchK_succ hr' c2] at hacc htake
          have hsu := patchK_succ hr' c2
          rw [← hq] at hsu
          have hget' : T[id]? = some (.live ((patchK m r j).map (V.int .u8))) := by simpa using hget
          simp -dsimp [h2, h3, h4, h7, h8, h6, c1, c2, w2, w3, w4, ← hrr, hv, wMut_at hget']
          refine ⟨by omega, by omega, by omega, ?_⟩
          refine ⟨r.b.length - (j + 1), by omega, j + 1, T.set id (.live ((patchK m r (j + 1)).map (V.int .u8))), by omega, rfl, ?_⟩
          simp -dsimp [h2, h3, h4, h7, h6]
          have tn : ((q : Int) + (j : Int)).toNat = q + j := by omega
          have e : List.take (q + j) ((patchK m r j).map (V.int .u8)) ++ V.int .u8 r.b[j] :: List.drop (q + j + 1) ((patchK m r j).map (V.int .u8)) = (patchK m r (j + 1)).map (V.int .u8) := by
            rw [hsu, List.map_set, List.set_eq_take_append_cons_drop, if_pos (by simp; omega)]
          rw [tn, e]
          exact ⟨rfl, by simpa using hacc⟩
        · have hjj : j = r.b.length := by omega
          subst hjj
          rw [patchK_all, ← hstep] at ha
          simp -dsimp [h2, h3, h4, h7, h8, h6, c1, c2, w2, ← hrr]
          refine ⟨d.mem.length - (i + 1), by omega, i + 1, T, by omega, rfl, ?_⟩
          simp -dsimp [h2, h3, h4, h6]
          exact ha
      · have hii : i = d.mem.length := by omega
        subst hii
        rw [List.take_length] at ha
        obtain ⟨xv, yv, uv'⟩ := acc_val ha
        have hrest' := hrest
        unfold restOk wi at hrest'
        simp only [Bool.and_eq_true, decide_eq_true_eq] at hrest'
        obtain ⟨k1, k2, k3, k4, k5, k6⟩ := hrest'
        have hto := ok.to
        have wo : IntKind.i64.wrap ((t.out.length : Int) - d.out) = ((t.out.length - d.out.toNat : Nat) : Int) := by rw [Fz.w64 (by omega) (by omega)]; omega
        simp -dsimp [-wAppend_list, h2, h3, h4, h7, h6, xv, yv, uv', wo, wFix_by, isInl]
        obtain ⟨H0, hH⟩ : ∃ H : List Ob, H = (.live (cellsOf (stV t)) :: .live (cellsOf (deV d)) :: .live Z15 :: (T ++ [.live Z15])).set (T.length + 1 + 1 + 1) (.live [v, .list [] true, .list [] true, .list [] true, .list [] true, .list [] true, .list (List.take (t.out.length - d.out.toNat) (t.out.map (V.int .u8))) false, .int .i64 0, .int .i64 0, .int .i64 0, .int .i64 0, .int .i64 0, .int .i64 0, .bool d.comp, .bool d.halt]) := ⟨_, rfl⟩
        have s0 : Sees (R2 t d) H0 := by rw [hH]; simp
        have n0 : T.length + 1 + 1 + 1 < H0.length := by rw [hH]; simp
        have b0 : 2 < H0.length := by rw [hH]; simp
        have q0 : H0[T.length + 1 + 1 + 1]? = some (.live [v, .list [] true, .list [] true, .list [] true, .list [] true, .list [] true, .list (List.take (t.out.length - d.out.toNat) (t.out.map (V.int .u8))) false, .int .i64 0, .int .i64 0, .int .i64 0, .int .i64 0, .int .i64 0, .int .i64 0, .bool d.comp, .bool d.halt]) := by rw [hH]; simp
        have z0 : H0[2]? = some (.live Z15) := by rw [hH]; simp
        have v0 : Has 1 (gho (T.length + 1 + 1 + 1) 2 H0) v ((d.mem.foldl patch t.mem).map (V.int .u8)) := by
          refine has_ac (b := 3) (ac_acc ?_)
          rw [hH]
          unfold gho
          simp
          exact acc_ext ha _
        have hdr : ∀ A B Q, xDraw p A B H0 Q → xDraw p A B ((.live (cellsOf (stV t)) :: .live (cellsOf (deV d)) :: .live Z15 :: (T ++ [.live Z15])).set (T.length + 1 + 1 + 1) (.live [v, .list [] true, .list [] true, .list [] true, .list [] true, .list [] true, .list (List.take (t.out.length - d.out.toNat) (t.out.map (V.int .u8))) false, .int .i64 0, .int .i64 0, .int .i64 0, .int .i64 0, .int .i64 0, .int .i64 0, .bool d.comp, .bool d.halt])) Q := fun A B Q h => by rw [← hH]; exact h
        refine hdr _ _ _ ?_
        clear hdr hH ha
        obtain ⟨m1, hm1⟩ : ∃ m, m = t.data.take d.dk.toNat := ⟨_, rfl⟩
        have ml1 : m1.length ≤ 100000 := by rw [hm1]; have := ok.l1.1; simp; omega
        have tl1 := ok.l1.2
        refine WDraw_see (R := R2 t d) (by kernel_rfl) s0 ?_
        simp -dsimp [-wAppend_list, -List.map_take, tk_map, ← hm1, h2, h3, h4, h7, h6, wFix_by, isInl, fillV, splice, wOpt, chunk]
        refine ⟨by omega, by omega, ?_⟩
        refine app_new (m := m1.map (V.int .i64)) (by simp) (by rw [hm1]; simp) (by simp) (by simp) (by decide) (by simp [capOk]; omega) fun w1 J1 a1 => ?_
        refine ⟨s0.trans (Sees.app _ _), ?_⟩
        simp -dsimp [-wAppend_list, h2, h3, h4, h7, h6, wFix_by, isInl, fillV, splice, wOpt, chunk]
        refine app_more (m := d.dt.map (V.int .i64)) a1 (by simp) (by simp) (by simp) (by simp) (by simp [capOk]; omega) fun v1 I1 a1 => ?_
        rw [← List.map_append] at a1
        refine ⟨s0.trans (Sees.app _ _), ?_⟩
        obtain ⟨x1, y1, u1⟩ := has_val (has_ac (H := H0 ++ I1) (b := H0.length) (by rw [List.drop_left]; exact a1))
        have p1 : (H0 ++ I1)[T.length + 1 + 1 + 1]? = some (.live [v, V.list [] true, V.list [] true, V.list [] true, V.list [] true, V.list [] true, V.list (List.take (t.out.length - d.out.toNat) (t.out.map (V.int .u8))) false, .int .i64 0, .int .i64 0, .int .i64 0, .int .i64 0, .int .i64 0, .int .i64 0, .bool d.comp, .bool d.halt]) := by rw [List.getElem?_append_left n0]; exact q0
        obtain ⟨H1, hH⟩ : ∃ H : List Ob, H = (H0 ++ I1).set (T.length + 1 + 1 + 1) (.live [v, v1, V.list [] true, V.list [] true, V.list [] true, V.list [] true, V.list (List.take (t.out.length - d.out.toNat) (t.out.map (V.int .u8))) false, .int .i64 0, .int .i64 0, .int .i64 0, .int .i64 0, .int .i64 0, .int .i64 0, .bool d.comp, .bool d.halt]) := ⟨_, rfl⟩
        have s1 : Sees (R2 t d) H1 := by rw [hH]; exact sees_set (s0.trans (Sees.app _ _)) (.inl (by simp))
        have n1 : T.length + 1 + 1 + 1 < H1.length := by rw [hH]; simp; omega
        have b1 : 2 < H1.length := by rw [hH]; simp; omega
        have q1 : H1[T.length + 1 + 1 + 1]? = some (.live [v, v1, V.list [] true, V.list [] true, V.list [] true, V.list [] true, V.list (List.take (t.out.length - d.out.toNat) (t.out.map (V.int .u8))) false, .int .i64 0, .int .i64 0, .int .i64 0, .int .i64 0, .int .i64 0, .int .i64 0, .bool d.comp, .bool d.halt]) := by rw [hH, List.getElem?_set_self (by simp; omega)]
        have z1 : H1[2]? = some (.live Z15) := by rw [hH, List.getElem?_set_ne (by omega), List.getElem?_append_left b0]; exact z0
        have g1_0 := has_next (J := I1) (x := .live [v, v1, V.list [] true, V.list [] true, V.list [] true, V.list [] true, V.list (List.take (t.out.length - d.out.toNat) (t.out.map (V.int .u8))) false, .int .i64 0, .int .i64 0, .int .i64 0, .int .i64 0, .int .i64 0, .int .i64 0, .bool d.comp, .bool d.halt]) n0 b0 v0
        rw [← hH] at g1_0
        have g1_1 := has_new (m := 2) (x := .live [v, v1, V.list [] true, V.list [] true, V.list [] true, V.list [] true, V.list (List.take (t.out.length - d.out.toNat) (t.out.map (V.int .u8))) false, .int .i64 0, .int .i64 0, .int .i64 0, .int .i64 0, .int .i64 0, .int .i64 0, .bool d.comp, .bool d.halt]) n0 b0 a1
        rw [← hH] at g1_1
        have hdr : ∀ A B Q, xDraw p A B H1 Q → xDraw p A B ((H0 ++ I1).set (T.length + 1 + 1 + 1) (.live [v, v1, V.list [] true, V.list [] true, V.list [] true, V.list [] true, V.list (List.take (t.out.length - d.out.toNat) (t.out.map (V.int .u8))) false, .int .i64 0, .int .i64 0, .int .i64 0, .int .i64 0, .int .i64 0, .int .i64 0, .bool d.comp, .bool d.halt])) Q := fun A B Q h => by rw [← hH]; exact h
        simp -dsimp [-wAppend_list, h2, h3, h4, h7, h6, wMut_at p1, x1, y1, u1, sees_set (s0.trans (Sees.app _ I1)) (.inl (show (R2 t d)[T.length + 1 + 1 + 1]? = none by simp))]
        refine hdr _ _ _ ?_
        clear hdr hH
        obtain ⟨m2, hm2⟩ : ∃ m, m = t.ret.take d.rk.toNat := ⟨_, rfl⟩
        have ml2 : m2.length ≤ 100000 := by rw [hm2]; have := ok.l2.1; simp; omega
        have tl2 := ok.l2.2
        refine WDraw_see (R := R2 t d) (by kernel_rfl) s1 ?_
        simp -dsimp [-wAppend_list, -List.map_take, tk_map, ← hm2, h2, h3, h4, h7, h6, wFix_by, isInl, fillV, splice, wOpt, chunk]
        refine ⟨by omega, by omega, ?_⟩
        refine app_new (m := m2.map (sloV)) (by simp) (by rw [hm2]; simp) (by simp) (by simp) (by decide) (by simp [capOk]; omega) fun w2 J2 a2 => ?_
        refine ⟨s1.trans (Sees.app _ _), ?_⟩
        simp -dsimp [-wAppend_list, h2, h3, h4, h7, h6, wFix_by, isInl, fillV, splice, wOpt, chunk]
        refine app_more (m := d.rt.map (sloV)) a2 (by simp) (by simp) (by simp) (by simp) (by simp [capOk]; omega) fun v2 I2 a2 => ?_
        rw [← List.map_append] at a2
        refine ⟨s1.trans (Sees.app _ _), ?_⟩
        obtain ⟨x2, y2, u2⟩ := has_val (has_ac (H := H1 ++ I2) (b := H1.length) (by rw [List.drop_left]; exact a2))
        have p2 : (H1 ++ I2)[T.length + 1 + 1 + 1]? = some (.live [v, v1, V.list [] true, V.list [] true, V.list [] true, V.list [] true, V.list (List.take (t.out.length - d.out.toNat) (t.out.map (V.int .u8))) false, .int .i64 0, .int .i64 0, .int .i64 0, .int .i64 0, .int .i64 0, .int .i64 0, .bool d.comp, .bool d.halt]) := by rw [List.getElem?_append_left n1]; exact q1
        obtain ⟨H2, hH⟩ : ∃ H : List Ob, H = (H1 ++ I2).set (T.length + 1 + 1 + 1) (.live [v, v1, v2, V.list [] true, V.list [] true, V.list [] true, V.list (List.take (t.out.length - d.out.toNat) (t.out.map (V.int .u8))) false, .int .i64 0, .int .i64 0, .int .i64 0, .int .i64 0, .int .i64 0, .int .i64 0, .bool d.comp, .bool d.halt]) := ⟨_, rfl⟩
        have s2 : Sees (R2 t d) H2 := by rw [hH]; exact sees_set (s1.trans (Sees.app _ _)) (.inl (by simp))
        have n2 : T.length + 1 + 1 + 1 < H2.length := by rw [hH]; simp; omega
        have b2 : 2 < H2.length := by rw [hH]; simp; omega
        have q2 : H2[T.length + 1 + 1 + 1]? = some (.live [v, v1, v2, V.list [] true, V.list [] true, V.list [] true, V.list (List.take (t.out.length - d.out.toNat) (t.out.map (V.int .u8))) false, .int .i64 0, .int .i64 0, .int .i64 0, .int .i64 0, .int .i64 0, .int .i64 0, .bool d.comp, .bool d.halt]) := by rw [hH, List.getElem?_set_self (by simp; omega)]
        have z2 : H2[2]? = some (.live Z15) := by rw [hH, List.getElem?_set_ne (by omega), List.getElem?_append_left b1]; exact z1
        have g2_0 := has_next (J := I2) (x := .live [v, v1, v2, V.list [] true, V.list [] true, V.list [] true, V.list (List.take (t.out.length - d.out.toNat) (t.out.map (V.int .u8))) false, .int .i64 0, .int .i64 0, .int .i64 0, .int .i64 0, .int .i64 0, .int .i64 0, .bool d.comp, .bool d.halt]) n1 b1 g1_0
        rw [← hH] at g2_0
        have g2_1 := has_next (J := I2) (x := .live [v, v1, v2, V.list [] true, V.list [] true, V.list [] true, V.list (List.take (t.out.length - d.out.toNat) (t.out.map (V.int .u8))) false, .int .i64 0, .int .i64 0, .int .i64 0, .int .i64 0, .int .i64 0, .int .i64 0, .bool d.comp, .bool d.halt]) n1 b1 g1_1
        rw [← hH] at g2_1
        have g2_2 := has_new (m := 2) (x := .live [v, v1, v2, V.list [] true, V.list [] true, V.list [] true, V.list (List.take (t.out.length - d.out.toNat) (t.out.map (V.int .u8))) false, .int .i64 0, .int .i64 0, .int .i64 0, .int .i64 0, .int .i64 0, .int .i64 0, .bool d.comp, .bool d.halt]) n1 b1 a2
        rw [← hH] at g2_2
        have hdr : ∀ A B Q, xDraw p A B H2 Q → xDraw p A B ((H1 ++ I2).set (T.length + 1 + 1 + 1) (.live [v, v1, v2, V.list [] true, V.list [] true, V.list [] true, V.list (List.take (t.out.length - d.out.toNat) (t.out.map (V.int .u8))) false, .int .i64 0, .int .i64 0, .int .i64 0, .int .i64 0, .int .i64 0, .int .i64 0, .bool d.comp, .bool d.halt])) Q := fun A B Q h => by rw [← hH]; exact h
        simp -dsimp [-wAppend_list, h2, h3, h4, h7, h6, wMut_at p2, x2, y2, u2, sees_set (s1.trans (Sees.app _ I2)) (.inl (show (R2 t d)[T.length + 1 + 1 + 1]? = none by simp))]
        refine hdr _ _ _ ?_
        clear hdr hH
        obtain ⟨m3, hm3⟩ : ∃ m, m = t.ctl.take d.ck.toNat := ⟨_, rfl⟩
        have ml3 : m3.length ≤ 100000 := by rw [hm3]; have := ok.l3.1; simp; omega
        have tl3 := ok.l3.2
        refine WDraw_see (R := R2 t d) (by kernel_rfl) s2 ?_
        simp -dsimp [-wAppend_list, -List.map_take, tk_map, ← hm3, h2, h3, h4, h7, h6, wFix_by, isInl, fillV, splice, wOpt, chunk]
        refine ⟨by omega, by omega, ?_⟩
        refine app_new (m := m3.map (V.int .i64)) (by simp) (by rw [hm3]; simp) (by simp) (by simp) (by decide) (by simp [capOk]; omega) fun w3 J3 a3 => ?_
        refine ⟨s2.trans (Sees.app _ _), ?_⟩
        simp -dsimp [-wAppend_list, h2, h3, h4, h7, h6, wFix_by, isInl, fillV, splice, wOpt, chunk]
        refine app_more (m := d.ct.map (V.int .i64)) a3 (by simp) (by simp) (by simp) (by simp) (by simp [capOk]; omega) fun v3 I3 a3 => ?_
        rw [← List.map_append] at a3
        refine ⟨s2.trans (Sees.app _ _), ?_⟩
        obtain ⟨x3, y3, u3⟩ := has_val (has_ac (H := H2 ++ I3) (b := H2.length) (by rw [List.drop_left]; exact a3))
        have p3 : (H2 ++ I3)[T.length + 1 + 1 + 1]? = some (.live [v, v1, v2, V.list [] true, V.list [] true, V.list [] true, V.list (List.take (t.out.length - d.out.toNat) (t.out.map (V.int .u8))) false, .int .i64 0, .int .i64 0, .int .i64 0, .int .i64 0, .int .i64 0, .int .i64 0, .bool d.comp, .bool d.halt]) := by rw [List.getElem?_append_left n2]; exact q2
        obtain ⟨H3, hH⟩ : ∃ H : List Ob, H = (H2 ++ I3).set (T.length + 1 + 1 + 1) (.live [v, v1, v2, v3, V.list [] true, V.list [] true, V.list (List.take (t.out.length - d.out.toNat) (t.out.map (V.int .u8))) false, .int .i64 0, .int .i64 0, .int .i64 0, .int .i64 0, .int .i64 0, .int .i64 0, .bool d.comp, .bool d.halt]) := ⟨_, rfl⟩
        have s3 : Sees (R2 t d) H3 := by rw [hH]; exact sees_set (s2.trans (Sees.app _ _)) (.inl (by simp))
        have n3 : T.length + 1 + 1 + 1 < H3.length := by rw [hH]; simp; omega
        have b3 : 2 < H3.length := by rw [hH]; simp; omega
        have q3 : H3[T.length + 1 + 1 + 1]? = some (.live [v, v1, v2, v3, V.list [] true, V.list [] true, V.list (List.take (t.out.length - d.out.toNat) (t.out.map (V.int .u8))) false, .int .i64 0, .int .i64 0, .int .i64 0, .int .i64 0, .int .i64 0, .int .i64 0, .bool d.comp, .bool d.halt]) := by rw [hH, List.getElem?_set_self (by simp; omega)]
        have z3 : H3[2]? = some (.live Z15) := by rw [hH, List.getElem?_set_ne (by omega), List.getElem?_append_left b2]; exact z2
        have g3_0 := has_next (J := I3) (x := .live [v, v1, v2, v3, V.list [] true, V.list [] true, V.list (List.take (t.out.length - d.out.toNat) (t.out.map (V.int .u8))) false, .int .i64 0, .int .i64 0, .int .i64 0, .int .i64 0, .int .i64 0, .int .i64 0, .bool d.comp, .bool d.halt]) n2 b2 g2_0
        rw [← hH] at g3_0
        have g3_1 := has_next (J := I3) (x := .live [v, v1, v2, v3, V.list [] true, V.list [] true, V.list (List.take (t.out.length - d.out.toNat) (t.out.map (V.int .u8))) false, .int .i64 0, .int .i64 0, .int .i64 0, .int .i64 0, .int .i64 0, .int .i64 0, .bool d.comp, .bool d.halt]) n2 b2 g2_1
        rw [← hH] at g3_1
        have g3_2 := has_next (J := I3) (x := .live [v, v1, v2, v3, V.list [] true, V.list [] true, V.list (List.take (t.out.length - d.out.toNat) (t.out.map (V.int .u8))) false, .int .i64 0, .int .i64 0, .int .i64 0, .int .i64 0, .int .i64 0, .int .i64 0, .bool d.comp, .bool d.halt]) n2 b2 g2_2
        rw [← hH] at g3_2
        have g3_3 := has_new (m := 2) (x := .live [v, v1, v2, v3, V.list [] true, V.list [] true, V.list (List.take (t.out.length - d.out.toNat) (t.out.map (V.int .u8))) false, .int .i64 0, .int .i64 0, .int .i64 0, .int .i64 0, .int .i64 0, .int .i64 0, .bool d.comp, .bool d.halt]) n2 b2 a3
        rw [← hH] at g3_3
        have hdr : ∀ A B Q, xDraw p A B H3 Q → xDraw p A B ((H2 ++ I3).set (T.length + 1 + 1 + 1) (.live [v, v1, v2, v3, V.list [] true, V.list [] true, V.list (List.take (t.out.length - d.out.toNat) (t.out.map (V.int .u8))) false, .int .i64 0, .int .i64 0, .int .i64 0, .int .i64 0, .int .i64 0, .int .i64 0, .bool d.comp, .bool d.halt])) Q := fun A B Q h => by rw [← hH]; exact h
        simp -dsimp [-wAppend_list, h2, h3, h4, h7, h6, wMut_at p3, x3, y3, u3, sees_set (s2.trans (Sees.app _ I3)) (.inl (show (R2 t d)[T.length + 1 + 1 + 1]? = none by simp))]
        refine hdr _ _ _ ?_
        clear hdr hH
        obtain ⟨m4, hm4⟩ : ∃ m, m = t.words.take d.wk.toNat := ⟨_, rfl⟩
        have ml4 : m4.length ≤ 100000 := by rw [hm4]; have := ok.l4.1; simp; omega
        have tl4 := ok.l4.2
        refine WDraw_see (R := R2 t d) (by kernel_rfl) s3 ?_
        simp -dsimp [-wAppend_list, -List.map_take, tk_map, ← hm4, h2, h3, h4, h7, h6, wFix_by, isInl, fillV, splice, wOpt, chunk]
        refine ⟨by omega, by omega, ?_⟩
        refine app_new (m := m4.map (worV)) (by simp) (by rw [hm4]; simp) (by simp) (by simp) (by decide) (by simp [capOk]; omega) fun w4 J4 a4 => ?_
        refine ⟨s3.trans (Sees.app _ _), ?_⟩
        simp -dsimp [-wAppend_list, h2, h3, h4, h7, h6, wFix_by, isInl, fillV, splice, wOpt, chunk]
        refine app_more (m := d.wt.map (worV)) a4 (by simp) (by simp) (by simp) (by simp) (by simp [capOk]; omega) fun v4 I4 a4 => ?_
        rw [← List.map_append] at a4
        refine ⟨s3.trans (Sees.app _ _), ?_⟩
        obtain ⟨x4, y4, u4⟩ := has_val (has_ac (H := H3 ++ I4) (b := H3.length) (by rw [List.drop_left]; exact a4))
        have p4 : (H3 ++ I4)[T.length + 1 + 1 + 1]? = some (.live [v, v1, v2, v3, V.list [] true, V.list [] true, V.list (List.take (t.out.length - d.out.toNat) (t.out.map (V.int .u8))) false, .int .i64 0, .int .i64 0, .int .i64 0, .int .i64 0, .int .i64 0, .int .i64 0, .bool d.comp, .bool d.halt]) := by rw [List.getElem?_append_left n3]; exact q3
        obtain ⟨H4, hH⟩ : ∃ H : List Ob, H = (H3 ++ I4).set (T.length + 1 + 1 + 1) (.live [v, v1, v2, v3, v4, V.list [] true, V.list (List.take (t.out.length - d.out.toNat) (t.out.map (V.int .u8))) false, .int .i64 0, .int .i64 0, .int .i64 0, .int .i64 0, .int .i64 0, .int .i64 0, .bool d.comp, .bool d.halt]) := ⟨_, rfl⟩
        have s4 : Sees (R2 t d) H4 := by rw [hH]; exact sees_set (s3.trans (Sees.app _ _)) (.inl (by simp))
        have n4 : T.length + 1 + 1 + 1 < H4.length := by rw [hH]; simp; omega
        have b4 : 2 < H4.length := by rw [hH]; simp; omega
        have q4 : H4[T.length + 1 + 1 + 1]? = some (.live [v, v1, v2, v3, v4, V.list [] true, V.list (List.take (t.out.length - d.out.toNat) (t.out.map (V.int .u8))) false, .int .i64 0, .int .i64 0, .int .i64 0, .int .i64 0, .int .i64 0, .int .i64 0, .bool d.comp, .bool d.halt]) := by rw [hH, List.getElem?_set_self (by simp; omega)]
        have z4 : H4[2]? = some (.live Z15) := by rw [hH, List.getElem?_set_ne (by omega), List.getElem?_append_left b3]; exact z3
        have g4_0 := has_next (J := I4) (x := .live [v, v1, v2, v3, v4, V.list [] true, V.list (List.take (t.out.length - d.out.toNat) (t.out.map (V.int .u8))) false, .int .i64 0, .int .i64 0, .int .i64 0, .int .i64 0, .int .i64 0, .int .i64 0, .bool d.comp, .bool d.halt]) n3 b3 g3_0
        rw [← hH] at g4_0
        have g4_1 := has_next (J := I4) (x := .live [v, v1, v2, v3, v4, V.list [] true, V.list (List.take (t.out.length - d.out.toNat) (t.out.map (V.int .u8))) false, .int .i64 0, .int .i64 0, .int .i64 0, .int .i64 0, .int .i64 0, .int .i64 0, .bool d.comp, .bool d.halt]) n3 b3 g3_1
        rw [← hH] at g4_1
        have g4_2 := has_next (J := I4) (x := .live [v, v1, v2, v3, v4, V.list [] true, V.list (List.take (t.out.length - d.out.toNat) (t.out.map (V.int .u8))) false, .int .i64 0, .int .i64 0, .int .i64 0, .int .i64 0, .int .i64 0, .int .i64 0, .bool d.comp, .bool d.halt]) n3 b3 g3_2
        rw [← hH] at g4_2
        have g4_3 := has_next (J := I4) (x := .live [v, v1, v2, v3, v4, V.list [] true, V.list (List.take (t.out.length - d.out.toNat) (t.out.map (V.int .u8))) false, .int .i64 0, .int .i64 0, .int .i64 0, .int .i64 0, .int .i64 0, .int .i64 0, .bool d.comp, .bool d.halt]) n3 b3 g3_3
        rw [← hH] at g4_3
        have g4_4 := has_new (m := 2) (x := .live [v, v1, v2, v3, v4, V.list [] true, V.list (List.take (t.out.length - d.out.toNat) (t.out.map (V.int .u8))) false, .int .i64 0, .int .i64 0, .int .i64 0, .int .i64 0, .int .i64 0, .int .i64 0, .bool d.comp, .bool d.halt]) n3 b3 a4
        rw [← hH] at g4_4
        have hdr : ∀ A B Q, xDraw p A B H4 Q → xDraw p A B ((H3 ++ I4).set (T.length + 1 + 1 + 1) (.live [v, v1, v2, v3, v4, V.list [] true, V.list (List.take (t.out.length - d.out.toNat) (t.out.map (V.int .u8))) false, .int .i64 0, .int .i64 0, .int .i64 0, .int .i64 0, .int .i64 0, .int .i64 0, .bool d.comp, .bool d.halt])) Q := fun A B Q h => by rw [← hH]; exact h
        simp -dsimp [-wAppend_list, h2, h3, h4, h7, h6, wMut_at p4, x4, y4, u4, sees_set (s3.trans (Sees.app _ I4)) (.inl (show (R2 t d)[T.length + 1 + 1 + 1]? = none by simp))]
        refine hdr _ _ _ ?_
        clear hdr hH
        obtain ⟨m5, hm5⟩ : ∃ m, m = t.spots.take d.sk.toNat := ⟨_, rfl⟩
        have ml5 : m5.length ≤ 100000 := by rw [hm5]; have := ok.l5.1; simp; omega
        have tl5 := ok.l5.2
        refine WDraw_see (R := R2 t d) (by kernel_rfl) s4 ?_
        simp -dsimp [-wAppend_list, -List.map_take, tk_map, ← hm5, h2, h3, h4, h7, h6, wFix_by, isInl, fillV, splice, wOpt, chunk]
        refine ⟨by omega, by omega, ?_⟩
        refine app_new (m := m5.map (spoV)) (by simp) (by rw [hm5]; simp) (by simp) (by simp) (by decide) (by simp [capOk]; omega) fun w5 J5 a5 => ?_
        refine ⟨s4.trans (Sees.app _ _), ?_⟩
        simp -dsimp [-wAppend_list, h2, h3, h4, h7, h6, wFix_by, isInl, fillV, splice, wOpt, chunk]
        refine app_more (m := d.st.map (spoV)) a5 (by simp) (by simp) (by simp) (by simp) (by simp [capOk]; omega) fun v5 I5 a5 => ?_
        rw [← List.map_append] at a5
        refine ⟨s4.trans (Sees.app _ _), ?_⟩
        obtain ⟨x5, y5, u5⟩ := has_val (has_ac (H := H4 ++ I5) (b := H4.length) (by rw [List.drop_left]; exact a5))
        have p5 : (H4 ++ I5)[T.length + 1 + 1 + 1]? = some (.live [v, v1, v2, v3, v4, V.list [] true, V.list (List.take (t.out.length - d.out.toNat) (t.out.map (V.int .u8))) false, .int .i64 0, .int .i64 0, .int .i64 0, .int .i64 0, .int .i64 0, .int .i64 0, .bool d.comp, .bool d.halt]) := by rw [List.getElem?_append_left n4]; exact q4
        obtain ⟨H5, hH⟩ : ∃ H : List Ob, H = (H4 ++ I5).set (T.length + 1 + 1 + 1) (.live [v, v1, v2, v3, v4, v5, V.list (List.take (t.out.length - d.out.toNat) (t.out.map (V.int .u8))) false, .int .i64 0, .int .i64 0, .int .i64 0, .int .i64 0, .int .i64 0, .int .i64 0, .bool d.comp, .bool d.halt]) := ⟨_, rfl⟩
        have s5 : Sees (R2 t d) H5 := by rw [hH]; exact sees_set (s4.trans (Sees.app _ _)) (.inl (by simp))
        have n5 : T.length + 1 + 1 + 1 < H5.length := by rw [hH]; simp; omega
        have b5 : 2 < H5.length := by rw [hH]; simp; omega
        have q5 : H5[T.length + 1 + 1 + 1]? = some (.live [v, v1, v2, v3, v4, v5, V.list (List.take (t.out.length - d.out.toNat) (t.out.map (V.int .u8))) false, .int .i64 0, .int .i64 0, .int .i64 0, .int .i64 0, .int .i64 0, .int .i64 0, .bool d.comp, .bool d.halt]) := by rw [hH, List.getElem?_set_self (by simp; omega)]
        have z5 : H5[2]? = some (.live Z15) := by rw [hH, List.getElem?_set_ne (by omega), List.getElem?_append_left b4]; exact z4
        have g5_0 := has_next (J := I5) (x := .live [v, v1, v2, v3, v4, v5, V.list (List.take (t.out.length - d.out.toNat) (t.out.map (V.int .u8))) false, .int .i64 0, .int .i64 0, .int .i64 0, .int .i64 0, .int .i64 0, .int .i64 0, .bool d.comp, .bool d.halt]) n4 b4 g4_0
        rw [← hH] at g5_0
        have g5_1 := has_next (J := I5) (x := .live [v, v1, v2, v3, v4, v5, V.list (List.take (t.out.length - d.out.toNat) (t.out.map (V.int .u8))) false, .int .i64 0, .int .i64 0, .int .i64 0, .int .i64 0, .int .i64 0, .int .i64 0, .bool d.comp, .bool d.halt]) n4 b4 g4_1
        rw [← hH] at g5_1
        have g5_2 := has_next (J := I5) (x := .live [v, v1, v2, v3, v4, v5, V.list (List.take (t.out.length - d.out.toNat) (t.out.map (V.int .u8))) false, .int .i64 0, .int .i64 0, .int .i64 0, .int .i64 0, .int .i64 0, .int .i64 0, .bool d.comp, .bool d.halt]) n4 b4 g4_2
        rw [← hH] at g5_2
        have g5_3 := has_next (J := I5) (x := .live [v, v1, v2, v3, v4, v5, V.list (List.take (t.out.length - d.out.toNat) (t.out.map (V.int .u8))) false, .int .i64 0, .int .i64 0, .int .i64 0, .int .i64 0, .int .i64 0, .int .i64 0, .bool d.comp, .bool d.halt]) n4 b4 g4_3
        rw [← hH] at g5_3
        have g5_4 := has_next (J := I5) (x := .live [v, v1, v2, v3, v4, v5, V.list (List.take (t.out.length - d.out.toNat) (t.out.map (V.int .u8))) false, .int .i64 0, .int .i64 0, .int .i64 0, .int .i64 0, .int .i64 0, .int .i64 0, .bool d.comp, .bool d.halt]) n4 b4 g4_4
        rw [← hH] at g5_4
        have g5_5 := has_new (m := 2) (x := .live [v, v1, v2, v3, v4, v5, V.list (List.take (t.out.length - d.out.toNat) (t.out.map (V.int .u8))) false, .int .i64 0, .int .i64 0, .int .i64 0, .int .i64 0, .int .i64 0, .int .i64 0, .bool d.comp, .bool d.halt]) n4 b4 a5
        rw [← hH] at g5_5
        have hne1 : T.length + 1 + 1 + 1 ≠ 1 := by omega
        have hne2 : T.length + 1 + 1 + 1 ≠ 2 := by omega
        have nX : T.length + 1 + 1 + 1 < (H4 ++ I5).length := by simp; omega
        have bX : ∀ x, 2 < ((H4 ++ I5).set (T.length + 1 + 1 + 1) x).length := fun x => by simp; omega
        have zX : (H4 ++ I5)[2]? = some (.live Z15) := by rw [List.getElem?_append_left b4]; exact z4
        have r1 : ∀ x (K : List V → Prop), wLive ((H4 ++ I5).set (T.length + 1 + 1 + 1) x) 1 K = K (cellsOf (deV d)) := fun x K => by
          rw [wLive_ne hne1]; exact wLive_sees (s4.trans (Sees.app _ I5)) (show (R2 t d)[1]? = some (.live (cellsOf (deV d))) from rfl)
        have r2 : ∀ l (K : List V → Prop), wMut ((H4 ++ I5).set (T.length + 1 + 1 + 1) (.live l)) (T.length + 1 + 1 + 1) K = K l := fun l K => wMut_eq nX
        have r3 : ∀ l (K : List V → Prop), wLive ((H4 ++ I5).set (T.length + 1 + 1 + 1) (.live l)) (T.length + 1 + 1 + 1) K = K l := fun l K => wLive_eq nX
        have r4 : ∀ x (K : List V → Prop), wMut ((H4 ++ I5).set (T.length + 1 + 1 + 1) x) 2 K = K Z15 := fun x K => by
          rw [wMut_ne hne2]; exact wMut_at zX
        have r5 : ∀ x l (K : List V → Prop), wLive (((H4 ++ I5).set (T.length + 1 + 1 + 1) x).set 2 (.live l)) 2 K = K l := fun x l K => wLive_eq (bX x)
        simp -dsimp [-wAppend_list, h2, h3, h4, h7, h6, wMut_at p5, x5, y5, u5, sees_set (s4.trans (Sees.app _ I5)) (.inl (show (R2 t d)[T.length + 1 + 1 + 1]? = none by simp)), r1, r2, r3, r4, r5, u1, u2, u3, u4, uv', Z15, wFix_by, isInl]
        rw [hH, gho_set] at g5_0
        have f0 := has_fin (x := .live [v, v1, v2, v3, v4, v5, V.list (List.take (t.out.length - d.out.toNat) (t.out.map (V.int .u8))) false, .int .i64 d.r0, .int .i64 d.r1, .int .i64 d.r2, .int .i64 d.r3, .int .i64 d.r4, .int .i64 d.r5, .bool d.comp, .bool d.halt]) (y := .live [v, v1, v2, v3, v4, v5, V.list (List.take (t.out.length - d.out.toNat) (t.out.map (V.int .u8))) false, .int .i64 d.r0, .int .i64 d.r1, .int .i64 d.r2, .int .i64 d.r3, .int .i64 d.r4, .int .i64 d.r5, .bool d.comp, .bool d.halt]) g5_0
        rw [hH, gho_set] at g5_1
        have f1 := has_fin (x := .live [v, v1, v2, v3, v4, v5, V.list (List.take (t.out.length - d.out.toNat) (t.out.map (V.int .u8))) false, .int .i64 d.r0, .int .i64 d.r1, .int .i64 d.r2, .int .i64 d.r3, .int .i64 d.r4, .int .i64 d.r5, .bool d.comp, .bool d.halt]) (y := .live [v, v1, v2, v3, v4, v5, V.list (List.take (t.out.length - d.out.toNat) (t.out.map (V.int .u8))) false, .int .i64 d.r0, .int .i64 d.r1, .int .i64 d.r2, .int .i64 d.r3, .int .i64 d.r4, .int .i64 d.r5, .bool d.comp, .bool d.halt]) g5_1
        rw [hH, gho_set] at g5_2
        have f2 := has_fin (x := .live [v, v1, v2, v3, v4, v5, V.list (List.take (t.out.length - d.out.toNat) (t.out.map (V.int .u8))) false, .int .i64 d.r0, .int .i64 d.r1, .int .i64 d.r2, .int .i64 d.r3, .int .i64 d.r4, .int .i64 d.r5, .bool d.comp, .bool d.halt]) (y := .live [v, v1, v2, v3, v4, v5, V.list (List.take (t.out.length - d.out.toNat) (t.out.map (V.int .u8))) false, .int .i64 d.r0, .int .i64 d.r1, .int .i64 d.r2, .int .i64 d.r3, .int .i64 d.r4, .int .i64 d.r5, .bool d.comp, .bool d.halt]) g5_2
        rw [hH, gho_set] at g5_3
        have f3 := has_fin (x := .live [v, v1, v2, v3, v4, v5, V.list (List.take (t.out.length - d.out.toNat) (t.out.map (V.int .u8))) false, .int .i64 d.r0, .int .i64 d.r1, .int .i64 d.r2, .int .i64 d.r3, .int .i64 d.r4, .int .i64 d.r5, .bool d.comp, .bool d.halt]) (y := .live [v, v1, v2, v3, v4, v5, V.list (List.take (t.out.length - d.out.toNat) (t.out.map (V.int .u8))) false, .int .i64 d.r0, .int .i64 d.r1, .int .i64 d.r2, .int .i64 d.r3, .int .i64 d.r4, .int .i64 d.r5, .bool d.comp, .bool d.halt]) g5_3
        rw [hH, gho_set] at g5_4
        have f4 := has_fin (x := .live [v, v1, v2, v3, v4, v5, V.list (List.take (t.out.length - d.out.toNat) (t.out.map (V.int .u8))) false, .int .i64 d.r0, .int .i64 d.r1, .int .i64 d.r2, .int .i64 d.r3, .int .i64 d.r4, .int .i64 d.r5, .bool d.comp, .bool d.halt]) (y := .live [v, v1, v2, v3, v4, v5, V.list (List.take (t.out.length - d.out.toNat) (t.out.map (V.int .u8))) false, .int .i64 d.r0, .int .i64 d.r1, .int .i64 d.r2, .int .i64 d.r3, .int .i64 d.r4, .int .i64 d.r5, .bool d.comp, .bool d.halt]) g5_4
        rw [hH, gho_set] at g5_5
        have f5 := has_fin (x := .live [v, v1, v2, v3, v4, v5, V.list (List.take (t.out.length - d.out.toNat) (t.out.map (V.int .u8))) false, .int .i64 d.r0, .int .i64 d.r1, .int .i64 d.r2, .int .i64 d.r3, .int .i64 d.r4, .int .i64 d.r5, .bool d.comp, .bool d.halt]) (y := .live [v, v1, v2, v3, v4, v5, V.list (List.take (t.out.length - d.out.toNat) (t.out.map (V.int .u8))) false, .int .i64 d.r0, .int .i64 d.r1, .int .i64 d.r2, .int .i64 d.r3, .int .i64 d.r4, .int .i64 d.r5, .bool d.comp, .bool d.halt]) g5_5
        refine frz_has f0 (by simp) (by simp) (.inl ⟨rfl, by simp⟩) fun F1 t1 _ => ?_
        simp -dsimp [-List.map_take, tk_map]
        refine frz_has (has_see t1 f1) (by simp) (by simp) (.inl ⟨rfl, by simp⟩) fun F2 t2 _ => ?_
        have t2 := t1.trans t2
        simp -dsimp [-List.map_take, tk_map]
        refine frz_has (has_see t2 f2) (by simp) (by simp) (.inr ⟨by decide, fun x hx => by obtain ⟨a, _, rfl⟩ := List.mem_map.1 hx; exact ⟨_, rfl⟩⟩) fun F3 t3 _ => ?_
        have t3 := t2.trans t3
        simp -dsimp [-List.map_take, tk_map]
        refine frz_has (has_see t3 f3) (by simp) (by simp) (.inl ⟨rfl, by simp⟩) fun F4 t4 _ => ?_
        have t4 := t3.trans t4
        simp -dsimp [-List.map_take, tk_map]
        refine frz_has (has_see t4 f4) (by simp) (by simp) (.inr ⟨by decide, fun x hx => by obtain ⟨a, _, rfl⟩ := List.mem_map.1 hx; exact ⟨_, rfl⟩⟩) fun F5 t5 _ => ?_
        have t5 := t4.trans t5
        simp -dsimp [-List.map_take, tk_map]
        refine frz_has (has_see t5 f5) (by simp) (by simp) (.inr ⟨by decide, fun x hx => by obtain ⟨a, _, rfl⟩ := List.mem_map.1 hx; exact ⟨_, rfl⟩⟩) fun F6 t6 _ => ?_
        have t6 := t5.trans t6
        simp -dsimp [-List.map_take, tk_map]
        simp only [← List.map_append, hm1, hm2, hm3, hm4, hm5]
        rfl
end Fz.D
set_option maxRecDepth 100000
namespace Fz.D
open Go
def jn {α : Type} (l : List α) (keep : Int) (tail : List α) : List α := if wi keep l.length = true then l.take keep.toNat ++ tail else []
theorem jn_ok {α : Type} {l : List α} {keep : Int} {tail : List α} (h : wi keep l.length = true) : jn l keep tail = l.take keep.toNat ++ tail := if_pos h
theorem jn_int {l tail : List Int} {keep : Int} (h : l.length ≤ 100000 ∧ tail.length ≤ 100000) : Comes p 88 [inV l, .int .i64 keep, inV tail] (.tuple [inV (jn l keep tail), .bool (wi keep l.length)]) := by
  have := joined_int (l := l) (tail := tail) (keep := keep) (by omega) (by omega)
  by_cases hc : 0 ≤ keep ∧ keep ≤ l.length
  · have hw : wi keep l.length = true := by unfold wi; exact decide_eq_true hc
    rw [if_pos hc] at this
    rw [jn_ok hw, hw]; exact this
  · have hw : wi keep l.length = false := by unfold wi; exact decide_eq_false hc
    rw [if_neg hc] at this
    unfold jn
    rw [hw]; exact this
theorem jn_slo {l tail : List Slo} {keep : Int} (h : l.length ≤ 100000 ∧ tail.length ≤ 100000) : Comes p 89 [slosV l, .int .i64 keep, slosV tail] (.tuple [slosV (jn l keep tail), .bool (wi keep l.length)]) := by
  have := joined_slo (l := l) (tail := tail) (keep := keep) (by omega) (by omega)
  by_cases hc : 0 ≤ keep ∧ keep ≤ l.length
  · have hw : wi keep l.length = true := by unfold wi; exact decide_eq_true hc
    rw [if_pos hc] at this
    rw [jn_ok hw, hw]; exact this
  · have hw : wi keep l.length = false := by unfold wi; exact decide_eq_false hc
    rw [if_neg hc] at this
    unfold jn
    rw [hw]; exact this
theorem jn_wor {l tail : List Wor} {keep : Int} (h : l.length ≤ 100000 ∧ tail.length ≤ 100000) : Comes p 90 [worsV l, .int .i64 keep, worsV tail] (.tuple [worsV (jn l keep tail), .bool (wi keep l.length)]) := by
  have := joined_wor (l := l) (tail := tail) (keep := keep) (by omega) (by omega)
  by_cases hc : 0 ≤ keep ∧ keep ≤ l.length
  · have hw : wi keep l.length = true := by unfold wi; exact decide_eq_true hc
    rw [if_pos hc] at this
    rw [jn_ok hw, hw]; exact this
  · have hw : wi keep l.length = false := by unfold wi; exact decide_eq_false hc
    rw [if_neg hc] at this
    unfold jn
    rw [hw]; exact this
theorem jn_spo {l tail : List Spo} {keep : Int} (h : l.length ≤ 100000 ∧ tail.length ≤ 100000) : Comes p 91 [sposV l, .int .i64 keep, sposV tail] (.tuple [sposV (jn l keep tail), .bool (wi keep l.length)]) := by
  have := joined_spo (l := l) (tail := tail) (keep := keep) (by omega) (by omega)
  by_cases hc : 0 ≤ keep ∧ keep ≤ l.length
  · have hw : wi keep l.length = true := by unfold wi; exact decide_eq_true hc
    rw [if_pos hc] at this
    rw [jn_ok hw, hw]; exact this
  · have hw : wi keep l.length = false := by unfold wi; exact decide_eq_false hc
    rw [if_neg hc] at this
    unfold jn
    rw [hw]; exact this
def BS (t : St) (d : De) (v : V) : List V := [v, inV (jn t.data d.dk d.dt), slosV (jn t.ret d.rk d.rt), inV (jn t.ctl d.ck d.ct), worsV (jn t.words d.wk d.wt), sposV (jn t.spots d.sk d.st), byV t.out, .int .i64 t.ip, .int .i64 t.here, .int .i64 t.at_, .int .i64 t.tok, .int .i64 t.in_, .int .i64 t.err, .bool t.comp, .bool t.halt]
def BH (t : St) (d : De) (v : V) (T : List Ob) : List Ob := .live (cellsOf (stV t)) :: .live (cellsOf (deV d)) :: .live Z15 :: .live [.bool true, .bool true, .bool true, .bool true, .bool true, .bool true] :: .live (BS t d v) :: T
theorem applied_s {t : St} {d : De} (ok : BkOk t d) : Comes p 37 [stV t, deV d] (backV t d) := by
  have tm := ok.tm
  have dm := ok.dm
  have c1 := jn_int (keep := d.dk) ok.l1
  have c2 := jn_slo (keep := d.rk) ok.l2
  have c3 := jn_int (keep := d.ck) ok.l3
  have c4 := jn_wor (keep := d.wk) ok.l4
  have c5 := jn_spo (keep := d.sk) ok.l5
  refine Comes_of w37 rfl rfl k37 ?_ ?_ ?_ ?_
  · simp
  · simp
  · unfold backV; split <;> simp
  · simp -dsimp [-wAppend_list, w37, wFix_by, isInl]
    refine clone_list (by omega) fun v T ha => ?_
    obtain ⟨xv, yv, sv⟩ := acc_val ha
    by_cases o1 : ¬ 0 ≤ d.out
    · have w5 : wi d.out t.out.length = false := by unfold wi; exact decide_eq_false (by omega)
      have hf : fitsB t d = false := by unfold fitsB restOk; rw [w5]; simp
      simp -dsimp [-wAppend_list, xv, yv, sv, call_by c1, call_by c2, call_by c3, call_by c4, call_by c5, o1]
      refine contains_call (l := [wi d.dk t.data.length, wi d.rk t.ret.length, wi d.ck t.ctl.length, wi d.wk t.words.length, wi d.sk t.spots.length, false]) (by rfl) (by simp) ?_
      simp -dsimp [wFix_by, isInl, backV, hf]
      rfl
    rw [Classical.not_not] at o1
    have w5 : decide (d.out ≤ (t.out.length : Int)) = wi d.out t.out.length := by unfold wi; simp [o1]
    simp -dsimp [-wAppend_list, xv, yv, sv, call_by c1, call_by c2, call_by c3, call_by c4, call_by c5, o1, w5]
    refine contains_call (l := [wi d.dk t.data.length, wi d.rk t.ret.length, wi d.ck t.ctl.length, wi d.wk t.words.length, wi d.sk t.spots.length, wi d.out t.out.length]) (by rfl) (by simp) ?_
    cases hrest : restOk t d with
    | false =>
      have hf : fitsB t d = false := by unfold fitsB; rw [hrest]; simp
      have ha : [wi d.dk t.data.length, wi d.rk t.ret.length, wi d.ck t.ctl.length, wi d.wk t.words.length, wi d.sk t.spots.length, wi d.out t.out.length].all id = false := by
        unfold restOk at hrest
        simpa using hrest
      rw [ha]
      simp -dsimp [wFix_by, isInl, backV, hf]
      rfl
    | true =>
      have hal : [wi d.dk t.data.length, wi d.rk t.ret.length, wi d.ck t.ctl.length, wi d.wk t.words.length, wi d.sk t.spots.length, wi d.out t.out.length].all id = true := by
        unfold restOk at hrest
        simpa using hrest
      have hrest' := hrest
      unfold restOk at hrest'
      simp only [Bool.and_eq_true] at hrest'
      obtain ⟨k1, k2, k3, k4, k5, k6⟩ := hrest'
      rw [hal]
      simp -dsimp [-wAppend_list, k1, k2, k3, k4, k5, k6]
      refine xL_by (by kernel_rfl) (fun k e H => ∃ (i : Nat) (T : List Ob), i ≤ d.mem.length ∧ k = d.mem.length - i ∧ e 2 = .ptr 0 0 ∧ e 3 = .ptr 1 0 ∧ e 4 = .ptr 2 0 ∧ e 7 = .ptr 4 0 ∧ e 102 = runsV d.mem ∧ e 103 = .int .i64 d.mem.length ∧ e 104 = .int .i64 i ∧ H = BH t d v T ∧ Acc 1 5 T v (((d.mem.take i).foldl patch t.mem).map (V.int .u8)) ∧ (d.mem.take i).all (runOk t.mem.length) = true) d.mem.length ?_ ?_
      · refine ⟨0, T, by omega, rfl, ?_⟩
        simp -dsimp [BH, BS, Z15, k1, k2, k3, k4, k5, k6]
        exact ha
      clear ha T
      rintro k e H ⟨i, T, hi, hk, h2, h3, h4, h7, h102, h103, h104, rfl, ha, hall⟩
      have hml : ((d.mem.take i).foldl patch t.mem).length = t.mem.length := fold_len _ _ rfl hall
      by_cases c1 : i < d.mem.length
      · have g1 : d.mem[i]?.getD default = d.mem[i] := by simp [c1]
        have hb := ok.db d.mem[i] (List.getElem_mem c1)
        have w2 : IntKind.i64.wrap ((i : Int) + 1) = ((i + 1 : Nat) : Int) := by rw [Fz.w64 (by omega) (by omega)]; omega
        have q := all_take (f := runOk t.mem.length) c1
        have hstep : (d.mem.take (i + 1)).foldl patch t.mem = patch ((d.mem.take i).foldl patch t.mem) d.mem[i] := by
          rw [List.take_succ_eq_append_getElem c1, List.foldl_append]; rfl
        have bad : runOk t.mem.length d.mem[i] = false → fitsB t d = false := fun h => by
          have := all_false (n := d.mem.length) c1 c1 h
          rw [List.take_length] at this
          unfold fitsB
          rw [this]; rfl
        generalize (d.mem.take i).foldl patch t.mem = m at *
        obtain ⟨r, hrr⟩ : ∃ r, r = d.mem[i] := ⟨_, rfl⟩
        rw [← hrr] at g1 hb bad hstep q
        have alen := fun K => acc_len ha (K := K)
        rw [List.length_map] at alen
        by_cases c3 : r.at_ < 0
        · have hf := bad (by unfold runOk wi; simp; omega)
          simp -dsimp [BH, BS, Z15, h2, h3, h4, h7, h102, h103, h104, c1, c3, ← hrr, wFix_by, isInl, backV, hf]
          rfl
        by_cases c4 : (m.length : Int) < r.at_
        · have hf := bad (by unfold runOk wi; simp; omega)
          simp -dsimp [BH, BS, Z15, h2, h3, h4, h7, h102, h103, h104, c1, c3, c4, ← hrr, alen, wFix_by, isInl, backV, hf]
          rfl
        have w5 : IntKind.i64.wrap ((m.length : Int) - r.at_) = (m.length : Int) - r.at_ := Fz.w64 (by omega) (by omega)
        by_cases c5 : (m.length : Int) - r.at_ < r.b.length
        · have hf := bad (by unfold runOk wi; simp; omega)
          simp -dsimp [BH, BS, Z15, h2, h3, h4, h7, h102, h103, h104, c1, c3, c4, c5, w5, ← hrr, alen, wFix_by, isInl, backV, hf]
          rfl
        have hr : runOk t.mem.length r = true := by unfold runOk wi; simp; omega
        have hr' : runOk m.length r = true := by rw [hml]; exact hr
        have hfin : ∀ T', Acc 1 5 T' v ((patch m r).map (V.int .u8)) → ∃ k', k' < k ∧ ∃ (i' : Nat) (T : List Ob), i' ≤ d.mem.length ∧ k' = d.mem.length - i' ∧ i' = i + 1 ∧ T = T' ∧ Acc 1 5 T v (((d.mem.take i').foldl patch t.mem).map (V.int .u8)) ∧ (d.mem.take i').all (runOk t.mem.length) = true := fun T' h =>
          ⟨d.mem.length - (i + 1), by omega, i + 1, T', by omega, rfl, rfl, rfl, by rw [hstep]; exact h, by rw [q, hall, hr]; rfl⟩
        simp -dsimp [BH, BS, h2, h3, h4, h7, h102, h103, h104, c1, c3, c4, c5, w5, ← hrr, alen]
        have ha' := ha
        obtain ⟨u1, u2, u3⟩ := ha'
        rcases u3 with ⟨u3, rfl⟩ | ⟨j, rfl, hj⟩
        · have hm0 : m = [] := by simpa using u3
          subst hm0
          simp -dsimp
          rw [List.length_nil] at c4 c5
          refine ⟨by omega, by omega, ?_⟩
          have hb0 : r.b = [] := List.length_eq_zero_iff.1 (by omega)
          have hp : patch [] r = [] := by simp [patch, hb0]
          simp -dsimp [h104, w2]
          refine ⟨d.mem.length - (i + 1), by omega, i + 1, T ++ [.live [.int .i64 r.at_, byV r.b]], by omega, rfl, ?_⟩
          rw [hstep, hp, q, hall, hr]
          simp -dsimp [BH, BS, h2, h3, h4, h7, h102, h103]
          exact acc_ext ha _
        · rw [flat_int] at hj
          simp -dsimp
          refine ⟨by omega, by omega, ?_⟩
          have e5 : 5 + j = j + 1 + 1 + 1 + 1 + 1 := by omega
          have hjT := (List.getElem?_eq_some_iff.1 hj).1
          by_cases c6 : m.length = r.at_.toNat ∧ 0 < r.at_
          · have hb0 : r.b = [] := List.length_eq_zero_iff.1 (by omega)
            have hp : patch m r = m := by simp [patch, hb0]
            simp -dsimp [h104, w2, c6]
            refine ⟨d.mem.length - (i + 1), by omega, i + 1, T ++ [.live [.int .i64 r.at_, byV r.b]], by omega, rfl, ?_⟩
            rw [hstep, hp, q, hall, hr]
            simp -dsimp [BH, BS, h2, h3, h4, h7, h102, h103]
            simpa using acc_ext ha _
          · have ct : Nat.min r.b.length (m.length - r.at_.toNat) = r.b.length := Nat.min_eq_left (by omega)
            have ct2 : min r.b.length (m.length - r.at_.toNat) = r.b.length := Nat.min_eq_left (by omega)
            rw [if_neg c6]
            simp -dsimp [h104, w2, e5, wMut_app hj, ct, ct2]
            refine ⟨by omega, ?_⟩
            refine ⟨d.mem.length - (i + 1), by omega, i + 1, (T ++ [Ob.live [.int .i64 r.at_, byV r.b]]).set j (.live ((patch m r).map (V.int .u8))), by omega, rfl, ?_⟩
            rw [hstep, q, hall, hr]
            have hpl := patch_len hr'
            have hset : (T ++ [Ob.live [.int .i64 r.at_, byV r.b]]).set j (.live ((patch m r).map (V.int .u8))) = (T.set j (.live ((patch m r).map (V.int .u8)))) ++ [.live [.int .i64 r.at_, byV r.b]] := List.set_append_left _ _ hjT
            rw [hset]
            simp -dsimp [BH, BS, h2, h3, h4, h7, h102, h103]
            have hpat : List.take r.at_.toNat (m.map (V.int .u8)) ++ (List.take (Nat.min r.b.length (m.length - r.at_.toNat)) (r.b.map (V.int .u8)) ++ List.drop (r.at_.toNat + min r.b.length (m.length - r.at_.toNat)) (m.map (V.int .u8))) = (patch m r).map (V.int .u8) := by
              rw [ct, ct2, show List.take r.b.length (r.b.map (V.int .u8)) = r.b.map (V.int .u8) from List.take_of_length_le (by simp)]
              simp [patch]
            rw [hpat]
            refine ⟨hset, ?_⟩
            refine acc_ext ⟨by simp, u2, .inr ⟨j, by simp [hpl], ?_⟩⟩ _
            rw [List.getElem?_set_self hjT, flat_int]
      · have hii : i = d.mem.length := by omega
        subst hii
        rw [List.take_length] at ha hall hml
        have hf : fitsB t d = true := by unfold fitsB; rw [hall, hrest]; rfl
        have k6' : 0 ≤ d.out ∧ d.out ≤ t.out.length := by simpa [wi] using k6
        have hto := ok.to
        have wo : IntKind.i64.wrap ((t.out.length : Int) - d.out) = ((t.out.length - d.out.toNat : Nat) : Int) := by rw [Fz.w64 (by omega) (by omega)]; omega
        simp -dsimp [BH, BS, Z15, h2, h3, h4, h7, h102, h103, h104, wo]
        refine WDraw_see (R := R2 t d) (by kernel_rfl) (by simp) ?_
        simp -dsimp [h2, h3, h4, h7]
        refine WDraw_see (R := R2 t d) (by kernel_rfl) (by simp) ?_
        simp -dsimp [h2, h3, h4, h7, xv, yv, sv, wFix_by, isInl, backV, hf]
        refine frz_acc 5 (k := 9) ha (by simp) (.inl ⟨rfl, by simp⟩) fun H' _ _ => ?_
        simp -dsimp [-List.map_take, tk_map, jn_ok k1, jn_ok k2, jn_ok k3, jn_ok k4, jn_ok k5, backS]
        rfl
end Fz.D
set_option maxRecDepth 100000
namespace Fz.D
open Go
end Fz.D
set_option maxRecDepth 100000
namespace Fz.D
open Go
theorem eta2 {α β : Type} (x : α × β) : x = (x.1, x.2) := rfl
structure Rs where
  b : List Int
  e : Int
deriving Inhabited
def leadK : Nat → List Int → Nat
  | 0, _ => 0
  | _ + 1, [] => 0
  | k + 1, x :: l => if 128 ≤ x then leadK k l + 1 else 0
def lead (b : List Int) : Nat := leadK 10 b
theorem leadK_go {b : List Int} {i k : Nat} (h : i < b.length) (hx : 128 ≤ b[i]) : leadK (k + 1) (b.drop i) = leadK k (b.drop (i + 1)) + 1 := by
  rw [List.drop_eq_getElem_cons h, leadK, if_pos hx]
theorem leadK_stop {b : List Int} {i k : Nat} (h : i < b.length) (hx : ¬ 128 ≤ b[i]) : leadK k (b.drop i) = 0 := by
  cases k with
  | zero => simp [leadK]
  | succ k => rw [List.drop_eq_getElem_cons h, leadK, if_neg hx]
theorem leadK_end {b : List Int} {i k : Nat} (h : ¬ i < b.length) : leadK k (b.drop i) = 0 := by
  rw [List.drop_eq_nil_of_le (by omega)]
  cases k <;> simp [leadK]
def endsF (b : List Int) : Nat × Int :=
  if (0 < b.length ∧ gt b 0 = 128) ∨ lead b = 10 then (0, 2) else if lead b = b.length then (0, 3) else if lead b = 9 ∧ 129 < gt b 0 then (0, 2) else (lead b + 1, 0)
def val1 (v c : Int) : Int := (v * 128 + c % 128) % 18446744073709551616
def valU (l : List Int) : Int := l.foldl val1 0
theorem valU_rng (l : List Int) : 0 ≤ valU l ∧ valU l < 18446744073709551616 := by
  unfold valU
  have : ∀ (l : List Int) (v : Int), 0 ≤ v ∧ v < 18446744073709551616 → 0 ≤ l.foldl val1 v ∧ l.foldl val1 v < 18446744073709551616 := by
    intro l
    induction l with
    | nil => intro v h; exact h
    | cons c l ih => intro v _; rw [List.foldl_cons]; exact ih _ (by unfold val1; omega)
  exact this l 0 (by omega)
def unzz (x : Int) : Int := if x % 2 = 0 then x / 2 else -(x / 2) - 1
theorem unzz_rng {x : Int} (h : 0 ≤ x ∧ x < 18446744073709551616) : i64 (unzz x) := by unfold unzz i64; split <;> omega
def rd (lo hi : Int) (s : Rs) : Rs × Int :=
  if s.e ≠ 0 then (s, 0) else if (endsF s.b).2 ≠ 0 then (⟨s.b, (endsF s.b).2⟩, 0) else
    if unzz (valU (s.b.take (endsF s.b).1)) < lo ∨ hi < unzz (valU (s.b.take (endsF s.b).1)) then (⟨s.b.drop (endsF s.b).1, 2⟩, 0) else (⟨s.b.drop (endsF s.b).1, 0⟩, unzz (valU (s.b.take (endsF s.b).1)))
def rdT (most : Int) (s : Rs) : Rs × List Int :=
  if (rd 0 most s).1.e ≠ 0 then ((rd 0 most s).1, []) else if ((rd 0 most s).1.b.length : Int) < (rd 0 most s).2 then (⟨(rd 0 most s).1.b, 3⟩, []) else
    (⟨(rd 0 most s).1.b.drop (rd 0 most s).2.toNat, 0⟩, (rd 0 most s).1.b.take (rd 0 most s).2.toNat)
def endR (s : Rs) : Int := if s.e = 0 ∧ 0 < s.b.length then 2 else s.e
theorem lead_le (b : List Int) : lead b ≤ 10 ∧ lead b ≤ b.length := by
  have : ∀ (k : Nat) (b : List Int), leadK k b ≤ k ∧ leadK k b ≤ b.length := by
    intro k
    induction k with
    | zero => intro b; simp [leadK]
    | succ k ih =>
      intro b
      cases b with
      | nil => simp [leadK]
      | cons x l =>
        have := ih l
        rw [leadK]
        split <;> simp <;> omega
  exact this 10 b
theorem ends_le (b : List Int) : (endsF b).1 ≤ 10 ∧ (endsF b).1 ≤ b.length := by
  have := lead_le b
  unfold endsF
  split
  · simp
  · split
    · simp
    · split
      · simp
      · rename_i h1 h2 _
        simp only
        omega
theorem ends_e (b : List Int) : (endsF b).2 = 0 ∨ (endsF b).2 = 2 ∨ (endsF b).2 = 3 := by
  unfold endsF
  split
  · simp
  · split
    · simp
    · split <;> simp
theorem ends_z {b : List Int} (h : (endsF b).2 ≠ 0) : (endsF b).1 = 0 := by
  unfold endsF at h ⊢
  split at h
  · rename_i c; rw [if_pos c]
  · rename_i c; rw [if_neg c]
    split at h
    · rename_i c; rw [if_pos c]
    · rename_i c; rw [if_neg c]
      split at h
      · rename_i c; rw [if_pos c]
      · simp at h
theorem Does_of {p : AP} {f : FuncId} {l gs : List V} {v : V} {l' : List V} (hi : p.inlY f = true) (h1 : groundL l = true) (h2 : groundL gs = true) (h3 : ground v = true) (h4 : groundL l' = true)
    (h : WFun p f (.ptr 0 0 :: gs) [.live l] fun r H => r = .ret v ∧ ∃ Hx, H = .live l' :: Hx) : Does p f l gs v l' := by
  obtain ⟨n, r, H, e, rfl, Hx, rfl⟩ := h
  exact ⟨hi, h1, h2, h3, h4, n, Hx, e⟩
theorem err_s (b : List Int) (e : Int) : Does p 75 [byV b, .int .i64 e] [] (.int .i64 e) [byV b, .int .i64 e] := by
  refine Does_of (by kernel_rfl) (by simp) rfl rfl (by simp) ?_
  refine WFun_of w75 rfl rfl k75 ?_
  simp -dsimp [w75]
theorem new_s (b : List Int) {H : List Ob} {Q : CR → List Ob → Prop} (hq : Q (.ret (.ptr H.length 0)) (H ++ [.live [byV b, .int .i64 0]])) : xCall p 30 [byV b] H Q := by
  have h0 : refsL [byV b] = [] := groundL_refs _ (by simp)
  refine WCall_inl (by kernel_rfl) (ids := []) (by rw [h0]; rfl) ?_
  rw [groundL_ren _ [byV b] (by simp)]
  refine WFun_of w30 rfl rfl k30 ?_
  simp -dsimp [w30]
  have ra : ∀ g, ren g (byV b) = byV b := fun g => ground_ren g _ (byV.gd b)
  simpa [renR, ren, renL, backH, crV, refs, refsL, setAll, renOb, backK, ra] using hq
theorem ends_s (b : List Int) (e : Int) (hb : b.length ≤ 10000000) : Does p 105 [byV b, .int .i64 e] [] (.tuple [.int .i64 (endsF b).1, .int .i64 (endsF b).2]) [byV b, .int .i64 e] := by
  refine Does_of (by kernel_rfl) (by simp) rfl rfl (by simp) ?_
  refine WFun_of w105 rfl rfl k105 ?_
  simp -dsimp [w105]
  refine xL_by (by kernel_rfl) (fun k ee H => ∃ i : Nat, i ≤ b.length ∧ (i < 10) ∧ k = b.length - i ∧ ee 0 = .ptr 0 0 ∧ ee 9 = byV b ∧ ee 10 = .int .i64 b.length ∧ ee 11 = .int .i64 i ∧ H = [.live [byV b, .int .i64 e]] ∧ lead b = i + leadK (10 - i) (b.drop i) ∧ (i = 0 ∨ gt b 0 ≠ 128)) b.length ?_ ?_
  · refine ⟨0, by omega, by omega, rfl, ?_⟩
    simp -dsimp [lead]
  · rintro k ee H ⟨i, hi, hi10, hk, h0, h9, h10, h11, rfl, hl, hn⟩
    by_cases c1 : i < b.length
    · have g1 : b[i]?.getD default = b[i] := by simp [c1]
      have g2 : b[i] = gt b i := gt_at c1
      have w2 : IntKind.i64.wrap ((i : Int) + 1) = ((i + 1 : Nat) : Int) := by rw [Fz.w64 (by omega) (by omega)]; omega
      have cz : decide ((i : Int) = 0) = decide (i = 0) := decide_eq_decide.2 (by omega)
      have c9 : decide ((i : Int) = 9) = decide (i = 9) := decide_eq_decide.2 (by omega)
      have hg0 : 0 < b.length := by omega
      have g0 : b[0] = gt b 0 := gt_at hg0
      have w1 : IntKind.i64.wrap 1 = 1 := Fz.w64 (by omega) (by omega)
      have w10 : IntKind.i64.wrap 10 = 10 := Fz.w64 (by omega) (by omega)
      by_cases d1 : i = 0 ∧ gt b i = 128
      · obtain ⟨d1, d1'⟩ := d1
        subst d1
        have hE : endsF b = (0, 2) := by
          unfold endsF
          rw [if_pos (.inl ⟨hg0, d1'⟩)]
        rw [hE]
        simp -dsimp [h0, h9, h10, h11, c1, g2, w2, d1', hg0]
      have n0 : gt b 0 ≠ 128 ∨ i = 0 := by omega
      have f1 : (decide (i = 0) && decide (gt b i = 128)) = false := by simp; omega
      by_cases d2 : gt b i < 128
      · have hlead : lead b = i := by rw [hl, leadK_stop c1 (by rw [g2]; omega)]; rfl
        have d2' : ¬ 128 ≤ gt b i := by omega
        have hne : gt b 0 ≠ 128 := by
          rcases hn with h | h
          · subst h; omega
          · exact h
        by_cases d3 : i = 9
        · subst d3
          by_cases d4 : 129 < gt b 0
          · have hE : endsF b = (0, 2) := by
              unfold endsF
              rw [if_neg (by rw [hlead]; omega), if_neg (by rw [hlead]; omega), if_pos ⟨hlead, d4⟩]
            rw [hE]
            simp -dsimp [h0, h9, h10, h11, c1, g2, w2, d2, d2', d4, g0, w1, w10, hg0]
            try omega
          · have hE : endsF b = (10, 0) := by
              unfold endsF
              rw [if_neg (by rw [hlead]; omega), if_neg (by rw [hlead]; omega), if_neg (by omega), hlead]
            rw [hE]
            simp -dsimp [h0, h9, h10, h11, c1, g2, w2, d2, d2', d4, g0, w1, w10, hg0]
            try omega
        · have hE : endsF b = (i + 1, 0) := by
            unfold endsF
            rw [if_neg (by rw [hlead]; omega), if_neg (by rw [hlead]; omega), if_neg (by omega), hlead]
          rw [hE]
          by_cases d5 : i = 0
          · subst d5
            have d6 : ¬ gt b 0 = 128 := hne
            simp -dsimp [h0, h9, h10, h11, c1, g2, w2, d2, d2', d6, w1, hg0]
          · have d5' : ¬ (i : Int) = 0 := by omega
            have d3' : ¬ (i : Int) = 9 := by omega
            simp -dsimp [h0, h9, h10, h11, c1, g2, w2, d2, d2', d3, d3', d5, d5', hg0]
      · have d2' : 128 ≤ gt b i := by omega
        have hgo := leadK_go (k := 9 - i) c1 (by rw [g2]; exact d2')
        rw [show 9 - i + 1 = 10 - i from by omega] at hgo
        by_cases d3 : i = 9
        · subst d3
          have hlead : lead b = 10 := by rw [hl, hgo]; simp [leadK]
          have hE : endsF b = (0, 2) := by
            unfold endsF
            rw [if_pos (.inr hlead)]
          rw [hE]
          simp -dsimp [h0, h9, h10, h11, c1, g2, w2, d2, d2', hg0]
          try omega
        · have d3' : ¬ (i : Int) = 9 := by omega
          have hnx : i + 1 = 0 ∨ gt b 0 ≠ 128 := by
            rcases hn with h | h
            · subst h; right; omega
            · exact .inr h
          have hl' : lead b = i + 1 + leadK (10 - (i + 1)) (b.drop (i + 1)) := by
            rw [hl, hgo, show 10 - (i + 1) = 9 - i from by omega]; omega
          by_cases d5 : i = 0
          · subst d5
            have d6 : ¬ gt b 0 = 128 := by omega
            simp -dsimp [h0, h9, h10, h11, c1, g2, w2, d2, d2', d6, w1, hg0]
            refine ⟨b.length - 1, by omega, 1, by omega, by omega, rfl, ?_⟩
            simp -dsimp [h0, h9, h10]
            exact ⟨by rw [← List.drop_one]; exact hl', d6⟩
          · have d5' : ¬ (i : Int) = 0 := by omega
            simp -dsimp [h0, h9, h10, h11, c1, g2, w2, d2, d2', d3, d3', d5, d5', hg0]
            refine ⟨b.length - (i + 1), by omega, i + 1, by omega, by omega, rfl, ?_⟩
            simp -dsimp [h0, h9, h10]
            rw [show 10 - (i + 1) = 9 - i from by omega] at hl'
            exact ⟨hl', by omega⟩
    · have hii : i = b.length := by omega
      subst hii
      have hlead : lead b = b.length := by rw [hl, leadK_end (by omega)]; rfl
      have hE : endsF b = (0, 3) := by
        unfold endsF
        rw [if_neg (by omega), if_pos hlead]
      rw [hE]
      simp -dsimp [h0, h9, h10, h11]
end Fz.D
set_option maxRecDepth 100000
namespace Fz.D
open Go
theorem does_go {p : AP} {f : FuncId} {l gs : List V} {v : V} {l' : List V} {H : List Ob} {i : Nat} {Q : CR → List Ob → Prop} (h : Does p f l gs v l') (hi : H[i]? = some (.live l)) (hq : Q (.ret v) (H.set i (.live l'))) : xCall p f (.ptr i 0 :: gs) H Q := by
  show WCall p f (.ptr i 0 :: gs) H Q
  rw [WCall_does h hi]; exact hq
theorem shl_or (v c : Int) (hv : 0 ≤ v) (hc : 0 ≤ c) (hc2 : c < 128) : IntKind.u64.wrap ((((IntKind.u64.wrap (v * 2 ^ min 7 IntKind.u64.bits) % 2 ^ IntKind.u64.bits).toNat ||| (c % 2 ^ IntKind.u64.bits).toNat : Nat)) : Int) = (v * 128 + c) % 18446744073709551616 := by
  have b1 : (2 : Int) ^ min 7 IntKind.u64.bits = 128 := by decide
  have b2 : (2 : Int) ^ IntKind.u64.bits = 18446744073709551616 := by decide
  have w : ∀ a : Int, IntKind.u64.wrap a = a % 18446744073709551616 := fun a => rfl
  rw [b1, b2]
  simp only [w]
  obtain ⟨q, hq⟩ : ∃ q : Nat, (v * 128 % 18446744073709551616 % 18446744073709551616).toNat = q * 128 := ⟨((v * 128 % 18446744073709551616).toNat / 128), by omega⟩
  have hc' : (c % 18446744073709551616).toNat = c.toNat := by omega
  rw [hq, hc']
  have e2 : q * 128 ||| c.toNat = q * 128 + c.toNat := by
    have := Nat.two_pow_add_eq_or_of_lt (i := 7) (b := c.toNat) (by omega) q
    rw [show (2 : Nat) ^ 7 * q = q * 128 from by omega] at this
    exact this.symm
  rw [e2]
  omega
theorem unzz_bits (x : Int) (h0 : 0 ≤ x) (h1 : x < 18446744073709551616) : IntKind.i64.wrap (IntKind.u64.wrap ((((x.fdiv (2 ^ min 1 IntKind.u64.bits)) % 2 ^ IntKind.u64.bits).toNat ^^^ (IntKind.u64.wrap (-IntKind.u64.wrap (((x % 2 ^ IntKind.u64.bits).toNat &&& 1 % 2 ^ IntKind.u64.bits : Nat)) : Int) % 2 ^ IntKind.u64.bits).toNat : Nat))) = unzz x := by
  have b1 : (2 : Int) ^ min 1 IntKind.u64.bits = 2 := by decide
  have b2 : (2 : Int) ^ IntKind.u64.bits = 18446744073709551616 := by decide
  have b3 : 1 % 2 ^ IntKind.u64.bits = 1 := by decide
  have w : ∀ a : Int, IntKind.u64.wrap a = a % 18446744073709551616 := fun a => rfl
  rw [b1, b2, b3]
  simp only [w]
  have f : x.fdiv 2 = x / 2 := Int.fdiv_eq_ediv_of_nonneg _ (by omega)
  have e1 : (x % 18446744073709551616).toNat &&& 1 = (x % 2).toNat := by rw [Nat.and_one_is_mod]; omega
  have e2 : (x.fdiv 2 % 18446744073709551616).toNat = (x / 2).toNat := by rw [f]; omega
  rw [e1, e2]
  unfold unzz
  split
  · rename_i h
    rw [h]
    have e3 : ((-(((0 : Int).toNat : Nat) : Int) % 18446744073709551616) % 18446744073709551616 % 18446744073709551616).toNat = 0 := by decide
    have e4 : ((-((((0 : Int).toNat : Nat) : Int) % 18446744073709551616)) % 18446744073709551616 % 18446744073709551616).toNat = 0 := by decide
    rw [e4, Nat.xor_zero, Fz.w64 (by omega) (by omega)]
    omega
  · rename_i h
    have h1 : x % 2 = 1 := by omega
    rw [h1]
    have e4 : ((-((((1 : Int).toNat : Nat) : Int) % 18446744073709551616)) % 18446744073709551616 % 18446744073709551616).toNat = 18446744073709551615 := by decide
    rw [e4, xor_ones (by omega)]
    have e5 : ((18446744073709551615 - (x / 2).toNat : Nat) : Int) % 18446744073709551616 = 18446744073709551615 - x / 2 := by omega
    rw [e5]
    rw [IntKind.wrap_i64]
    omega
theorem num1_s {bb : List Int} {nv er : Int} {K : Bool → List Ob → Prop} (hk : K false [.live [byV bb, .int .i64 er], .live [.ptr 0 0], .live [.int .i64 (if er = 0 then nv else 0)], .live [.int .i64 er]]) :
    WDef p (.fn (.func 106) [] [.ptr 3 0, .ptr 1 0, .ptr 2 0]) none [.live [byV bb, .int .i64 0], .live [.ptr 0 0], .live [.int .i64 nv], .live [.int .i64 er]] K := by
  refine WDef_of w106 rfl rfl k106 (by kernel_rfl) ?_
  by_cases h : er = 0
  · rw [if_pos h] at hk
    subst h
    simp -dsimp [w106, finD]
    exact hk
  · rw [if_neg h] at hk
    simp -dsimp [w106, finD, h]
    exact hk
theorem num_read {s : Rs} {lo hi : Int} (hb : s.b.length ≤ 10000000) (h8 : by8 s.b) : Does p 74 [byV s.b, .int .i64 s.e] [.int .i64 lo, .int .i64 hi] (.int .i64 (rd lo hi s).2) [byV (rd lo hi s).1.b, .int .i64 (rd lo hi s).1.e] := by
  refine Does_of (by kernel_rfl) (by simp) rfl rfl (by simp) ?_
  have ce := err_s s.b s.e
  have cn := ends_s s.b s.e hb
  have hres : w74.results = [(6, some (false, 1))] := rfl
  refine WFun_dfr w74 rfl rfl rfl kd74 ?_
  by_cases he : s.e ≠ 0
  · have hr : rd lo hi s = (s, 0) := by unfold rd; rw [if_pos he]
    rw [hr]
    simp -dsimp [w74, wPre]
    refine does_go ce rfl ?_
    simp -dsimp [he, hres]
  · have he0 : s.e = 0 := by omega
    simp -dsimp [w74, wPre]
    refine does_go ce rfl ?_
    simp -dsimp [he0]
    rw [he0] at cn
    simp -dsimp [wPre]
    refine does_go cn rfl ?_
    have hle := ends_le s.b
    have hez := @ends_z s.b
    have hee := ends_e s.b
    have hrd : rd lo hi s = if (endsF s.b).2 ≠ 0 then (⟨s.b, (endsF s.b).2⟩, 0) else if unzz (valU (s.b.take (endsF s.b).1)) < lo ∨ hi < unzz (valU (s.b.take (endsF s.b).1)) then (⟨s.b.drop (endsF s.b).1, 2⟩, 0) else (⟨s.b.drop (endsF s.b).1, 0⟩, unzz (valU (s.b.take (endsF s.b).1))) := by
      conv => lhs; unfold rd
      rw [if_neg he]
    rw [hrd]
    generalize (endsF s.b).1 = m at *
    generalize (endsF s.b).2 = er at *
    simp -dsimp [wPre, -List.map_take, tk_map]
    refine ⟨hle.2, ?_⟩
    obtain ⟨tk, htk⟩ : ∃ tk, tk = s.b.take m := ⟨_, rfl⟩
    have htl : tk.length = m := by rw [htk]; simp; omega
    refine xL_by (by kernel_rfl) (fun k e H => ∃ i : Nat, i ≤ m ∧ k = m - i ∧ e 1 = .int .i64 lo ∧ e 2 = .int .i64 hi ∧ e 3 = .ptr 1 0 ∧ e 6 = .ptr 2 0 ∧ e 7 = .int .i64 m ∧ e 8 = .ptr 3 0 ∧ e 26 = byV tk ∧ e 27 = .int .i64 m ∧ e 28 = .int .i64 i ∧ e 9 = .int .u64 (valU (s.b.take i)) ∧ H = [.live [byV s.b, .int .i64 0], .live [.ptr 0 0], .live [.int .i64 0], .live [.int .i64 er]]) m ?_ ?_
    · refine ⟨0, by omega, by omega, ?_⟩
      simp -dsimp [-List.map_take, tk_map, valU, byV, htk]
      try omega
    · rintro k e H ⟨i, hi1, hk, h1, h2, h3, h6, h7, h8', h26, h27, h28, h9, rfl⟩
      have hvr := valU_rng (s.b.take i)
      by_cases c1 : i < m
      · have cl : i < s.b.length := by omega
        have cl2 : i < tk.length := by omega
        have g1 : tk[i] = s.b[i] := by simp [htk]
        have hc := h8 s.b[i] (List.getElem_mem cl)
        have w2 : IntKind.i64.wrap ((i : Int) + 1) = ((i + 1 : Nat) : Int) := by rw [Fz.w64 (by omega) (by omega)]; omega
        have hst : valU (s.b.take (i + 1)) = val1 (valU (s.b.take i)) s.b[i] := by
          unfold valU
          rw [List.take_succ_eq_append_getElem cl, List.foldl_append]; rfl
        have tm : s.b[i].tmod 128 = s.b[i] % 128 := Int.tmod_eq_emod_of_nonneg hc.1
        have wc : IntKind.u64.wrap (s.b[i] % 128) = s.b[i] % 128 := u64 (by omega) (by omega)
        have so := shl_or (valU (s.b.take i)) (s.b[i] % 128) hvr.1 (by omega) (by omega)
        simp -dsimp [h1, h2, h3, h6, h7, h8', h26, h27, h28, h9, c1, cl, cl2, g1, tm, wc, so, w2]
        refine ⟨m - (i + 1), by omega, i + 1, by omega, rfl, ?_⟩
        simp -dsimp [h1, h2, h3, h6, h7, h8', h26, h27]
        rw [hst]; rfl
      · have hii : i = m := by omega
        subst hii
        have ub := unzz_bits _ hvr.1 hvr.2
        by_cases c2 : er = 0
        · by_cases c3 : unzz (valU (s.b.take i)) < lo
          · simp -dsimp [-List.map_drop, drop_map, map_tail2, h1, h2, h3, h6, h7, h8', h26, h27, h28, h9, ub, c2, c3]
            refine ⟨hle.2, num1_s (bb := s.b.drop i) ?_⟩
            simp -dsimp [hres, h6]
          · by_cases c4 : hi < unzz (valU (s.b.take i))
            · simp -dsimp [-List.map_drop, drop_map, map_tail2, h1, h2, h3, h6, h7, h8', h26, h27, h28, h9, ub, c2, c3, c4]
              refine ⟨hle.2, num1_s (bb := s.b.drop i) ?_⟩
              simp -dsimp [hres, h6]
            · simp -dsimp [-List.map_drop, drop_map, map_tail2, h1, h2, h3, h6, h7, h8', h26, h27, h28, h9, ub, c2, c3, c4]
              refine ⟨hle.2, num1_s (bb := s.b.drop i) ?_⟩
              simp -dsimp [hres, h6]
        · simp -dsimp [-List.map_drop, drop_map, map_tail2, h1, h2, h3, h6, h7, h8', h26, h27, h28, h9, ub, c2]
          have hz := hez c2
          subst hz
          refine ⟨hle.2, num1_s (bb := s.b) ?_⟩
          simp -dsimp [hres, h6, c2]
theorem rd_len (lo hi : Int) (s : Rs) : (rd lo hi s).1.b.length ≤ s.b.length := by
  unfold rd
  split
  · exact Nat.le_refl _
  · split
    · exact Nat.le_refl _
    · split <;> simp
theorem rd_by {lo hi : Int} {s : Rs} (h : by8 s.b) : by8 (rd lo hi s).1.b := by
  unfold rd
  split
  · exact h
  · split
    · exact h
    · split <;> exact fun x hx => h x (List.mem_of_mem_drop hx)
theorem rd_ok {lo hi : Int} {s : Rs} (h : (rd lo hi s).1.e = 0) : lo ≤ (rd lo hi s).2 ∧ (rd lo hi s).2 ≤ hi := by
  unfold rd at h ⊢
  split at h
  · rename_i c; exact absurd h c
  · rename_i c
    rw [if_neg c]
    split at h
    · rename_i c2; exact absurd h c2
    · rename_i c2
      rw [if_neg c2]
      split at h
      · simp at h
      · rename_i c3
        rw [if_neg c3]
        simp only
        omega
theorem rd_err {lo hi : Int} {s : Rs} (h : (rd lo hi s).1.e ≠ 0) : (rd lo hi s).2 = 0 := by
  unfold rd at h ⊢
  split
  · rfl
  · split
    · rfl
    · split
      · rfl
      · rename_i c c2 c3
        rw [if_neg c, if_neg c2, if_neg c3] at h
        exact absurd rfl h
theorem rdT_eq (most : Int) (s : Rs) (he : (rd 0 most s).1.e = 0) (hn : ¬ ((rd 0 most s).1.b.length : Int) < (rd 0 most s).2) : rdT most s = (⟨(rd 0 most s).1.b.drop (rd 0 most s).2.toNat, 0⟩, (rd 0 most s).1.b.take (rd 0 most s).2.toNat) := by
  unfold rdT; rw [if_neg (by rw [he]; simp), if_neg hn]
theorem text_read {s : Rs} {most : Int} (hb : s.b.length ≤ 10000000) (h8 : by8 s.b) : Does p 32 [byV s.b, .int .i64 s.e] [.int .i64 most] (byT (rdT most s).2) [byV (rdT most s).1.b, .int .i64 (rdT most s).1.e] := by
  refine Does_of (by kernel_rfl) (by simp) rfl (by simp) (by simp) ?_
  have cn := num_read (lo := 0) (hi := most) hb h8
  have ce := err_s (rd 0 most s).1.b (rd 0 most s).1.e
  have hok := @rd_ok 0 most s
  refine WFun_of w32 rfl rfl k32 ?_
  simp -dsimp [w32]
  refine does_go cn rfl ?_
  simp -dsimp
  refine does_go ce rfl ?_
  by_cases he : (rd 0 most s).1.e = 0
  · have hok := hok he
    by_cases hn : ((rd 0 most s).1.b.length : Int) < (rd 0 most s).2
    · have hT : rdT most s = (⟨(rd 0 most s).1.b, 3⟩, []) := by unfold rdT; rw [if_neg (by rw [he]; simp), if_pos hn]
      rw [hT]
      simp -dsimp [he, hn, byT]
    · have hT := rdT_eq most s he hn
      rw [hT]
      simp -dsimp [-List.map_drop, drop_map, map_tail2, -List.map_take, tk_map, he, hn, byT]
      refine ⟨by omega, by omega, by omega, by omega, ?_⟩
      rw [show List.take ((rd 0 most s).1.b.length - (rd 0 most s).2.toNat) (List.drop (rd 0 most s).2.toNat (rd 0 most s).1.b) = List.drop (rd 0 most s).2.toNat (rd 0 most s).1.b from List.take_of_length_le (by simp)]
      rfl
  · have hT : rdT most s = ((rd 0 most s).1, []) := by unfold rdT; rw [if_pos he]
    rw [hT]
    simp -dsimp [he, byT]
theorem end_read (s : Rs) : Does p 34 [byV s.b, .int .i64 s.e] [] (.int .i64 (endR s)) [byV s.b, .int .i64 s.e] := by
  refine Does_of (by kernel_rfl) (by simp) rfl rfl (by simp) ?_
  have ce := err_s s.b s.e
  refine WFun_of w34 rfl rfl k34 ?_
  simp -dsimp [w34]
  refine does_go ce rfl ?_
  by_cases he : s.e = 0
  · by_cases hb : 0 < s.b.length
    · have hE : endR s = 2 := by unfold endR; rw [if_pos ⟨he, hb⟩]
      rw [hE]
      simp -dsimp [he, hb]
    · have hE : endR s = s.e := by unfold endR; rw [if_neg (fun h => hb h.2)]
      rw [hE]
      simp -dsimp [he, hb]
      rw [he] at ce
      refine does_go ce (by simp [he]) ?_
      simp -dsimp [he]
  · have hE : endR s = s.e := by unfold endR; rw [if_neg (fun h => he h.1)]
    rw [hE]
    simp -dsimp [he]
    refine does_go ce rfl ?_
    simp -dsimp
end Fz.D
set_option maxRecDepth 100000
namespace Fz.D
open Go
abbrev Rd (s : Rs) : Ob := .live [byV s.b, .int .i64 s.e]
structure RsOk (s : Rs) : Prop where
  len : s.b.length ≤ 10000000
  by_ : by8 s.b
def rdN (s : Rs) : Rs × Int := rd (-9223372036854775808) 9223372036854775807 s
theorem rd_rs {lo hi : Int} {s : Rs} (h : RsOk s) : RsOk (rd lo hi s).1 := ⟨Nat.le_trans (rd_len lo hi s) h.len, rd_by h.by_⟩
theorem rdN_rs {s : Rs} (h : RsOk s) : RsOk (rdN s).1 := rd_rs h
theorem rdT_rs {m : Int} {s : Rs} (h : RsOk s) : RsOk (rdT m s).1 := by
  have h1 := rd_rs (lo := 0) (hi := m) h
  unfold rdT
  split
  · exact h1
  · split
    · exact ⟨h1.len, h1.by_⟩
    · exact ⟨by have := h1.len; simp; omega, fun x hx => h1.by_ x (List.mem_of_mem_drop hx)⟩
theorem rdT_by {m : Int} {s : Rs} (h : RsOk s) : by8 (rdT m s).2 := by
  have h1 := rd_rs (lo := 0) (hi := m) h
  unfold rdT
  split
  · exact by8_nil
  · split
    · exact by8_nil
    · exact fun x hx => h1.by_ x (List.mem_of_mem_take hx)
theorem num_go {s : Rs} {lo hi : Int} {H : List Ob} {i : Nat} {Q : CR → List Ob → Prop} (h : RsOk s) (hi' : H[i]? = some (Rd s)) (hq : Q (.ret (.int .i64 (rd lo hi s).2)) (H.set i (Rd (rd lo hi s).1))) : xCall p 74 [.ptr i 0, .int .i64 lo, .int .i64 hi] H Q := does_go (num_read h.len h.by_) hi' hq
theorem text_go {s : Rs} {m : Int} {H : List Ob} {i : Nat} {Q : CR → List Ob → Prop} (h : RsOk s) (hi' : H[i]? = some (Rd s)) (hq : Q (.ret (byT (rdT m s).2)) (H.set i (Rd (rdT m s).1))) : xCall p 32 [.ptr i 0, .int .i64 m] H Q := does_go (text_read h.len h.by_) hi' hq
theorem err_go {s : Rs} {H : List Ob} {i : Nat} {Q : CR → List Ob → Prop} (hi' : H[i]? = some (Rd s)) (hq : Q (.ret (.int .i64 s.e)) H) : xCall p 75 [.ptr i 0] H Q := does_go (err_s s.b s.e) hi' (by rw [set_same hi']; exact hq)
theorem rd_refs (s : Rs) : refsOb (Rd s) = [] := groundL_refs _ (by simp)
theorem rd_ren (s : Rs) (g : Nat → Nat) : renOb g (Rd s) = Rd s := by
  show Ob.live (renL g _) = _
  rw [groundL_ren _ _ (by simp)]
theorem take1_call {H : List Ob} {i j : Nat} {s : Rs} {Q : CR → List Ob → Prop} (h : RsOk s) (hij : i ≠ j) (hi : H[i]? = some (.live [.ptr j 0])) (hj : H[j]? = some (Rd s)) (hq : Q (.ret (.int .i64 (rdN s).2)) (H.set j (Rd (rdN s).1))) :
    xCall p 78 [.ptr i 0] H Q := by
  have h0 : refsL [.ptr i 0] = [i] := by simp [refsL, refs]
  have hr : reach H 1000 (refsL [.ptr i 0]) [] = some [i, j] := by
    rw [h0]
    refine (reach_go (k := 999) rfl hi).trans ?_
    simp only [refsOb, refsL, refs, List.nil_append, List.append_nil]
    refine (reach_go (k := 998) (by simp; omega) hj).trans ?_
    rw [rd_refs]
    exact reach_end (k := 997)
  refine WCall_inl (by kernel_rfl) hr ?_
  have i0 : List.idxOf i [i, j] = 0 := by simp
  have hb : (i == j) = false := by simp [hij]
  have i1 : List.idxOf j [i, j] = 1 := by simp [List.idxOf_cons, hb]
  have e1 : renL (fun x => List.idxOf x [i, j]) [.ptr i 0] = [.ptr 0 0] := by simp [renL, ren]
  have e2 : (([i, j] : List Nat).map fun x => renOb (fun x => List.idxOf x [i, j]) (H[x]?.getD .dead)) = [.live [.ptr 1 0], Rd s] := by
    simp only [List.map_cons, List.map_nil, hi, hj, Option.getD_some, rd_ren]
    simp [renOb, renL, ren, i1]
  rw [e1, e2]
  refine WFun_of w78 rfl rfl k78 ?_
  simp -dsimp [w78]
  refine num_go h rfl ?_
  simp -dsimp
  have b0 : backK [i, j] H.length 0 = i := rfl
  have b1 : backK [i, j] H.length 1 = j := rfl
  have e3 : backH [i, j] (.ret (.int .i64 (rdN s).2)) [.live [.ptr 1 0], Rd (rdN s).1] H = H.set j (Rd (rdN s).1) := by
    unfold backH
    rw [if_neg (by simp [crV, refs, refsOb, refsL, groundL_refs, byV])]
    show setAll H [i, j] [renOb _ (.live [.ptr 1 0]), renOb _ (Rd _)] = _
    rw [rd_ren]
    simp [setAll, renOb, renL, ren, b1, set_same hi]
  show Q (renR _ (.ret (.int .i64 (rdN s).2))) (backH [i, j] (.ret (.int .i64 (rdN s).2)) [.live [.ptr 1 0], Rd (rdN s).1] H)
  rw [e3]
  simpa [renR, ren] using hq
def rdRun (s : Rs) : Rs × Rn := ((rdT 65536 (rdN s).1).1, ⟨(rdN s).2, (rdT 65536 (rdN s).1).2⟩)
def rdSlo (s : Rs) : Rs × Slo := ((rd 0 1 (rdN s).1).1, ⟨(rdN s).2, decide ((rd 0 1 (rdN s).1).2 = 1)⟩)
def rdWor (s : Rs) : Rs × Wor := ((rd 0 3 (rdN (rdT 65536 s).1).1).1, ⟨bstr (rdT 65536 s).2, (rdN (rdT 65536 s).1).2, decide ((rd 0 3 (rdN (rdT 65536 s).1).1).2 % 2 = 1), decide (2 ≤ (rd 0 3 (rdN (rdT 65536 s).1).1).2)⟩)
def rdSpo (s : Rs) : Rs × Spo := ((rdN (rdN s).1).1, ⟨(rdN s).2, (rdN (rdN s).1).2⟩)
theorem rd_nn (hi : Int) (s : Rs) : 0 ≤ (rd 0 hi s).2 := by
  by_cases h : (rd 0 hi s).1.e = 0
  · exact (rd_ok h).1
  · rw [rd_err h]; omega
theorem rdRun_rs {s : Rs} (h : RsOk s) : RsOk (rdRun s).1 := rdT_rs (rdN_rs h)
theorem rdSlo_rs {s : Rs} (h : RsOk s) : RsOk (rdSlo s).1 := rd_rs (rdN_rs h)
theorem rdWor_rs {s : Rs} (h : RsOk s) : RsOk (rdWor s).1 := rd_rs (rdN_rs (rdT_rs h))
theorem rdSpo_rs {s : Rs} (h : RsOk s) : RsOk (rdSpo s).1 := rdN_rs (rdN_rs h)
abbrev Bx5 (b : Nat) : Ob := .live [.fn (.func 78) [] [.ptr b 0]]
abbrev Bx4 (j : Nat) : Ob := .live [.ptr j 0]
theorem take2_call {H : List Ob} {a b j : Nat} {s : Rs} {Q : CR → List Ob → Prop} (h : RsOk s) (hab : a ≠ b) (haj : a ≠ j) (hbj : b ≠ j) (ha : H[a]? = some (Bx5 b)) (hb : H[b]? = some (Bx4 j)) (hj : H[j]? = some (Rd s)) (hq : Q (.ret (runT (rdRun s).2)) (H.set j (Rd (rdRun s).1))) :
    xCall p 80 [.ptr a 0, .ptr b 0] H Q := by
  have h0 : refsL [.ptr a 0, .ptr b 0] = [a, b] := by simp [refsL, refs]
  have rb : refs (byV s.b) = [] := ground_refs _ (byV.gd _)
  have x1 : (a == b) = false := by simp [hab]
  have x2 : (a == j) = false := by simp [haj]
  have x3 : (b == j) = false := by simp [hbj]
  have x4 : (b == a) = false := by simp [Ne.symm hab]
  have hr : reach H 1000 (refsL [.ptr a 0, .ptr b 0]) [] = some [a, b, j] := by
    rw [h0]
    refine (reach_go (k := 999) (by simp) ha).trans ?_
    simp only [rb, refsOb, refsL, refs, List.nil_append, List.append_nil, List.cons_append]
    refine (reach_go (k := 998) (by simp; omega) hb).trans ?_
    simp only [rb, refsOb, refsL, refs, List.nil_append, List.append_nil, List.cons_append]
    refine (reach_skip (k := 997) (by simp)).trans ?_
    refine (reach_go (k := 996) (by simp; omega) hj).trans ?_
    simp only [rb, refsOb, refsL, refs, List.nil_append, List.append_nil, List.cons_append]
    exact reach_end (k := 995)
  refine WCall_inl (by kernel_rfl) hr ?_
  have i0 : List.idxOf a [a, b, j] = 0 := by simp [List.idxOf_cons]
  have i1 : List.idxOf b [a, b, j] = 1 := by simp [List.idxOf_cons, x1, x2, x3, x4]
  have i2 : List.idxOf j [a, b, j] = 2 := by simp [List.idxOf_cons, x1, x2, x3, x4]
  have e1 : renL (fun x => List.idxOf x [a, b, j]) [.ptr a 0, .ptr b 0] = [.ptr 0 0, .ptr 1 0] := by simp only [renL, ren, i0, i1, i2]
  have e2 : (([a, b, j] : List Nat).map fun x => renOb (fun x => List.idxOf x [a, b, j]) (H[x]?.getD .dead)) = [Bx5 1, Bx4 2, Rd s] := by
    simp only [List.map_cons, List.map_nil, ha, hb, hj, Option.getD_some, rd_ren]
    simp only [renOb, renL, ren, i0, i1, i2]
  rw [e1, e2]
  refine WFun_of w80 rfl rfl k80 ?_
  simp -dsimp [w80]
  refine take1_call (j := 2) h (by omega) rfl rfl ?_
  simp -dsimp
  refine text_go (rdN_rs h) rfl ?_
  simp -dsimp
  have e3 : backH [a, b, j] (.ret (runT (rdRun s).2)) [Bx5 1, Bx4 2, Rd (rdRun s).1, .live [.int .i64 (rdN s).2, byT (rdT 65536 (rdN s).1).2]] H = H.set j (Rd (rdRun s).1) := by
    have g1 : refs (runT (rdRun s).2) = [] := ground_refs _ (by simp)
    unfold backH
    rw [if_neg (by simp [crV, g1, refsOb, refsL, refs, byV])]
    show setAll H [a, b, j] [renOb _ (Bx5 1), renOb _ (Bx4 2), renOb _ (Rd _)] = _
    rw [rd_ren]
    simp only [renOb, renL, ren, setAll]
    simp only [show backK [a, b, j] H.length 0 = a from rfl, show backK [a, b, j] H.length 1 = b from rfl, show backK [a, b, j] H.length 2 = j from rfl]
    rw [set_same ha, set_same hb]
  have g2 : ∀ g, ren g (runT (rdRun s).2) = runT (rdRun s).2 := fun g => ground_ren g _ (by simp)
  show Q (renR _ (.ret (runT (rdRun s).2))) (backH [a, b, j] (.ret (runT (rdRun s).2)) [Bx5 1, Bx4 2, Rd (rdRun s).1, .live [.int .i64 (rdN s).2, byT (rdT 65536 (rdN s).1).2]] H)
  rw [e3, renR, g2]
  exact hq
theorem take3_call {H : List Ob} {a b j : Nat} {s : Rs} {Q : CR → List Ob → Prop} (h : RsOk s) (hab : a ≠ b) (haj : a ≠ j) (hbj : b ≠ j) (ha : H[a]? = some (Bx5 b)) (hb : H[b]? = some (Bx4 j)) (hj : H[j]? = some (Rd s)) (hq : Q (.ret (sloV (rdSlo s).2)) (H.set j (Rd (rdSlo s).1))) :
    xCall p 83 [.ptr a 0, .ptr b 0] H Q := by
  have h0 : refsL [.ptr a 0, .ptr b 0] = [a, b] := by simp [refsL, refs]
  have rb : refs (byV s.b) = [] := ground_refs _ (byV.gd _)
  have x1 : (a == b) = false := by simp [hab]
  have x2 : (a == j) = false := by simp [haj]
  have x3 : (b == j) = false := by simp [hbj]
  have x4 : (b == a) = false := by simp [Ne.symm hab]
  have hr : reach H 1000 (refsL [.ptr a 0, .ptr b 0]) [] = some [a, b, j] := by
    rw [h0]
    refine (reach_go (k := 999) (by simp) ha).trans ?_
    simp only [rb, refsOb, refsL, refs, List.nil_append, List.append_nil, List.cons_append]
    refine (reach_go (k := 998) (by simp; omega) hb).trans ?_
    simp only [rb, refsOb, refsL, refs, List.nil_append, List.append_nil, List.cons_append]
    refine (reach_skip (k := 997) (by simp)).trans ?_
    refine (reach_go (k := 996) (by simp; omega) hj).trans ?_
    simp only [rb, refsOb, refsL, refs, List.nil_append, List.append_nil, List.cons_append]
    exact reach_end (k := 995)
  refine WCall_inl (by kernel_rfl) hr ?_
  have i0 : List.idxOf a [a, b, j] = 0 := by simp [List.idxOf_cons]
  have i1 : List.idxOf b [a, b, j] = 1 := by simp [List.idxOf_cons, x1, x2, x3, x4]
  have i2 : List.idxOf j [a, b, j] = 2 := by simp [List.idxOf_cons, x1, x2, x3, x4]
  have e1 : renL (fun x => List.idxOf x [a, b, j]) [.ptr a 0, .ptr b 0] = [.ptr 0 0, .ptr 1 0] := by simp only [renL, ren, i0, i1, i2]
  have e2 : (([a, b, j] : List Nat).map fun x => renOb (fun x => List.idxOf x [a, b, j]) (H[x]?.getD .dead)) = [Bx5 1, Bx4 2, Rd s] := by
    simp only [List.map_cons, List.map_nil, ha, hb, hj, Option.getD_some, rd_ren]
    simp only [renOb, renL, ren, i0, i1, i2]
  rw [e1, e2]
  refine WFun_of w83 rfl rfl k83 ?_
  simp -dsimp [w83]
  refine take1_call (j := 2) h (by omega) rfl rfl ?_
  simp -dsimp
  refine num_go (rdN_rs h) rfl ?_
  simp -dsimp
  have e3 : backH [a, b, j] (.ret (sloV (rdSlo s).2)) [Bx5 1, Bx4 2, Rd (rdSlo s).1, .live [.int .i64 (rdN s).2, .bool (decide ((rd 0 1 (rdN s).1).2 = 1))]] H = H.set j (Rd (rdSlo s).1) := by
    have g1 : refs (sloV (rdSlo s).2) = [] := ground_refs _ (by simp)
    unfold backH
    rw [if_neg (by simp [crV, g1, refsOb, refsL, refs, byV])]
    show setAll H [a, b, j] [renOb _ (Bx5 1), renOb _ (Bx4 2), renOb _ (Rd _)] = _
    rw [rd_ren]
    simp only [renOb, renL, ren, setAll]
    simp only [show backK [a, b, j] H.length 0 = a from rfl, show backK [a, b, j] H.length 1 = b from rfl, show backK [a, b, j] H.length 2 = j from rfl]
    rw [set_same ha, set_same hb]
  have g2 : ∀ g, ren g (sloV (rdSlo s).2) = sloV (rdSlo s).2 := fun g => ground_ren g _ (by simp)
  show Q (renR _ (.ret (sloV (rdSlo s).2))) (backH [a, b, j] (.ret (sloV (rdSlo s).2)) [Bx5 1, Bx4 2, Rd (rdSlo s).1, .live [.int .i64 (rdN s).2, .bool (decide ((rd 0 1 (rdN s).1).2 = 1))]] H)
  rw [e3, renR, g2]
  exact hq
theorem take5_call {H : List Ob} {a b j : Nat} {s : Rs} {Q : CR → List Ob → Prop} (h : RsOk s) (hab : a ≠ b) (haj : a ≠ j) (hbj : b ≠ j) (ha : H[a]? = some (Bx5 b)) (hb : H[b]? = some (Bx4 j)) (hj : H[j]? = some (Rd s)) (hq : Q (.ret (spoV (rdSpo s).2)) (H.set j (Rd (rdSpo s).1))) :
    xCall p 87 [.ptr a 0] H Q := by
  have h0 : refsL [.ptr a 0] = [a] := by simp [refsL, refs]
  have rb : refs (byV s.b) = [] := ground_refs _ (byV.gd _)
  have x1 : (a == b) = false := by simp [hab]
  have x2 : (a == j) = false := by simp [haj]
  have x3 : (b == j) = false := by simp [hbj]
  have x4 : (b == a) = false := by simp [Ne.symm hab]
  have hr : reach H 1000 (refsL [.ptr a 0]) [] = some [a, b, j] := by
    rw [h0]
    refine (reach_go (k := 999) (by simp) ha).trans ?_
    simp only [rb, refsOb, refsL, refs, List.nil_append, List.append_nil, List.cons_append]
    refine (reach_go (k := 998) (by simp; omega) hb).trans ?_
    simp only [rb, refsOb, refsL, refs, List.nil_append, List.append_nil, List.cons_append]
    refine (reach_go (k := 997) (by simp; omega) hj).trans ?_
    simp only [rb, refsOb, refsL, refs, List.nil_append, List.append_nil, List.cons_append]
    exact reach_end (k := 996)
  refine WCall_inl (by kernel_rfl) hr ?_
  have i0 : List.idxOf a [a, b, j] = 0 := by simp [List.idxOf_cons]
  have i1 : List.idxOf b [a, b, j] = 1 := by simp [List.idxOf_cons, x1, x2, x3, x4]
  have i2 : List.idxOf j [a, b, j] = 2 := by simp [List.idxOf_cons, x1, x2, x3, x4]
  have e1 : renL (fun x => List.idxOf x [a, b, j]) [.ptr a 0] = [.ptr 0 0] := by simp only [renL, ren, i0, i1, i2]
  have e2 : (([a, b, j] : List Nat).map fun x => renOb (fun x => List.idxOf x [a, b, j]) (H[x]?.getD .dead)) = [Bx5 1, Bx4 2, Rd s] := by
    simp only [List.map_cons, List.map_nil, ha, hb, hj, Option.getD_some, rd_ren]
    simp only [renOb, renL, ren, i0, i1, i2]
  rw [e1, e2]
  refine WFun_of w87 rfl rfl k87 ?_
  simp -dsimp [w87]
  refine take1_call (j := 2) h (by omega) rfl rfl ?_
  simp -dsimp
  refine take1_call (j := 2) (rdN_rs h) (by omega) rfl rfl ?_
  simp -dsimp
  have e3 : backH [a, b, j] (.ret (spoV (rdSpo s).2)) [Bx5 1, Bx4 2, Rd (rdSpo s).1, .live [.int .i64 (rdN s).2, .int .i64 (rdN (rdN s).1).2]] H = H.set j (Rd (rdSpo s).1) := by
    have g1 : refs (spoV (rdSpo s).2) = [] := ground_refs _ (by simp)
    unfold backH
    rw [if_neg (by simp [crV, g1, refsOb, refsL, refs, byV])]
    show setAll H [a, b, j] [renOb _ (Bx5 1), renOb _ (Bx4 2), renOb _ (Rd _)] = _
    rw [rd_ren]
    simp only [renOb, renL, ren, setAll]
    simp only [show backK [a, b, j] H.length 0 = a from rfl, show backK [a, b, j] H.length 1 = b from rfl, show backK [a, b, j] H.length 2 = j from rfl]
    rw [set_same ha, set_same hb]
  have g2 : ∀ g, ren g (spoV (rdSpo s).2) = spoV (rdSpo s).2 := fun g => ground_ren g _ (by simp)
  show Q (renR _ (.ret (spoV (rdSpo s).2))) (backH [a, b, j] (.ret (spoV (rdSpo s).2)) [Bx5 1, Bx4 2, Rd (rdSpo s).1, .live [.int .i64 (rdN s).2, .int .i64 (rdN (rdN s).1).2]] H)
  rw [e3, renR, g2]
  exact hq
theorem take4_call {H : List Ob} {a b j : Nat} {s : Rs} {Q : CR → List Ob → Prop} (h : RsOk s) (hab : a ≠ b) (haj : a ≠ j) (hbj : b ≠ j) (ha : H[a]? = some (Bx5 b)) (hb : H[b]? = some (Bx4 j)) (hj : H[j]? = some (Rd s)) (hq : Q (.ret (worV (rdWor s).2)) (H.set j (Rd (rdWor s).1))) :
    xCall p 85 [.ptr b 0, .ptr a 0] H Q := by
  have h0 : refsL [.ptr b 0, .ptr a 0] = [b, a] := by simp [refsL, refs]
  have rb : refs (byV s.b) = [] := ground_refs _ (byV.gd _)
  have x1 : (a == b) = false := by simp [hab]
  have x2 : (a == j) = false := by simp [haj]
  have x3 : (b == j) = false := by simp [hbj]
  have x4 : (b == a) = false := by simp [Ne.symm hab]
  have hr : reach H 1000 (refsL [.ptr b 0, .ptr a 0]) [] = some [b, a, j] := by
    rw [h0]
    refine (reach_go (k := 999) (by simp) hb).trans ?_
    simp only [rb, refsOb, refsL, refs, List.nil_append, List.append_nil, List.cons_append]
    refine (reach_go (k := 998) (by simp; omega) ha).trans ?_
    simp only [rb, refsOb, refsL, refs, List.nil_append, List.append_nil, List.cons_append]
    refine (reach_go (k := 997) (by simp; omega) hj).trans ?_
    simp only [rb, refsOb, refsL, refs, List.nil_append, List.append_nil, List.cons_append]
    refine (reach_skip (k := 996) (by simp)).trans ?_
    exact reach_end (k := 995)
  refine WCall_inl (by kernel_rfl) hr ?_
  have i0 : List.idxOf b [b, a, j] = 0 := by simp [List.idxOf_cons]
  have i1 : List.idxOf a [b, a, j] = 1 := by simp [List.idxOf_cons, x1, x2, x3, x4]
  have i2 : List.idxOf j [b, a, j] = 2 := by simp [List.idxOf_cons, x1, x2, x3, x4]
  have e1 : renL (fun x => List.idxOf x [b, a, j]) [.ptr b 0, .ptr a 0] = [.ptr 0 0, .ptr 1 0] := by simp only [renL, ren, i0, i1, i2]
  have e2 : (([b, a, j] : List Nat).map fun x => renOb (fun x => List.idxOf x [b, a, j]) (H[x]?.getD .dead)) = [Bx4 2, Bx5 0, Rd s] := by
    simp only [List.map_cons, List.map_nil, ha, hb, hj, Option.getD_some, rd_ren]
    simp only [renOb, renL, ren, i0, i1, i2]
  rw [e1, e2]
  refine WFun_of w85 rfl rfl k85 ?_
  simp -dsimp [w85]
  refine text_go h rfl ?_
  have e8 := all8 (rdT_by (m := 65536) h)
  simp -dsimp [byT, e8, bstr_fold]
  refine WDraw_see (R := [Bx4 2, Bx5 0]) (by kernel_rfl) (by simp) ?_
  simp -dsimp
  refine take1_call (j := 2) (rdT_rs h) (by omega) rfl rfl ?_
  simp -dsimp
  refine num_go (rdN_rs (rdT_rs h)) rfl ?_
  simp -dsimp [Int.tmod_eq_emod_of_nonneg (rd_nn 3 (rdN (rdT 65536 s).1).1)]
  have e3 : backH [b, a, j] (.ret (worV (rdWor s).2)) [Bx4 2, Bx5 0, Rd (rdWor s).1, .live [.str (bstr (rdT 65536 s).2), .int .i64 (rdN (rdT 65536 s).1).2, .bool (decide ((rd 0 3 (rdN (rdT 65536 s).1).1).2 % 2 = 1)), .bool (decide (2 ≤ (rd 0 3 (rdN (rdT 65536 s).1).1).2))]] H = H.set j (Rd (rdWor s).1) := by
    have g1 : refs (worV (rdWor s).2) = [] := ground_refs _ (by simp)
    unfold backH
    rw [if_neg (by simp [crV, g1, refsOb, refsL, refs, byV])]
    show setAll H [b, a, j] [renOb _ (Bx4 2), renOb _ (Bx5 0), renOb _ (Rd _)] = _
    rw [rd_ren]
    simp only [renOb, renL, ren, setAll]
    simp only [show backK [b, a, j] H.length 0 = b from rfl, show backK [b, a, j] H.length 1 = a from rfl, show backK [b, a, j] H.length 2 = j from rfl]
    rw [set_same hb, set_same ha]
  have g2 : ∀ g, ren g (worV (rdWor s).2) = worV (rdWor s).2 := fun g => ground_ren g _ (by simp)
  show Q (renR _ (.ret (worV (rdWor s).2))) (backH [b, a, j] (.ret (worV (rdWor s).2)) [Bx4 2, Bx5 0, Rd (rdWor s).1, .live [.str (bstr (rdT 65536 s).2), .int .i64 (rdN (rdT 65536 s).1).2, .bool (decide ((rd 0 3 (rdN (rdT 65536 s).1).1).2 % 2 = 1)), .bool (decide (2 ≤ (rd 0 3 (rdN (rdT 65536 s).1).1).2))]] H)
  rw [e3, renR, g2]
  exact hq
end Fz.D
set_option maxRecDepth 100000
namespace Fz.D
open Go
def someK {α : Type} (f : Rs → Rs × α) : Nat → Rs → List α → Rs × List α
  | 0, s, acc => (s, acc)
  | k + 1, s, acc => if s.e ≠ 0 then (s, []) else someK f k (f s).1 (acc ++ [(f s).2])
def someF {α : Type} (f : Rs → Rs × α) (s : Rs) : Rs × List α := someK f (rd 0 65536 s).2.toNat (rd 0 65536 s).1 []
theorem rd_top (s : Rs) : 0 ≤ (rd 0 65536 s).2 ∧ (rd 0 65536 s).2 ≤ 65536 := by
  refine ⟨rd_nn _ _, ?_⟩
  by_cases h : (rd 0 65536 s).1.e = 0
  · exact (rd_ok h).2
  · rw [rd_err h]; omega
theorem someK_rs {α : Type} {f : Rs → Rs × α} (hf : ∀ s, RsOk s → RsOk (f s).1) : ∀ (k : Nat) (s : Rs) (acc : List α), RsOk s → RsOk (someK f k s acc).1
  | 0, s, acc, h => h
  | k + 1, s, acc, h => by
    unfold someK
    split
    · exact h
    · exact someK_rs hf k _ _ (hf s h)
theorem someF_rs {α : Type} {f : Rs → Rs × α} (hf : ∀ s, RsOk s → RsOk (f s).1) {s : Rs} (h : RsOk s) : RsOk (someF f s).1 := someK_rs hf _ _ _ (rd_rs h)
theorem accg_back {b m n : Nat} {g : Nat → Nat} {J : List Ob} {v : V} {l : List V} (hg : ∀ j, g (b + j) = m + j) (hl : groundL (flat l) = true) (h : Acc n b J v l) : Acc n m (J.map (renOb g)) (ren g v) l := by
  obtain ⟨h1, h2, h3⟩ := h
  refine ⟨h1, h2, ?_⟩
  rcases h3 with ⟨rfl, rfl⟩ | ⟨j, rfl, h4⟩
  · exact .inl ⟨rfl, by simp [ren, renL]⟩
  · refine .inr ⟨j, by simp [ren, hg], ?_⟩
    rw [List.getElem?_map, h4]
    simp only [Option.map_some, renOb]
    rw [groundL_ren g _ hl]
theorem acc_cases {n b : Nat} {J : List Ob} {v : V} {l : List V} (h : Acc n b J v l) : (v = .list [] true ∧ l = []) ∨ ∃ j, v = .own (b + j) 0 l.length n := by
  obtain ⟨_, _, h3⟩ := h
  rcases h3 with ⟨h3, h4⟩ | ⟨j, h3, _⟩
  · exact .inl ⟨h4, h3⟩
  · exact .inr ⟨j, h3⟩
theorem some_int {s : Rs} {Q : CR → List Ob → Prop} (h : RsOk s) (hq : ∀ v T, Acc 1 2 T v ((someF rdN s).2.map (V.int .i64)) → Q (.ret v) (Rd (someF rdN s).1 :: Bx4 0 :: T)) :
    WFun p 81 [.ptr 0 0, .fn (.func 78) [] [.ptr 1 0]] [Rd s, Bx4 0] Q := by
  have htop := rd_top s
  have hs0 := rd_rs (lo := 0) (hi := 65536) h
  have hsome : someF rdN s = someK rdN (rd 0 65536 s).2.toNat (rd 0 65536 s).1 [] := rfl
  refine WFun_of w81 rfl rfl k81 ?_
  simp -dsimp [w81]
  refine num_go h rfl ?_
  rw [hsome] at hq
  generalize (rd 0 65536 s).1 = s0 at *
  obtain ⟨N, hN⟩ : ∃ N : Nat, (rd 0 65536 s).2 = N := ⟨(rd 0 65536 s).2.toNat, by omega⟩
  rw [hN] at hq htop ⊢
  rw [Int.toNat_natCast] at hq
  simp -dsimp
  refine xL_by (by kernel_rfl) (fun k e H => ∃ (i : Nat) (v : V) (T : List Ob) (s1 : Rs) (acc : List Int), i ≤ N ∧ k = N - i ∧ e 0 = .ptr 0 0 ∧ e 1 = .fn (.func 78) [] [.ptr 1 0] ∧ e 7 = .int .i64 N ∧ e 8 = .int .i64 i ∧ e 5 = v ∧ H = Rd s1 :: Bx4 0 :: T ∧ RsOk s1 ∧ Acc 1 2 T v (acc.map (V.int .i64)) ∧ acc.length ≤ i ∧ someK rdN N s0 [] = someK rdN (N - i) s1 acc) N ?_ ?_
  · refine ⟨0, .list [] true, [], s0, [], by omega, rfl, ?_⟩
    simp -dsimp
    exact ⟨hs0, acc_nil (by decide)⟩
  · rintro k e H ⟨i, v, T, s1, acc, hi, hk, h0, h1, h7, h8, h5, rfl, hs, hac, hal, hsm⟩
    by_cases c1 : i < N
    · have hsu : N - i = (N - (i + 1)) + 1 := by omega
      have w2 : IntKind.i64.wrap ((i : Int) + 1) = ((i + 1 : Nat) : Int) := by rw [Fz.w64 (by omega) (by omega)]; omega
      simp -dsimp [h0, h1, h7, h8, h5, c1]
      refine err_go rfl ?_
      by_cases c2 : s1.e = 0
      · simp -dsimp [h0, h1, h7, h8, h5, c2]
        refine take1_call (j := 0) hs (by omega) rfl rfl ?_
        simp -dsimp [h0, h1, h7, h8, h5]
        refine app_acc 2 (m := [(V.int .i64) (rdN s1).2]) (l := acc.map (V.int .i64)) (v := v) (by simpa using acc_ext hac _) (by simp) (by simp) rfl (by simp) (by simp) (by simp [capOk]; omega) fun v' J' hac' => ?_
        simp -dsimp [h0, h1, h7, h8, w2]
        refine ⟨N - (i + 1), by omega, i + 1, v', J', (rdN s1).1, acc ++ [(rdN s1).2], by omega, rfl, ?_⟩
        simp -dsimp [h0, h1, h7]
        refine ⟨rdN_rs hs, by simpa using hac', by omega, ?_⟩
        rw [hsm, hsu, someK, if_neg (by rw [c2]; simp)]
      · simp -dsimp [h0, h1, h7, h8, h5, c2]
        have hq := hq (.list [] true) T
        rw [hsm, hsu, someK, if_pos c2] at hq
        exact hq (acc_nil (by decide))
    · have hii : i = N := by omega
      subst hii
      simp -dsimp [h0, h1, h7, h8, h5]
      have hq := hq v T
      rw [hsm, Nat.sub_self, someK] at hq
      exact hq hac
theorem some_int_call {H : List Ob} {b j : Nat} {s : Rs} {Q : CR → List Ob → Prop} (h : RsOk s) (hbj : b ≠ j) (hb : H[b]? = some (Bx4 j)) (hj : H[j]? = some (Rd s))
    (hq : ∀ v J, Acc 1 H.length J v ((someF rdN s).2.map (V.int .i64)) → Q (.ret v) (H.set j (Rd (someF rdN s).1) ++ J)) : xCall p 81 [.ptr j 0, .fn (.func 78) [] [.ptr b 0]] H Q := by
  have h0 : refsL [.ptr j 0, .fn (.func 78) [] [.ptr b 0]] = [j, b] := by simp [refsL, refs]
  have rb : refs (byV s.b) = [] := ground_refs _ (byV.gd _)
  have ebj : (b == j) = false := by simp [hbj]
  have ejb : (j == b) = false := by simp [Ne.symm hbj]
  have hr : reach H 1000 (refsL [.ptr j 0, .fn (.func 78) [] [.ptr b 0]]) [] = some [j, b] := by
    rw [h0]
    refine (reach_go (k := 999) (by simp) hj).trans ?_
    simp only [rb, refsOb, refsL, refs, List.nil_append, List.append_nil, List.cons_append]
    refine (reach_go (k := 998) (by simp; omega) hb).trans ?_
    simp only [rb, refsOb, refsL, refs, List.nil_append, List.append_nil, List.cons_append]
    refine (reach_skip (k := 997) (by simp)).trans ?_
    exact reach_end (k := 996)
  refine WCall_inl (by kernel_rfl) hr ?_
  have i0 : List.idxOf j [j, b] = 0 := by simp [List.idxOf_cons, ebj, ejb]
  have i1 : List.idxOf b [j, b] = 1 := by simp [List.idxOf_cons, ebj, ejb]
  have e1 : renL (fun x => List.idxOf x [j, b]) [.ptr j 0, .fn (.func 78) [] [.ptr b 0]] = [.ptr 0 0, .fn (.func 78) [] [.ptr 1 0]] := by simp only [renL, ren, i0, i1]
  have e2 : (([j, b] : List Nat).map fun x => renOb (fun x => List.idxOf x [j, b]) (H[x]?.getD .dead)) = [Rd s, Bx4 0] := by
    simp only [List.map_cons, List.map_nil, hj, hb, Option.getD_some, rd_ren]
    simp only [renOb, renL, ren, i0, i1]
  rw [e1, e2]
  refine some_int h fun v T hac => ⟨by simp, ?_⟩
  have rb2 : refs (byV (someF rdN s).1.b) = [] := ground_refs _ (byV.gd _)
  have set3 : setAll H [j, b] [renOb (backK [j, b] H.length) (Rd (someF rdN s).1), renOb (backK [j, b] H.length) (Bx4 0)] = H.set j (Rd (someF rdN s).1) := by
    rw [rd_ren]
    simp only [renOb, renL, ren, setAll, show backK [j, b] H.length 0 = j from rfl, show backK [j, b] H.length 1 = b from rfl]
    rw [set_same (H := H.set j (Rd (someF rdN s).1)) (by rw [List.getElem?_set_ne (by omega)]; exact hb)]
  rcases acc_cases hac with ⟨rfl, hnil⟩ | ⟨q, rfl⟩
  · have e4 : backH [j, b] (.ret (.list [] true)) (Rd (someF rdN s).1 :: Bx4 0 :: T) H = H.set j (Rd (someF rdN s).1) := by
      unfold backH
      rw [if_neg (by simp [crV, refs, refsL, refsOb, rb2])]
      exact set3
    rw [e4]
    have := hq (.list [] true) [] (by rw [hnil]; exact acc_nil (by decide))
    simpa [renR, ren, renL] using this
  · have hg : ∀ x, backK [j, b] H.length (2 + x) = H.length + x := fun x => by simp [backK]; omega
    have e4 : backH [j, b] (.ret (.own (2 + q) 0 ((someF rdN s).2.map (V.int .i64)).length 1)) (Rd (someF rdN s).1 :: Bx4 0 :: T) H = H.set j (Rd (someF rdN s).1) ++ T.map (renOb (backK [j, b] H.length)) := by
      unfold backH
      rw [if_pos (by simp [crV, refs])]
      exact congrArg (· ++ T.map (renOb (backK [j, b] H.length))) set3
    rw [e4]
    have := hq _ _ (accg_back hg (by simp) hac)
    simpa [renR] using this
theorem some_run {s : Rs} {Q : CR → List Ob → Prop} (h : RsOk s) (hq : ∀ v T, Acc 2 3 T v ((someF rdRun s).2.map (runT)) → Q (.ret v) (Rd (someF rdRun s).1 :: Bx5 2 :: Bx4 0 :: T)) :
    WFun p 79 [.ptr 0 0, .fn (.func 80) [] [.ptr 1 0, .ptr 2 0]] [Rd s, Bx5 2, Bx4 0] Q := by
  have htop := rd_top s
  have hs0 := rd_rs (lo := 0) (hi := 65536) h
  have hsome : someF rdRun s = someK rdRun (rd 0 65536 s).2.toNat (rd 0 65536 s).1 [] := rfl
  refine WFun_of w79 rfl rfl k79 ?_
  simp -dsimp [w79]
  refine num_go h rfl ?_
  rw [hsome] at hq
  generalize (rd 0 65536 s).1 = s0 at *
  obtain ⟨N, hN⟩ : ∃ N : Nat, (rd 0 65536 s).2 = N := ⟨(rd 0 65536 s).2.toNat, by omega⟩
  rw [hN] at hq htop ⊢
  rw [Int.toNat_natCast] at hq
  simp -dsimp
  refine xL_by (by kernel_rfl) (fun k e H => ∃ (i : Nat) (v : V) (T : List Ob) (s1 : Rs) (acc : List Rn), i ≤ N ∧ k = N - i ∧ e 0 = .ptr 0 0 ∧ e 1 = .fn (.func 80) [] [.ptr 1 0, .ptr 2 0] ∧ e 7 = .int .i64 N ∧ e 8 = .int .i64 i ∧ e 5 = v ∧ H = Rd s1 :: Bx5 2 :: Bx4 0 :: T ∧ RsOk s1 ∧ Acc 2 3 T v (acc.map (runT)) ∧ acc.length ≤ i ∧ someK rdRun N s0 [] = someK rdRun (N - i) s1 acc) N ?_ ?_
  · refine ⟨0, .list [] true, [], s0, [], by omega, rfl, ?_⟩
    simp -dsimp
    exact ⟨hs0, acc_nil (by decide)⟩
  · rintro k e H ⟨i, v, T, s1, acc, hi, hk, h0, h1, h7, h8, h5, rfl, hs, hac, hal, hsm⟩
    by_cases c1 : i < N
    · have hsu : N - i = (N - (i + 1)) + 1 := by omega
      have w2 : IntKind.i64.wrap ((i : Int) + 1) = ((i + 1 : Nat) : Int) := by rw [Fz.w64 (by omega) (by omega)]; omega
      simp -dsimp [h0, h1, h7, h8, h5, c1]
      refine err_go rfl ?_
      by_cases c2 : s1.e = 0
      · simp -dsimp [h0, h1, h7, h8, h5, c2]
        refine take2_call (a := 1) (b := 2) (j := 0) hs (by omega) (by omega) (by omega) rfl rfl rfl ?_
        simp -dsimp [h0, h1, h7, h8, h5]
        refine app_acc 3 (m := [(runT) (rdRun s1).2]) (l := acc.map (runT)) (v := v) (by simpa using acc_ext hac _) (by simp) (by simp) rfl (by simp) (by simp) (by simp [capOk]; omega) fun v' J' hac' => ?_
        simp -dsimp [h0, h1, h7, h8, w2]
        refine ⟨N - (i + 1), by omega, i + 1, v', J', (rdRun s1).1, acc ++ [(rdRun s1).2], by omega, rfl, ?_⟩
        simp -dsimp [h0, h1, h7]
        refine ⟨rdRun_rs hs, by simpa using hac', by omega, ?_⟩
        rw [hsm, hsu, someK, if_neg (by rw [c2]; simp)]
      · simp -dsimp [h0, h1, h7, h8, h5, c2]
        have hq := hq (.list [] true) T
        rw [hsm, hsu, someK, if_pos c2] at hq
        exact hq (acc_nil (by decide))
    · have hii : i = N := by omega
      subst hii
      simp -dsimp [h0, h1, h7, h8, h5]
      have hq := hq v T
      rw [hsm, Nat.sub_self, someK] at hq
      exact hq hac
theorem some_run_call {H : List Ob} {a b j : Nat} {s : Rs} {Q : CR → List Ob → Prop} (h : RsOk s) (hab : a ≠ b) (haj : a ≠ j) (hbj : b ≠ j) (ha : H[a]? = some (Bx5 b)) (hb : H[b]? = some (Bx4 j)) (hj : H[j]? = some (Rd s))
    (hq : ∀ v J, Acc 2 H.length J v ((someF rdRun s).2.map (runT)) → Q (.ret v) (H.set j (Rd (someF rdRun s).1) ++ J)) : xCall p 79 [.ptr j 0, .fn (.func 80) [] [.ptr a 0, .ptr b 0]] H Q := by
  have h0 : refsL [.ptr j 0, .fn (.func 80) [] [.ptr a 0, .ptr b 0]] = [j, a, b] := by simp [refsL, refs]
  have rb : refs (byV s.b) = [] := ground_refs _ (byV.gd _)
  have eab : (a == b) = false := by simp [hab]
  have eba : (b == a) = false := by simp [Ne.symm hab]
  have eaj : (a == j) = false := by simp [haj]
  have eja : (j == a) = false := by simp [Ne.symm haj]
  have ebj : (b == j) = false := by simp [hbj]
  have ejb : (j == b) = false := by simp [Ne.symm hbj]
  have hr : reach H 1000 (refsL [.ptr j 0, .fn (.func 80) [] [.ptr a 0, .ptr b 0]]) [] = some [j, a, b] := by
    rw [h0]
    refine (reach_go (k := 999) (by simp) hj).trans ?_
    simp only [rb, refsOb, refsL, refs, List.nil_append, List.append_nil, List.cons_append]
    refine (reach_go (k := 998) (by simp; omega) ha).trans ?_
    simp only [rb, refsOb, refsL, refs, List.nil_append, List.append_nil, List.cons_append]
    refine (reach_go (k := 997) (by simp; omega) hb).trans ?_
    simp only [rb, refsOb, refsL, refs, List.nil_append, List.append_nil, List.cons_append]
    refine (reach_skip (k := 996) (by simp)).trans ?_
    refine (reach_skip (k := 995) (by simp)).trans ?_
    exact reach_end (k := 994)
  refine WCall_inl (by kernel_rfl) hr ?_
  have i0 : List.idxOf j [j, a, b] = 0 := by simp [List.idxOf_cons, eab, eba, eaj, eja, ebj, ejb]
  have i1 : List.idxOf a [j, a, b] = 1 := by simp [List.idxOf_cons, eab, eba, eaj, eja, ebj, ejb]
  have i2 : List.idxOf b [j, a, b] = 2 := by simp [List.idxOf_cons, eab, eba, eaj, eja, ebj, ejb]
  have e1 : renL (fun x => List.idxOf x [j, a, b]) [.ptr j 0, .fn (.func 80) [] [.ptr a 0, .ptr b 0]] = [.ptr 0 0, .fn (.func 80) [] [.ptr 1 0, .ptr 2 0]] := by simp only [renL, ren, i0, i1, i2]
  have e2 : (([j, a, b] : List Nat).map fun x => renOb (fun x => List.idxOf x [j, a, b]) (H[x]?.getD .dead)) = [Rd s, Bx5 2, Bx4 0] := by
    simp only [List.map_cons, List.map_nil, hj, ha, hb, Option.getD_some, rd_ren]
    simp only [renOb, renL, ren, i0, i1, i2]
  rw [e1, e2]
  refine some_run h fun v T hac => ⟨by simp, ?_⟩
  have rb2 : refs (byV (someF rdRun s).1.b) = [] := ground_refs _ (byV.gd _)
  have set3 : setAll H [j, a, b] [renOb (backK [j, a, b] H.length) (Rd (someF rdRun s).1), renOb (backK [j, a, b] H.length) (Bx5 2), renOb (backK [j, a, b] H.length) (Bx4 0)] = H.set j (Rd (someF rdRun s).1) := by
    rw [rd_ren]
    simp only [renOb, renL, ren, setAll, show backK [j, a, b] H.length 0 = j from rfl, show backK [j, a, b] H.length 1 = a from rfl, show backK [j, a, b] H.length 2 = b from rfl]
    rw [set_same (H := H.set j (Rd (someF rdRun s).1)) (by rw [List.getElem?_set_ne (by omega)]; exact ha)]
    rw [set_same (H := H.set j (Rd (someF rdRun s).1)) (by rw [List.getElem?_set_ne (by omega)]; exact hb)]
  rcases acc_cases hac with ⟨rfl, hnil⟩ | ⟨q, rfl⟩
  · have e4 : backH [j, a, b] (.ret (.list [] true)) (Rd (someF rdRun s).1 :: Bx5 2 :: Bx4 0 :: T) H = H.set j (Rd (someF rdRun s).1) := by
      unfold backH
      rw [if_neg (by simp [crV, refs, refsL, refsOb, rb2])]
      exact set3
    rw [e4]
    have := hq (.list [] true) [] (by rw [hnil]; exact acc_nil (by decide))
    simpa [renR, ren, renL] using this
  · have hg : ∀ x, backK [j, a, b] H.length (3 + x) = H.length + x := fun x => by simp [backK]; omega
    have e4 : backH [j, a, b] (.ret (.own (3 + q) 0 ((someF rdRun s).2.map (runT)).length 2)) (Rd (someF rdRun s).1 :: Bx5 2 :: Bx4 0 :: T) H = H.set j (Rd (someF rdRun s).1) ++ T.map (renOb (backK [j, a, b] H.length)) := by
      unfold backH
      rw [if_pos (by simp [crV, refs])]
      exact congrArg (· ++ T.map (renOb (backK [j, a, b] H.length))) set3
    rw [e4]
    have := hq _ _ (accg_back hg (by simp) hac)
    simpa [renR] using this
theorem some_slo {s : Rs} {Q : CR → List Ob → Prop} (h : RsOk s) (hq : ∀ v T, Acc 2 3 T v ((someF rdSlo s).2.map (sloV)) → Q (.ret v) (Rd (someF rdSlo s).1 :: Bx5 2 :: Bx4 0 :: T)) :
    WFun p 82 [.ptr 0 0, .fn (.func 83) [] [.ptr 1 0, .ptr 2 0]] [Rd s, Bx5 2, Bx4 0] Q := by
  have htop := rd_top s
  have hs0 := rd_rs (lo := 0) (hi := 65536) h
  have hsome : someF rdSlo s = someK rdSlo (rd 0 65536 s).2.toNat (rd 0 65536 s).1 [] := rfl
  refine WFun_of w82 rfl rfl k82 ?_
  simp -dsimp [w82]
  refine num_go h rfl ?_
  rw [hsome] at hq
  generalize (rd 0 65536 s).1 = s0 at *
  obtain ⟨N, hN⟩ : ∃ N : Nat, (rd 0 65536 s).2 = N := ⟨(rd 0 65536 s).2.toNat, by omega⟩
  rw [hN] at hq htop ⊢
  rw [Int.toNat_natCast] at hq
  simp -dsimp
  refine xL_by (by kernel_rfl) (fun k e H => ∃ (i : Nat) (v : V) (T : List Ob) (s1 : Rs) (acc : List Slo), i ≤ N ∧ k = N - i ∧ e 0 = .ptr 0 0 ∧ e 1 = .fn (.func 83) [] [.ptr 1 0, .ptr 2 0] ∧ e 7 = .int .i64 N ∧ e 8 = .int .i64 i ∧ e 5 = v ∧ H = Rd s1 :: Bx5 2 :: Bx4 0 :: T ∧ RsOk s1 ∧ Acc 2 3 T v (acc.map (sloV)) ∧ acc.length ≤ i ∧ someK rdSlo N s0 [] = someK rdSlo (N - i) s1 acc) N ?_ ?_
  · refine ⟨0, .list [] true, [], s0, [], by omega, rfl, ?_⟩
    simp -dsimp
    exact ⟨hs0, acc_nil (by decide)⟩
  · rintro k e H ⟨i, v, T, s1, acc, hi, hk, h0, h1, h7, h8, h5, rfl, hs, hac, hal, hsm⟩
    by_cases c1 : i < N
    · have hsu : N - i = (N - (i + 1)) + 1 := by omega
      have w2 : IntKind.i64.wrap ((i : Int) + 1) = ((i + 1 : Nat) : Int) := by rw [Fz.w64 (by omega) (by omega)]; omega
      simp -dsimp [h0, h1, h7, h8, h5, c1]
      refine err_go rfl ?_
      by_cases c2 : s1.e = 0
      · simp -dsimp [h0, h1, h7, h8, h5, c2]
        refine take3_call (a := 1) (b := 2) (j := 0) hs (by omega) (by omega) (by omega) rfl rfl rfl ?_
        simp -dsimp [h0, h1, h7, h8, h5]
        refine app_acc 3 (m := [(sloV) (rdSlo s1).2]) (l := acc.map (sloV)) (v := v) (by simpa using acc_ext hac _) (by simp) (by simp) rfl (by simp) (by simp) (by simp [capOk]; omega) fun v' J' hac' => ?_
        simp -dsimp [h0, h1, h7, h8, w2]
        refine ⟨N - (i + 1), by omega, i + 1, v', J', (rdSlo s1).1, acc ++ [(rdSlo s1).2], by omega, rfl, ?_⟩
        simp -dsimp [h0, h1, h7]
        refine ⟨rdSlo_rs hs, by simpa using hac', by omega, ?_⟩
        rw [hsm, hsu, someK, if_neg (by rw [c2]; simp)]
      · simp -dsimp [h0, h1, h7, h8, h5, c2]
        have hq := hq (.list [] true) T
        rw [hsm, hsu, someK, if_pos c2] at hq
        exact hq (acc_nil (by decide))
    · have hii : i = N := by omega
      subst hii
      simp -dsimp [h0, h1, h7, h8, h5]
      have hq := hq v T
      rw [hsm, Nat.sub_self, someK] at hq
      exact hq hac
theorem some_slo_call {H : List Ob} {a b j : Nat} {s : Rs} {Q : CR → List Ob → Prop} (h : RsOk s) (hab : a ≠ b) (haj : a ≠ j) (hbj : b ≠ j) (ha : H[a]? = some (Bx5 b)) (hb : H[b]? = some (Bx4 j)) (hj : H[j]? = some (Rd s))
    (hq : ∀ v J, Acc 2 H.length J v ((someF rdSlo s).2.map (sloV)) → Q (.ret v) (H.set j (Rd (someF rdSlo s).1) ++ J)) : xCall p 82 [.ptr j 0, .fn (.func 83) [] [.ptr a 0, .ptr b 0]] H Q := by
  have h0 : refsL [.ptr j 0, .fn (.func 83) [] [.ptr a 0, .ptr b 0]] = [j, a, b] := by simp [refsL, refs]
  have rb : refs (byV s.b) = [] := ground_refs _ (byV.gd _)
  have eab : (a == b) = false := by simp [hab]
  have eba : (b == a) = false := by simp [Ne.symm hab]
  have eaj : (a == j) = false := by simp [haj]
  have eja : (j == a) = false := by simp [Ne.symm haj]
  have ebj : (b == j) = false := by simp [hbj]
  have ejb : (j == b) = false := by simp [Ne.symm hbj]
  have hr : reach H 1000 (refsL [.ptr j 0, .fn (.func 83) [] [.ptr a 0, .ptr b 0]]) [] = some [j, a, b] := by
    rw [h0]
    refine (reach_go (k := 999) (by simp) hj).trans ?_
    simp only [rb, refsOb, refsL, refs, List.nil_append, List.append_nil, List.cons_append]
    refine (reach_go (k := 998) (by simp; omega) ha).trans ?_
    simp only [rb, refsOb, refsL, refs, List.nil_append, List.append_nil, List.cons_append]
    refine (reach_go (k := 997) (by simp; omega) hb).trans ?_
    simp only [rb, refsOb, refsL, refs, List.nil_append, List.append_nil, List.cons_append]
    refine (reach_skip (k := 996) (by simp)).trans ?_
    refine (reach_skip (k := 995) (by simp)).trans ?_
    exact reach_end (k := 994)
  refine WCall_inl (by kernel_rfl) hr ?_
  have i0 : List.idxOf j [j, a, b] = 0 := by simp [List.idxOf_cons, eab, eba, eaj, eja, ebj, ejb]
  have i1 : List.idxOf a [j, a, b] = 1 := by simp [List.idxOf_cons, eab, eba, eaj, eja, ebj, ejb]
  have i2 : List.idxOf b [j, a, b] = 2 := by simp [List.idxOf_cons, eab, eba, eaj, eja, ebj, ejb]
  have e1 : renL (fun x => List.idxOf x [j, a, b]) [.ptr j 0, .fn (.func 83) [] [.ptr a 0, .ptr b 0]] = [.ptr 0 0, .fn (.func 83) [] [.ptr 1 0, .ptr 2 0]] := by simp only [renL, ren, i0, i1, i2]
  have e2 : (([j, a, b] : List Nat).map fun x => renOb (fun x => List.idxOf x [j, a, b]) (H[x]?.getD .dead)) = [Rd s, Bx5 2, Bx4 0] := by
    simp only [List.map_cons, List.map_nil, hj, ha, hb, Option.getD_some, rd_ren]
    simp only [renOb, renL, ren, i0, i1, i2]
  rw [e1, e2]
  refine some_slo h fun v T hac => ⟨by simp, ?_⟩
  have rb2 : refs (byV (someF rdSlo s).1.b) = [] := ground_refs _ (byV.gd _)
  have set3 : setAll H [j, a, b] [renOb (backK [j, a, b] H.length) (Rd (someF rdSlo s).1), renOb (backK [j, a, b] H.length) (Bx5 2), renOb (backK [j, a, b] H.length) (Bx4 0)] = H.set j (Rd (someF rdSlo s).1) := by
    rw [rd_ren]
    simp only [renOb, renL, ren, setAll, show backK [j, a, b] H.length 0 = j from rfl, show backK [j, a, b] H.length 1 = a from rfl, show backK [j, a, b] H.length 2 = b from rfl]
    rw [set_same (H := H.set j (Rd (someF rdSlo s).1)) (by rw [List.getElem?_set_ne (by omega)]; exact ha)]
    rw [set_same (H := H.set j (Rd (someF rdSlo s).1)) (by rw [List.getElem?_set_ne (by omega)]; exact hb)]
  rcases acc_cases hac with ⟨rfl, hnil⟩ | ⟨q, rfl⟩
  · have e4 : backH [j, a, b] (.ret (.list [] true)) (Rd (someF rdSlo s).1 :: Bx5 2 :: Bx4 0 :: T) H = H.set j (Rd (someF rdSlo s).1) := by
      unfold backH
      rw [if_neg (by simp [crV, refs, refsL, refsOb, rb2])]
      exact set3
    rw [e4]
    have := hq (.list [] true) [] (by rw [hnil]; exact acc_nil (by decide))
    simpa [renR, ren, renL] using this
  · have hg : ∀ x, backK [j, a, b] H.length (3 + x) = H.length + x := fun x => by simp [backK]; omega
    have e4 : backH [j, a, b] (.ret (.own (3 + q) 0 ((someF rdSlo s).2.map (sloV)).length 2)) (Rd (someF rdSlo s).1 :: Bx5 2 :: Bx4 0 :: T) H = H.set j (Rd (someF rdSlo s).1) ++ T.map (renOb (backK [j, a, b] H.length)) := by
      unfold backH
      rw [if_pos (by simp [crV, refs])]
      exact congrArg (· ++ T.map (renOb (backK [j, a, b] H.length))) set3
    rw [e4]
    have := hq _ _ (accg_back hg (by simp) hac)
    simpa [renR] using this
theorem some_wor {s : Rs} {Q : CR → List Ob → Prop} (h : RsOk s) (hq : ∀ v T, Acc 4 3 T v ((someF rdWor s).2.map (worV)) → Q (.ret v) (Rd (someF rdWor s).1 :: Bx4 0 :: Bx5 1 :: T)) :
    WFun p 84 [.ptr 0 0, .fn (.func 85) [] [.ptr 1 0, .ptr 2 0]] [Rd s, Bx4 0, Bx5 1] Q := by
  have htop := rd_top s
  have hs0 := rd_rs (lo := 0) (hi := 65536) h
  have hsome : someF rdWor s = someK rdWor (rd 0 65536 s).2.toNat (rd 0 65536 s).1 [] := rfl
  refine WFun_of w84 rfl rfl k84 ?_
  simp -dsimp [w84]
  refine num_go h rfl ?_
  rw [hsome] at hq
  generalize (rd 0 65536 s).1 = s0 at *
  obtain ⟨N, hN⟩ : ∃ N : Nat, (rd 0 65536 s).2 = N := ⟨(rd 0 65536 s).2.toNat, by omega⟩
  rw [hN] at hq htop ⊢
  rw [Int.toNat_natCast] at hq
  simp -dsimp
  refine xL_by (by kernel_rfl) (fun k e H => ∃ (i : Nat) (v : V) (T : List Ob) (s1 : Rs) (acc : List Wor), i ≤ N ∧ k = N - i ∧ e 0 = .ptr 0 0 ∧ e 1 = .fn (.func 85) [] [.ptr 1 0, .ptr 2 0] ∧ e 7 = .int .i64 N ∧ e 8 = .int .i64 i ∧ e 5 = v ∧ H = Rd s1 :: Bx4 0 :: Bx5 1 :: T ∧ RsOk s1 ∧ Acc 4 3 T v (acc.map (worV)) ∧ acc.length ≤ i ∧ someK rdWor N s0 [] = someK rdWor (N - i) s1 acc) N ?_ ?_
  · refine ⟨0, .list [] true, [], s0, [], by omega, rfl, ?_⟩
    simp -dsimp
    exact ⟨hs0, acc_nil (by decide)⟩
  · rintro k e H ⟨i, v, T, s1, acc, hi, hk, h0, h1, h7, h8, h5, rfl, hs, hac, hal, hsm⟩
    by_cases c1 : i < N
    · have hsu : N - i = (N - (i + 1)) + 1 := by omega
      have w2 : IntKind.i64.wrap ((i : Int) + 1) = ((i + 1 : Nat) : Int) := by rw [Fz.w64 (by omega) (by omega)]; omega
      simp -dsimp [h0, h1, h7, h8, h5, c1]
      refine err_go rfl ?_
      by_cases c2 : s1.e = 0
      · simp -dsimp [h0, h1, h7, h8, h5, c2]
        refine take4_call (a := 2) (b := 1) (j := 0) hs (by omega) (by omega) (by omega) rfl rfl rfl ?_
        simp -dsimp [h0, h1, h7, h8, h5]
        refine app_acc 3 (m := [(worV) (rdWor s1).2]) (l := acc.map (worV)) (v := v) (by simpa using acc_ext hac _) (by simp) (by simp) rfl (by simp) (by simp) (by simp [capOk]; omega) fun v' J' hac' => ?_
        simp -dsimp [h0, h1, h7, h8, w2]
        refine ⟨N - (i + 1), by omega, i + 1, v', J', (rdWor s1).1, acc ++ [(rdWor s1).2], by omega, rfl, ?_⟩
        simp -dsimp [h0, h1, h7]
        refine ⟨rdWor_rs hs, by simpa using hac', by omega, ?_⟩
        rw [hsm, hsu, someK, if_neg (by rw [c2]; simp)]
      · simp -dsimp [h0, h1, h7, h8, h5, c2]
        have hq := hq (.list [] true) T
        rw [hsm, hsu, someK, if_pos c2] at hq
        exact hq (acc_nil (by decide))
    · have hii : i = N := by omega
      subst hii
      simp -dsimp [h0, h1, h7, h8, h5]
      have hq := hq v T
      rw [hsm, Nat.sub_self, someK] at hq
      exact hq hac
theorem some_wor_call {H : List Ob} {a b j : Nat} {s : Rs} {Q : CR → List Ob → Prop} (h : RsOk s) (hab : a ≠ b) (haj : a ≠ j) (hbj : b ≠ j) (ha : H[a]? = some (Bx5 b)) (hb : H[b]? = some (Bx4 j)) (hj : H[j]? = some (Rd s))
    (hq : ∀ v J, Acc 4 H.length J v ((someF rdWor s).2.map (worV)) → Q (.ret v) (H.set j (Rd (someF rdWor s).1) ++ J)) : xCall p 84 [.ptr j 0, .fn (.func 85) [] [.ptr b 0, .ptr a 0]] H Q := by
  have h0 : refsL [.ptr j 0, .fn (.func 85) [] [.ptr b 0, .ptr a 0]] = [j, b, a] := by simp [refsL, refs]
  have rb : refs (byV s.b) = [] := ground_refs _ (byV.gd _)
  have eab : (a == b) = false := by simp [hab]
  have eba : (b == a) = false := by simp [Ne.symm hab]
  have eaj : (a == j) = false := by simp [haj]
  have eja : (j == a) = false := by simp [Ne.symm haj]
  have ebj : (b == j) = false := by simp [hbj]
  have ejb : (j == b) = false := by simp [Ne.symm hbj]
  have hr : reach H 1000 (refsL [.ptr j 0, .fn (.func 85) [] [.ptr b 0, .ptr a 0]]) [] = some [j, b, a] := by
    rw [h0]
    refine (reach_go (k := 999) (by simp) hj).trans ?_
    simp only [rb, refsOb, refsL, refs, List.nil_append, List.append_nil, List.cons_append]
    refine (reach_go (k := 998) (by simp; omega) hb).trans ?_
    simp only [rb, refsOb, refsL, refs, List.nil_append, List.append_nil, List.cons_append]
    refine (reach_go (k := 997) (by simp; omega) ha).trans ?_
    simp only [rb, refsOb, refsL, refs, List.nil_append, List.append_nil, List.cons_append]
    refine (reach_skip (k := 996) (by simp)).trans ?_
    refine (reach_skip (k := 995) (by simp)).trans ?_
    exact reach_end (k := 994)
  refine WCall_inl (by kernel_rfl) hr ?_
  have i0 : List.idxOf j [j, b, a] = 0 := by simp [List.idxOf_cons, eab, eba, eaj, eja, ebj, ejb]
  have i1 : List.idxOf b [j, b, a] = 1 := by simp [List.idxOf_cons, eab, eba, eaj, eja, ebj, ejb]
  have i2 : List.idxOf a [j, b, a] = 2 := by simp [List.idxOf_cons, eab, eba, eaj, eja, ebj, ejb]
  have e1 : renL (fun x => List.idxOf x [j, b, a]) [.ptr j 0, .fn (.func 85) [] [.ptr b 0, .ptr a 0]] = [.ptr 0 0, .fn (.func 85) [] [.ptr 1 0, .ptr 2 0]] := by simp only [renL, ren, i0, i1, i2]
  have e2 : (([j, b, a] : List Nat).map fun x => renOb (fun x => List.idxOf x [j, b, a]) (H[x]?.getD .dead)) = [Rd s, Bx4 0, Bx5 1] := by
    simp only [List.map_cons, List.map_nil, hj, hb, ha, Option.getD_some, rd_ren]
    simp only [renOb, renL, ren, i0, i1, i2]
  rw [e1, e2]
  refine some_wor h fun v T hac => ⟨by simp, ?_⟩
  have rb2 : refs (byV (someF rdWor s).1.b) = [] := ground_refs _ (byV.gd _)
  have set3 : setAll H [j, b, a] [renOb (backK [j, b, a] H.length) (Rd (someF rdWor s).1), renOb (backK [j, b, a] H.length) (Bx4 0), renOb (backK [j, b, a] H.length) (Bx5 1)] = H.set j (Rd (someF rdWor s).1) := by
    rw [rd_ren]
    simp only [renOb, renL, ren, setAll, show backK [j, b, a] H.length 0 = j from rfl, show backK [j, b, a] H.length 1 = b from rfl, show backK [j, b, a] H.length 2 = a from rfl]
    rw [set_same (H := H.set j (Rd (someF rdWor s).1)) (by rw [List.getElem?_set_ne (by omega)]; exact hb)]
    rw [set_same (H := H.set j (Rd (someF rdWor s).1)) (by rw [List.getElem?_set_ne (by omega)]; exact ha)]
  rcases acc_cases hac with ⟨rfl, hnil⟩ | ⟨q, rfl⟩
  · have e4 : backH [j, b, a] (.ret (.list [] true)) (Rd (someF rdWor s).1 :: Bx4 0 :: Bx5 1 :: T) H = H.set j (Rd (someF rdWor s).1) := by
      unfold backH
      rw [if_neg (by simp [crV, refs, refsL, refsOb, rb2])]
      exact set3
    rw [e4]
    have := hq (.list [] true) [] (by rw [hnil]; exact acc_nil (by decide))
    simpa [renR, ren, renL] using this
  · have hg : ∀ x, backK [j, b, a] H.length (3 + x) = H.length + x := fun x => by simp [backK]; omega
    have e4 : backH [j, b, a] (.ret (.own (3 + q) 0 ((someF rdWor s).2.map (worV)).length 4)) (Rd (someF rdWor s).1 :: Bx4 0 :: Bx5 1 :: T) H = H.set j (Rd (someF rdWor s).1) ++ T.map (renOb (backK [j, b, a] H.length)) := by
      unfold backH
      rw [if_pos (by simp [crV, refs])]
      exact congrArg (· ++ T.map (renOb (backK [j, b, a] H.length))) set3
    rw [e4]
    have := hq _ _ (accg_back hg (by simp) hac)
    simpa [renR] using this
theorem some_spo {s : Rs} {Q : CR → List Ob → Prop} (h : RsOk s) (hq : ∀ v T, Acc 2 3 T v ((someF rdSpo s).2.map (spoV)) → Q (.ret v) (Rd (someF rdSpo s).1 :: Bx5 2 :: Bx4 0 :: T)) :
    WFun p 86 [.ptr 0 0, .fn (.func 87) [] [.ptr 1 0]] [Rd s, Bx5 2, Bx4 0] Q := by
  have htop := rd_top s
  have hs0 := rd_rs (lo := 0) (hi := 65536) h
  have hsome : someF rdSpo s = someK rdSpo (rd 0 65536 s).2.toNat (rd 0 65536 s).1 [] := rfl
  refine WFun_of w86 rfl rfl k86 ?_
  simp -dsimp [w86]
  refine num_go h rfl ?_
  rw [hsome] at hq
  generalize (rd 0 65536 s).1 = s0 at *
  obtain ⟨N, hN⟩ : ∃ N : Nat, (rd 0 65536 s).2 = N := ⟨(rd 0 65536 s).2.toNat, by omega⟩
  rw [hN] at hq htop ⊢
  rw [Int.toNat_natCast] at hq
  simp -dsimp
  refine xL_by (by kernel_rfl) (fun k e H => ∃ (i : Nat) (v : V) (T : List Ob) (s1 : Rs) (acc : List Spo), i ≤ N ∧ k = N - i ∧ e 0 = .ptr 0 0 ∧ e 1 = .fn (.func 87) [] [.ptr 1 0] ∧ e 7 = .int .i64 N ∧ e 8 = .int .i64 i ∧ e 5 = v ∧ H = Rd s1 :: Bx5 2 :: Bx4 0 :: T ∧ RsOk s1 ∧ Acc 2 3 T v (acc.map (spoV)) ∧ acc.length ≤ i ∧ someK rdSpo N s0 [] = someK rdSpo (N - i) s1 acc) N ?_ ?_
  · refine ⟨0, .list [] true, [], s0, [], by omega, rfl, ?_⟩
    simp -dsimp
    exact ⟨hs0, acc_nil (by decide)⟩
  · rintro k e H ⟨i, v, T, s1, acc, hi, hk, h0, h1, h7, h8, h5, rfl, hs, hac, hal, hsm⟩
    by_cases c1 : i < N
    · have hsu : N - i = (N - (i + 1)) + 1 := by omega
      have w2 : IntKind.i64.wrap ((i : Int) + 1) = ((i + 1 : Nat) : Int) := by rw [Fz.w64 (by omega) (by omega)]; omega
      simp -dsimp [h0, h1, h7, h8, h5, c1]
      refine err_go rfl ?_
      by_cases c2 : s1.e = 0
      · simp -dsimp [h0, h1, h7, h8, h5, c2]
        refine take5_call (a := 1) (b := 2) (j := 0) hs (by omega) (by omega) (by omega) rfl rfl rfl ?_
        simp -dsimp [h0, h1, h7, h8, h5]
        refine app_acc 3 (m := [(spoV) (rdSpo s1).2]) (l := acc.map (spoV)) (v := v) (by simpa using acc_ext hac _) (by simp) (by simp) rfl (by simp) (by simp) (by simp [capOk]; omega) fun v' J' hac' => ?_
        simp -dsimp [h0, h1, h7, h8, w2]
        refine ⟨N - (i + 1), by omega, i + 1, v', J', (rdSpo s1).1, acc ++ [(rdSpo s1).2], by omega, rfl, ?_⟩
        simp -dsimp [h0, h1, h7]
        refine ⟨rdSpo_rs hs, by simpa using hac', by omega, ?_⟩
        rw [hsm, hsu, someK, if_neg (by rw [c2]; simp)]
      · simp -dsimp [h0, h1, h7, h8, h5, c2]
        have hq := hq (.list [] true) T
        rw [hsm, hsu, someK, if_pos c2] at hq
        exact hq (acc_nil (by decide))
    · have hii : i = N := by omega
      subst hii
      simp -dsimp [h0, h1, h7, h8, h5]
      have hq := hq v T
      rw [hsm, Nat.sub_self, someK] at hq
      exact hq hac
theorem some_spo_call {H : List Ob} {a b j : Nat} {s : Rs} {Q : CR → List Ob → Prop} (h : RsOk s) (hab : a ≠ b) (haj : a ≠ j) (hbj : b ≠ j) (ha : H[a]? = some (Bx5 b)) (hb : H[b]? = some (Bx4 j)) (hj : H[j]? = some (Rd s))
    (hq : ∀ v J, Acc 2 H.length J v ((someF rdSpo s).2.map (spoV)) → Q (.ret v) (H.set j (Rd (someF rdSpo s).1) ++ J)) : xCall p 86 [.ptr j 0, .fn (.func 87) [] [.ptr a 0]] H Q := by
  have h0 : refsL [.ptr j 0, .fn (.func 87) [] [.ptr a 0]] = [j, a] := by simp [refsL, refs]
  have rb : refs (byV s.b) = [] := ground_refs _ (byV.gd _)
  have eab : (a == b) = false := by simp [hab]
  have eba : (b == a) = false := by simp [Ne.symm hab]
  have eaj : (a == j) = false := by simp [haj]
  have eja : (j == a) = false := by simp [Ne.symm haj]
  have ebj : (b == j) = false := by simp [hbj]
  have ejb : (j == b) = false := by simp [Ne.symm hbj]
  have hr : reach H 1000 (refsL [.ptr j 0, .fn (.func 87) [] [.ptr a 0]]) [] = some [j, a, b] := by
    rw [h0]
    refine (reach_go (k := 999) (by simp) hj).trans ?_
    simp only [rb, refsOb, refsL, refs, List.nil_append, List.append_nil, List.cons_append]
    refine (reach_go (k := 998) (by simp; omega) ha).trans ?_
    simp only [rb, refsOb, refsL, refs, List.nil_append, List.append_nil, List.cons_append]
    refine (reach_go (k := 997) (by simp; omega) hb).trans ?_
    simp only [rb, refsOb, refsL, refs, List.nil_append, List.append_nil, List.cons_append]
    refine (reach_skip (k := 996) (by simp)).trans ?_
    exact reach_end (k := 995)
  refine WCall_inl (by kernel_rfl) hr ?_
  have i0 : List.idxOf j [j, a, b] = 0 := by simp [List.idxOf_cons, eab, eba, eaj, eja, ebj, ejb]
  have i1 : List.idxOf a [j, a, b] = 1 := by simp [List.idxOf_cons, eab, eba, eaj, eja, ebj, ejb]
  have i2 : List.idxOf b [j, a, b] = 2 := by simp [List.idxOf_cons, eab, eba, eaj, eja, ebj, ejb]
  have e1 : renL (fun x => List.idxOf x [j, a, b]) [.ptr j 0, .fn (.func 87) [] [.ptr a 0]] = [.ptr 0 0, .fn (.func 87) [] [.ptr 1 0]] := by simp only [renL, ren, i0, i1, i2]
  have e2 : (([j, a, b] : List Nat).map fun x => renOb (fun x => List.idxOf x [j, a, b]) (H[x]?.getD .dead)) = [Rd s, Bx5 2, Bx4 0] := by
    simp only [List.map_cons, List.map_nil, hj, ha, hb, Option.getD_some, rd_ren]
    simp only [renOb, renL, ren, i0, i1, i2]
  rw [e1, e2]
  refine some_spo h fun v T hac => ⟨by simp, ?_⟩
  have rb2 : refs (byV (someF rdSpo s).1.b) = [] := ground_refs _ (byV.gd _)
  have set3 : setAll H [j, a, b] [renOb (backK [j, a, b] H.length) (Rd (someF rdSpo s).1), renOb (backK [j, a, b] H.length) (Bx5 2), renOb (backK [j, a, b] H.length) (Bx4 0)] = H.set j (Rd (someF rdSpo s).1) := by
    rw [rd_ren]
    simp only [renOb, renL, ren, setAll, show backK [j, a, b] H.length 0 = j from rfl, show backK [j, a, b] H.length 1 = a from rfl, show backK [j, a, b] H.length 2 = b from rfl]
    rw [set_same (H := H.set j (Rd (someF rdSpo s).1)) (by rw [List.getElem?_set_ne (by omega)]; exact ha)]
    rw [set_same (H := H.set j (Rd (someF rdSpo s).1)) (by rw [List.getElem?_set_ne (by omega)]; exact hb)]
  rcases acc_cases hac with ⟨rfl, hnil⟩ | ⟨q, rfl⟩
  · have e4 : backH [j, a, b] (.ret (.list [] true)) (Rd (someF rdSpo s).1 :: Bx5 2 :: Bx4 0 :: T) H = H.set j (Rd (someF rdSpo s).1) := by
      unfold backH
      rw [if_neg (by simp [crV, refs, refsL, refsOb, rb2])]
      exact set3
    rw [e4]
    have := hq (.list [] true) [] (by rw [hnil]; exact acc_nil (by decide))
    simpa [renR, ren, renL] using this
  · have hg : ∀ x, backK [j, a, b] H.length (3 + x) = H.length + x := fun x => by simp [backK]; omega
    have e4 : backH [j, a, b] (.ret (.own (3 + q) 0 ((someF rdSpo s).2.map (spoV)).length 2)) (Rd (someF rdSpo s).1 :: Bx5 2 :: Bx4 0 :: T) H = H.set j (Rd (someF rdSpo s).1) ++ T.map (renOb (backK [j, a, b] H.length)) := by
      unfold backH
      rw [if_pos (by simp [crV, refs])]
      exact congrArg (· ++ T.map (renOb (backK [j, a, b] H.length))) set3
    rw [e4]
    have := hq _ _ (accg_back hg (by simp) hac)
    simpa [renR] using this
end Fz.D
set_option maxRecDepth 100000
namespace Fz.D
open Go
abbrev D5 (W : List Ob) : List Ob := .dead :: .dead :: .dead :: .dead :: .dead :: W
theorem has_new5 {n : Nat} {W J : List Ob} {v : V} {l : List V} (h : Acc n (W.length + 1 + 1 + 1 + 1 + 1) J v l) : Has n (D5 (W ++ J)) v l := by
  refine has_ac (b := W.length + 1 + 1 + 1 + 1 + 1) (ac_acc ?_)
  have e : (D5 (W ++ J)).drop (W.length + 1 + 1 + 1 + 1 + 1) = J := by simp
  rw [e]; exact h
theorem has_old5 {n : Nat} {W : List Ob} {v : V} {l : List V} (J : List Ob) (h : Has n (D5 W) v l) : Has n (D5 (W ++ J)) v l := has_see (by simp) h
theorem has_fin5 {n : Nat} {W : List Ob} {v : V} {l : List V} {a b c d e : Ob} (h : Has n (D5 W) v l) : Has n (a :: b :: c :: d :: e :: W) v l := has_see (by simp) h
def De0 : De := { mem := [], dk := 0, dt := [], rk := 0, rt := [], ck := 0, ct := [], wk := 0, wt := [], sk := 0, st := [], out := 0, r0 := 0, r1 := 0, r2 := 0, r3 := 0, r4 := 0, r5 := 0, comp := false, halt := false }
structure Tk (b : List Int) where
  s1 : Rs
  mem : List Rn
  s2 : Rs
  dk : Int
  s3 : Rs
  dt : List Int
  s4 : Rs
  rk : Int
  s5 : Rs
  rt : List Slo
  s6 : Rs
  ck : Int
  s7 : Rs
  ct : List Int
  s8 : Rs
  wk : Int
  s9 : Rs
  wt : List Wor
  s10 : Rs
  sk : Int
  s11 : Rs
  st : List Spo
  s12 : Rs
  out : Int
  s13 : Rs
  r0 : Int
  s14 : Rs
  r1 : Int
  s15 : Rs
  r2 : Int
  s16 : Rs
  r3 : Int
  s17 : Rs
  r4 : Int
  s18 : Rs
  r5 : Int
  s19 : Rs
  fl : Int
  h1 : someF rdRun ⟨b, 0⟩ = (s1, mem)
  h2 : rdN s1 = (s2, dk)
  h3 : someF rdN s2 = (s3, dt)
  h4 : rdN s3 = (s4, rk)
  h5 : someF rdSlo s4 = (s5, rt)
  h6 : rdN s5 = (s6, ck)
  h7 : someF rdN s6 = (s7, ct)
  h8 : rdN s7 = (s8, wk)
  h9 : someF rdWor s8 = (s9, wt)
  h10 : rdN s9 = (s10, sk)
  h11 : someF rdSpo s10 = (s11, st)
  h12 : rdN s11 = (s12, out)
  h13 : rdN s12 = (s13, r0)
  h14 : rdN s13 = (s14, r1)
  h15 : rdN s14 = (s15, r2)
  h16 : rdN s15 = (s16, r3)
  h17 : rdN s16 = (s17, r4)
  h18 : rdN s17 = (s18, r5)
  h19 : rd 0 3 s18 = (s19, fl)
def tk (b : List Int) : Tk b :=
  let x1 := someF rdRun ⟨b, 0⟩
  let x2 := rdN x1.1
  let x3 := someF rdN x2.1
  let x4 := rdN x3.1
  let x5 := someF rdSlo x4.1
  let x6 := rdN x5.1
  let x7 := someF rdN x6.1
  let x8 := rdN x7.1
  let x9 := someF rdWor x8.1
  let x10 := rdN x9.1
  let x11 := someF rdSpo x10.1
  let x12 := rdN x11.1
  let x13 := rdN x12.1
  let x14 := rdN x13.1
  let x15 := rdN x14.1
  let x16 := rdN x15.1
  let x17 := rdN x16.1
  let x18 := rdN x17.1
  let x19 := rd 0 3 x18.1
  { s1 := x1.1, mem := x1.2, s2 := x2.1, dk := x2.2, s3 := x3.1, dt := x3.2, s4 := x4.1, rk := x4.2, s5 := x5.1, rt := x5.2, s6 := x6.1, ck := x6.2, s7 := x7.1, ct := x7.2, s8 := x8.1, wk := x8.2, s9 := x9.1, wt := x9.2, s10 := x10.1, sk := x10.2, s11 := x11.1, st := x11.2, s12 := x12.1, out := x12.2, s13 := x13.1, r0 := x13.2, s14 := x14.1, r1 := x14.2, s15 := x15.1, r2 := x15.2, s16 := x16.1, r3 := x16.2, s17 := x17.1, r4 := x17.2, s18 := x18.1, r5 := x18.2, s19 := x19.1, fl := x19.2, h1 := eta2 _, h2 := eta2 _, h3 := eta2 _, h4 := eta2 _, h5 := eta2 _, h6 := eta2 _, h7 := eta2 _, h8 := eta2 _, h9 := eta2 _, h10 := eta2 _, h11 := eta2 _, h12 := eta2 _, h13 := eta2 _, h14 := eta2 _, h15 := eta2 _, h16 := eta2 _, h17 := eta2 _, h18 := eta2 _, h19 := eta2 _ }
def Tk.d {b : List Int} (t : Tk b) : De := { mem := t.mem, dk := t.dk, dt := t.dt, rk := t.rk, rt := t.rt, ck := t.ck, ct := t.ct, wk := t.wk, wt := t.wt, sk := t.sk, st := t.st, out := t.out, r0 := t.r0, r1 := t.r1, r2 := t.r2, r3 := t.r3, r4 := t.r4, r5 := t.r5, comp := decide (t.fl % 2 = 1), halt := decide (2 ≤ t.fl) }
def takeV {b : List Int} (t : Tk b) : V := if endR t.s19 = 0 then .tuple [deV t.d, .int .i64 0] else .tuple [deV De0, .int .i64 (endR t.s19)]
theorem take_s {b : List Int} (t : Tk b) (hb : b.length ≤ 10000000) (hby : by8 b) : Comes p 35 [byV b] (takeV t) := by
  obtain ⟨s1, mem, s2, dk, s3, dt, s4, rk, s5, rt, s6, ck, s7, ct, s8, wk, s9, wt, s10, sk, s11, st, s12, out, s13, r0, s14, r1, s15, r2, s16, r3, s17, r4, s18, r5, s19, fl, h1, h2, h3, h4, h5, h6, h7, h8, h9, h10, h11, h12, h13, h14, h15, h16, h17, h18, h19⟩ := t
  have o0 : RsOk ⟨b, 0⟩ := ⟨hb, hby⟩
  have o1 : RsOk s1 := by have := someF_rs (fun _ h => rdRun_rs h) o0; rw [h1] at this; exact this
  have o2 : RsOk s2 := by have := rdN_rs o1; rw [h2] at this; exact this
  have o3 : RsOk s3 := by have := someF_rs (fun _ h => rdN_rs h) o2; rw [h3] at this; exact this
  have o4 : RsOk s4 := by have := rdN_rs o3; rw [h4] at this; exact this
  have o5 : RsOk s5 := by have := someF_rs (fun _ h => rdSlo_rs h) o4; rw [h5] at this; exact this
  have o6 : RsOk s6 := by have := rdN_rs o5; rw [h6] at this; exact this
  have o7 : RsOk s7 := by have := someF_rs (fun _ h => rdN_rs h) o6; rw [h7] at this; exact this
  have o8 : RsOk s8 := by have := rdN_rs o7; rw [h8] at this; exact this
  have o9 : RsOk s9 := by have := someF_rs (fun _ h => rdWor_rs h) o8; rw [h9] at this; exact this
  have o10 : RsOk s10 := by have := rdN_rs o9; rw [h10] at this; exact this
  have o11 : RsOk s11 := by have := someF_rs (fun _ h => rdSpo_rs h) o10; rw [h11] at this; exact this
  have o12 : RsOk s12 := by have := rdN_rs o11; rw [h12] at this; exact this
  have o13 : RsOk s13 := by have := rdN_rs o12; rw [h13] at this; exact this
  have o14 : RsOk s14 := by have := rdN_rs o13; rw [h14] at this; exact this
  have o15 : RsOk s15 := by have := rdN_rs o14; rw [h15] at this; exact this
  have o16 : RsOk s16 := by have := rdN_rs o15; rw [h16] at this; exact this
  have o17 : RsOk s17 := by have := rdN_rs o16; rw [h17] at this; exact this
  have o18 : RsOk s18 := by have := rdN_rs o17; rw [h18] at this; exact this
  have o19 : RsOk s19 := by have := rd_rs (lo := 0) (hi := 3) o18; rw [h19] at this; exact this
  have fl0 : 0 ≤ fl := by have := rd_nn 3 s18; rw [h19] at this; exact this
  refine Comes_of w35 rfl rfl k35 ?_ ?_ ?_ ?_
  · simp
  · simp
  · unfold takeV; split <;> simp
  · simp -dsimp [w35]
    refine new_s b ?_
    simp -dsimp
    refine some_run_call (a := 3) (b := 2) (j := 1) o0 (by omega) (by omega) (by omega) rfl rfl rfl fun v1 W a1 => ?_
    rw [h1] at a1 ⊢
    have g1 : Has 2 (D5 W) v1 (mem.map runT) := has_new5 (W := []) a1
    obtain ⟨x1, y1, u1⟩ := has_val g1
    simp -dsimp [x1, y1, u1]
    refine take1_call (i := 2) (j := 1) o1 (by omega) rfl rfl ?_
    rw [h2]
    simp -dsimp [x1, y1, u1]
    refine some_int_call (b := 2) (j := 1) o2 (by omega) rfl rfl fun v3 J a3 => ?_
    rw [h3] at a3 ⊢
    have g3 : Has 1 (D5 (W ++ J)) v3 (dt.map (V.int .i64)) := has_new5 (by simpa using a3)
    obtain ⟨x3, y3, u3⟩ := has_val g3
    have g1 := has_old5 J g1
    simp -dsimp [x1, y1, u1, x3, y3, u3]
    generalize W ++ J = W at *
    refine take1_call (i := 2) (j := 1) o3 (by omega) rfl rfl ?_
    rw [h4]
    simp -dsimp [x1, y1, u1, x3, y3, u3]
    refine some_slo_call (a := 3) (b := 2) (j := 1) o4 (by omega) (by omega) (by omega) rfl rfl rfl fun v5 J a5 => ?_
    rw [h5] at a5 ⊢
    have g5 : Has 2 (D5 (W ++ J)) v5 (rt.map (sloV)) := has_new5 (by simpa using a5)
    obtain ⟨x5, y5, u5⟩ := has_val g5
    have g1 := has_old5 J g1
    have g3 := has_old5 J g3
    simp -dsimp [x1, y1, u1, x3, y3, u3, x5, y5, u5]
    generalize W ++ J = W at *
    refine take1_call (i := 2) (j := 1) o5 (by omega) rfl rfl ?_
    rw [h6]
    simp -dsimp [x1, y1, u1, x3, y3, u3, x5, y5, u5]
    refine some_int_call (b := 2) (j := 1) o6 (by omega) rfl rfl fun v7 J a7 => ?_
    rw [h7] at a7 ⊢
    have g7 : Has 1 (D5 (W ++ J)) v7 (ct.map (V.int .i64)) := has_new5 (by simpa using a7)
    obtain ⟨x7, y7, u7⟩ := has_val g7
    have g1 := has_old5 J g1
    have g3 := has_old5 J g3
    have g5 := has_old5 J g5
    simp -dsimp [x1, y1, u1, x3, y3, u3, x5, y5, u5, x7, y7, u7]
    generalize W ++ J = W at *
    refine take1_call (i := 2) (j := 1) o7 (by omega) rfl rfl ?_
    rw [h8]
    simp -dsimp [x1, y1, u1, x3, y3, u3, x5, y5, u5, x7, y7, u7]
    refine some_wor_call (a := 3) (b := 2) (j := 1) o8 (by omega) (by omega) (by omega) rfl rfl rfl fun v9 J a9 => ?_
    rw [h9] at a9 ⊢
    have g9 : Has 4 (D5 (W ++ J)) v9 (wt.map (worV)) := has_new5 (by simpa using a9)
    obtain ⟨x9, y9, u9⟩ := has_val g9
    have g1 := has_old5 J g1
    have g3 := has_old5 J g3
    have g5 := has_old5 J g5
    have g7 := has_old5 J g7
    simp -dsimp [x1, y1, u1, x3, y3, u3, x5, y5, u5, x7, y7, u7, x9, y9, u9]
    generalize W ++ J = W at *
    refine take1_call (i := 2) (j := 1) o9 (by omega) rfl rfl ?_
    rw [h10]
    simp -dsimp [x1, y1, u1, x3, y3, u3, x5, y5, u5, x7, y7, u7, x9, y9, u9]
    refine some_spo_call (a := 3) (b := 2) (j := 1) o10 (by omega) (by omega) (by omega) rfl rfl rfl fun v11 J a11 => ?_
    rw [h11] at a11 ⊢
    have g11 : Has 2 (D5 (W ++ J)) v11 (st.map (spoV)) := has_new5 (by simpa using a11)
    obtain ⟨x11, y11, u11⟩ := has_val g11
    have g1 := has_old5 J g1
    have g3 := has_old5 J g3
    have g5 := has_old5 J g5
    have g7 := has_old5 J g7
    have g9 := has_old5 J g9
    simp -dsimp [x1, y1, u1, x3, y3, u3, x5, y5, u5, x7, y7, u7, x9, y9, u9, x11, y11, u11]
    generalize W ++ J = W at *
    refine take1_call (i := 2) (j := 1) o11 (by omega) rfl rfl ?_
    rw [h12]
    simp -dsimp [x1, y1, u1, x3, y3, u3, x5, y5, u5, x7, y7, u7, x9, y9, u9, x11, y11, u11]
    have w1 : IntKind.i64.wrap 1 = 1 := Fz.w64 (by omega) (by omega)
    have w2 : IntKind.i64.wrap 2 = 2 := Fz.w64 (by omega) (by omega)
    have w3 : IntKind.i64.wrap 3 = 3 := Fz.w64 (by omega) (by omega)
    have w4 : IntKind.i64.wrap 4 = 4 := Fz.w64 (by omega) (by omega)
    have w5 : IntKind.i64.wrap 5 = 5 := Fz.w64 (by omega) (by omega)
    have w6 : IntKind.i64.wrap 6 = 6 := Fz.w64 (by omega) (by omega)
    refine xL_one (by kernel_rfl) ?_
    simp -dsimp [w1, w2, w3, w4, w5, w6]
    refine take1_call (i := 2) (j := 1) o12 (by omega) rfl rfl ?_
    rw [h13]
    simp -dsimp [x1, y1, u1, x3, y3, u3, x5, y5, u5, x7, y7, u7, x9, y9, u9, x11, y11, u11, w1, w2, w3, w4, w5, w6, roundL]
    refine xL_one (by kernel_rfl) ?_
    simp -dsimp [w1, w2, w3, w4, w5, w6]
    refine take1_call (i := 2) (j := 1) o13 (by omega) rfl rfl ?_
    rw [h14]
    simp -dsimp [x1, y1, u1, x3, y3, u3, x5, y5, u5, x7, y7, u7, x9, y9, u9, x11, y11, u11, w1, w2, w3, w4, w5, w6, roundL]
    refine xL_one (by kernel_rfl) ?_
    simp -dsimp [w1, w2, w3, w4, w5, w6]
    refine take1_call (i := 2) (j := 1) o14 (by omega) rfl rfl ?_
    rw [h15]
    simp -dsimp [x1, y1, u1, x3, y3, u3, x5, y5, u5, x7, y7, u7, x9, y9, u9, x11, y11, u11, w1, w2, w3, w4, w5, w6, roundL]
    refine xL_one (by kernel_rfl) ?_
    simp -dsimp [w1, w2, w3, w4, w5, w6]
    refine take1_call (i := 2) (j := 1) o15 (by omega) rfl rfl ?_
    rw [h16]
    simp -dsimp [x1, y1, u1, x3, y3, u3, x5, y5, u5, x7, y7, u7, x9, y9, u9, x11, y11, u11, w1, w2, w3, w4, w5, w6, roundL]
    refine xL_one (by kernel_rfl) ?_
    simp -dsimp [w1, w2, w3, w4, w5, w6]
    refine take1_call (i := 2) (j := 1) o16 (by omega) rfl rfl ?_
    rw [h17]
    simp -dsimp [x1, y1, u1, x3, y3, u3, x5, y5, u5, x7, y7, u7, x9, y9, u9, x11, y11, u11, w1, w2, w3, w4, w5, w6, roundL]
    refine xL_one (by kernel_rfl) ?_
    simp -dsimp [w1, w2, w3, w4, w5, w6]
    refine take1_call (i := 2) (j := 1) o17 (by omega) rfl rfl ?_
    rw [h18]
    simp -dsimp [x1, y1, u1, x3, y3, u3, x5, y5, u5, x7, y7, u7, x9, y9, u9, x11, y11, u11, w1, w2, w3, w4, w5, w6, roundL]
    refine xL_one (by kernel_rfl) ?_
    simp -dsimp [roundL]
    refine num_go o18 rfl ?_
    rw [h19]
    simp -dsimp [Int.tmod_eq_emod_of_nonneg fl0]
    refine does_go (end_read s19) rfl ?_
    by_cases he : endR s19 = 0
    · simp -dsimp [he, takeV, x1, y1, u1, x3, y3, u3, x5, y5, u5, x7, y7, u7, x9, y9, u9, x11, y11, u11, wFix_by, isInl]
      refine frz_has (has_fin5 g1) (by simp [byT]) (by simp) (.inr ⟨by decide, fun x hx => by obtain ⟨a, _, rfl⟩ := List.mem_map.1 hx; exact ⟨_, rfl⟩⟩) fun F0 q0 _ => ?_
      simp -dsimp
      refine frz_has (has_see q0 (has_fin5 g3)) (by simp) (by simp) (.inl ⟨rfl, by simp⟩) fun F1 q1 _ => ?_
      have q1 := q0.trans q1
      simp -dsimp
      refine frz_has (has_see q1 (has_fin5 g5)) (by simp) (by simp) (.inr ⟨by decide, fun x hx => by obtain ⟨a, _, rfl⟩ := List.mem_map.1 hx; exact ⟨_, rfl⟩⟩) fun F2 q2 _ => ?_
      have q2 := q1.trans q2
      simp -dsimp
      refine frz_has (has_see q2 (has_fin5 g7)) (by simp) (by simp) (.inl ⟨rfl, by simp⟩) fun F3 q3 _ => ?_
      have q3 := q2.trans q3
      simp -dsimp
      refine frz_has (has_see q3 (has_fin5 g9)) (by simp) (by simp) (.inr ⟨by decide, fun x hx => by obtain ⟨a, _, rfl⟩ := List.mem_map.1 hx; exact ⟨_, rfl⟩⟩) fun F4 q4 _ => ?_
      have q4 := q3.trans q4
      simp -dsimp
      refine frz_has (has_see q4 (has_fin5 g11)) (by simp) (by simp) (.inr ⟨by decide, fun x hx => by obtain ⟨a, _, rfl⟩ := List.mem_map.1 hx; exact ⟨_, rfl⟩⟩) fun F5 q5 _ => ?_
      have q5 := q4.trans q5
      simp -dsimp
      rfl
    · simp -dsimp [he, takeV, wFix_by, isInl]
      rfl
end Fz.D
set_option maxRecDepth 100000
namespace Fz.D
open Go
theorem refEnds_s {b : List Int} (hb : b.length ≤ 10000000) : Comes p 115 [byV b] (.tuple [.int .i64 (endsF b).1, .int .i64 (endsF b).2]) := by
  refine Comes_of w115 rfl rfl k115 ?_ ?_ ?_ ?_
  · simp
  · simp
  · simp
  · simp -dsimp [w115]
    refine xL_by (by kernel_rfl) (fun k e H => ∃ i : Nat, i ≤ b.length ∧ i ≤ 10 ∧ k = 10 - i ∧ e 0 = byV b ∧ e 4 = .int .i64 i ∧ H = [] ∧ lead b = i + leadK (10 - i) (b.drop i)) 10 ?_ ?_
    · refine ⟨0, by omega, by omega, rfl, ?_⟩
      simp -dsimp [lead]
    · rintro k e H ⟨i, hi, hi10, hk, h0, h4, rfl, hl⟩
      have fin : lead b = i → (¬ i < b.length ∨ i = 10 ∨ gt b i < 128) → ∀ Q : Prop, Q → Q := fun _ _ _ h => h
      have w2 : IntKind.i64.wrap ((i : Int) + 1) = ((i + 1 : Nat) : Int) := by rw [Fz.w64 (by omega) (by omega)]; omega
      by_cases c1 : i < b.length
      · have g2 : b[i] = gt b i := gt_at c1
        have hg0 : 0 < b.length := by omega
        have hg0' : (0 : Int) < b.length := by omega
        have g0 : b[0] = gt b 0 := gt_at hg0
        by_cases c2 : i < 10
        · have c2' : (i : Int) < 10 := by omega
          by_cases c3 : 128 ≤ gt b i
          · have hgo := leadK_go (k := 9 - i) c1 (by rw [g2]; exact c3)
            rw [show 9 - i + 1 = 10 - i from by omega] at hgo
            have hl' : lead b = i + 1 + leadK (9 - i) (b.drop (i + 1)) := by rw [hl, hgo]; omega
            simp -dsimp [h0, h4, c1, c2, c2', g2, c3, w2]
            refine ⟨10 - (i + 1), by omega, i + 1, by omega, by omega, rfl, ?_⟩
            simp -dsimp [h0]
            exact hl'
          · have hlead : lead b = i := by rw [hl, leadK_stop c1 (by rw [g2]; omega)]; rfl
            have n10 : ¬ (i : Int) = 10 := by omega
            have nlen : ¬ (i : Int) = b.length := by omega
            by_cases d1 : gt b 0 = 128
            · have hE : endsF b = (0, 2) := by unfold endsF; rw [if_pos (.inl ⟨hg0, d1⟩)]
              rw [hE]
              simp -dsimp [h0, h4, c1, c2, c2', g2, c3, w2, hg0, hg0', g0, d1, wFix_by, isInl]
            · by_cases d2 : i = 9
              · subst d2
                have c1n : (9 : Int) < b.length := by omega
                have nl : ¬ (9 : Int) = b.length := by omega
                have w10 : IntKind.i64.wrap 10 = 10 := Fz.w64 (by omega) (by omega)
                by_cases d3 : 129 < gt b 0
                · have hE : endsF b = (0, 2) := by
                    unfold endsF
                    rw [if_neg (by rw [hlead]; omega), if_neg (by rw [hlead]; omega), if_pos ⟨hlead, d3⟩]
                  rw [hE]
                  simp -dsimp [h0, h4, c1, c2, c2', g2, c3, w2, hg0, hg0', g0, d1, d3, c1n, nl, w10, wFix_by, isInl]
                · have hE : endsF b = (10, 0) := by
                    unfold endsF
                    rw [if_neg (by rw [hlead]; omega), if_neg (by rw [hlead]; omega), if_neg (by omega), hlead]
                  rw [hE]
                  simp -dsimp [h0, h4, c1, c2, c2', g2, c3, w2, hg0, hg0', g0, d1, d3, c1n, nl, w10, wFix_by, isInl]
              · have d2' : ¬ (i : Int) = 9 := by omega
                have hE : endsF b = (i + 1, 0) := by
                  unfold endsF
                  rw [if_neg (by rw [hlead]; omega), if_neg (by rw [hlead]; omega), if_neg (by omega), hlead]
                rw [hE]
                simp -dsimp [h0, h4, c1, c2, c2', g2, c3, w2, hg0, hg0', g0, d1, d2, d2', n10, nlen, wFix_by, isInl]
        · have hii : i = 10 := by omega
          subst hii
          have hlead : lead b = 10 := by rw [hl]; simp [leadK]
          have hE : endsF b = (0, 2) := by unfold endsF; rw [if_pos (.inr hlead)]
          rw [hE]
          have c1n : (10 : Int) < b.length := by omega
          by_cases d1 : gt b 0 = 128
          · simp -dsimp [h0, h4, c1n, hg0, hg0', g0, d1, wFix_by, isInl]
          · simp -dsimp [h0, h4, c1n, hg0, hg0', g0, d1, wFix_by, isInl]
      · have hii : i = b.length := by omega
        subst hii
        have hlead : lead b = b.length := by rw [hl, leadK_end (by omega)]; rfl
        by_cases hg0 : 0 < b.length
        · have hg0' : (0 : Int) < b.length := by omega
          have g0 : b[0] = gt b 0 := gt_at hg0
          by_cases d1 : gt b 0 = 128
          · have hE : endsF b = (0, 2) := by unfold endsF; rw [if_pos (.inl ⟨hg0, d1⟩)]
            rw [hE]
            simp -dsimp [h0, h4, hg0, hg0', g0, d1, wFix_by, isInl]
          · by_cases d4 : b.length = 10
            · have d4' : (b.length : Int) = 10 := by omega
              have hE : endsF b = (0, 2) := by unfold endsF; rw [if_pos (.inr (by omega))]
              rw [hE]
              simp -dsimp [h0, h4, hg0, hg0', g0, d1, d4', wFix_by, isInl]
              try simp -dsimp [h0, h4, hg0, hg0', g0, d1, d4, wFix_by, isInl]
            · have d4' : ¬ (b.length : Int) = 10 := by omega
              have hE : endsF b = (0, 3) := by unfold endsF; rw [if_neg (by omega), if_pos hlead]
              rw [hE]
              simp -dsimp [h0, h4, hg0, hg0', g0, d1, d4, d4', wFix_by, isInl]
        · have hg0' : ¬ (0 : Int) < b.length := by omega
          have d4' : ¬ (b.length : Int) = 10 := by omega
          have hE : endsF b = (0, 3) := by unfold endsF; rw [if_neg (by omega), if_pos hlead]
          rw [hE]
          have d4 : ¬ b.length = 10 := by omega
          simp -dsimp [h0, h4, hg0, hg0', d4, d4', wFix_by, isInl]
end Fz.D
set_option maxRecDepth 100000
namespace Fz.D
open Go
def refC (B : List Int) (s : Rs) : List V := [byV B, .int .i64 (B.length - s.b.length : Nat), .int .i64 s.e]
def refV (B : List Int) (s : Rs) : V := .agg (refC B s)
@[simp] theorem refV.gd (B : List Int) (s : Rs) : ground (refV B s) = true := by simp [refV, refC]
@[simp] theorem refV.gk (B : List Int) (s : Rs) (k : Nat) : gk (k + 2) (refV B s) = true := by simp [refV, refC]
@[simp] theorem refV.nm (B : List Int) (s : Rs) : nm (refV B s) = true := by simp [refV, refC]
@[simp] theorem refV.nr (B : List Int) (s : Rs) : nrm (refV B s) = refV B s := by simp [refV, refC]
@[simp] theorem refV.any (B : List Int) (s : Rs) : isAny (refV B s) = false := rfl
@[simp] theorem refV.cells (B : List Int) (s : Rs) : cellsOf (refV B s) = refC B s := rfl
structure Suf (B : List Int) (s : Rs) : Prop where
  le : s.b.length ≤ B.length
  eq : s.b = B.drop (B.length - s.b.length)
  len : B.length ≤ 10000000
  by_ : by8 B
theorem suf_drop {B : List Int} {s : Rs} (h : Suf B s) (m : Nat) (e : Int) : Suf B ⟨s.b.drop m, e⟩ := by
  have h1 := h.le
  refine ⟨by simp; omega, ?_, h.len, h.by_⟩
  show s.b.drop m = B.drop (B.length - (s.b.drop m).length)
  conv => lhs; rw [h.eq, List.drop_drop]
  by_cases hm : m ≤ s.b.length
  · congr 1
    rw [List.length_drop]; omega
  · rw [List.drop_eq_nil_of_le (by omega), List.drop_eq_nil_of_le (by rw [List.length_drop]; omega)]
theorem suf_rd {B : List Int} {s : Rs} (h : Suf B s) (lo hi : Int) : Suf B (rd lo hi s).1 := by
  unfold rd
  split
  · exact h
  · split
    · exact suf_drop h 0 _
    · split <;> exact suf_drop h _ _
theorem suf_by {B : List Int} {s : Rs} (h : Suf B s) : by8 s.b := by
  rw [h.eq]; exact fun x hx => h.by_ x (List.mem_of_mem_drop hx)
theorem suf_ok {B : List Int} {s : Rs} (h : Suf B s) : RsOk s := ⟨by have := h.le; have := h.len; omega, suf_by h⟩
theorem read_s {B : List Int} {s : Rs} {lo hi : Int} (h : Suf B s) : Comes p 93 [refV B s, .int .i64 lo, .int .i64 hi] (.tuple [refV B (rd lo hi s).1, .int .i64 (rd lo hi s).2]) := by
  have hle := h.le
  have hln := h.len
  have hs8 := suf_by h
  have ce := refEnds_s (b := s.b) (by omega)
  refine Comes_of w93 rfl rfl k93 ?_ ?_ ?_ ?_
  · simp
  · simp
  · simp
  · by_cases he : s.e ≠ 0
    · have hr : rd lo hi s = (s, 0) := by unfold rd; rw [if_pos he]
      rw [hr]
      simp -dsimp [w93, refC, he, wFix_by, isInl]
      rfl
    · have he0 : s.e = 0 := by omega
      have hle2 := ends_le s.b
      have hez := @ends_z s.b
      have hrd : rd lo hi s = if (endsF s.b).2 ≠ 0 then (⟨s.b, (endsF s.b).2⟩, 0) else if unzz (valU (s.b.take (endsF s.b).1)) < lo ∨ hi < unzz (valU (s.b.take (endsF s.b).1)) then (⟨s.b.drop (endsF s.b).1, 2⟩, 0) else (⟨s.b.drop (endsF s.b).1, 0⟩, unzz (valU (s.b.take (endsF s.b).1))) := by
        conv => lhs; unfold rd
        rw [if_neg he]
      rw [hrd]
      generalize (endsF s.b).1 = m at *
      generalize (endsF s.b).2 = er at *
      have hdrop : List.drop (B.length - s.b.length) (B.map (V.int .u8)) = s.b.map (V.int .u8) := by rw [← List.map_drop, ← h.eq]
      have hlist : (V.list (s.b.map (V.int .u8)) false) = byV s.b := rfl
      have htk : List.take (B.length - (B.length - s.b.length)) (s.b.map (V.int .u8)) = s.b.map (V.int .u8) := List.take_of_length_le (by simp; omega)
      by_cases c2 : er = 0
      · simp -dsimp [w93, refC, he0, hdrop, htk, hlist, call_by ce, c2]
        refine xL_by (by kernel_rfl) (fun k e H => ∃ i : Nat, i ≤ m ∧ k = m - i ∧ e 1 = .int .i64 lo ∧ e 2 = .int .i64 hi ∧ e 3 = .ptr 0 0 ∧ e 6 = .ptr 1 0 ∧ e 8 = byV s.b ∧ e 9 = .int .i64 m ∧ e 12 = .int .i64 i ∧ e 11 = .int .u64 (valU (s.b.take i)) ∧ H = [.live [byV B, .int .i64 (B.length - s.b.length : Nat), .int .i64 0], .live [.list [] true, .int .i64 0, .int .i64 0]]) m ?_ ?_
        · refine ⟨0, by omega, by omega, ?_⟩
          simp -dsimp [valU]
        · rintro k e H ⟨i, hi1, hk, h1, h2, h3, h6, h8, h9, h12, h11, rfl⟩
          have hvr := valU_rng (s.b.take i)
          by_cases c1 : i < m
          · have cl : i < s.b.length := by omega
            have hc := hs8 s.b[i] (List.getElem_mem cl)
            have w2 : IntKind.i64.wrap ((i : Int) + 1) = ((i + 1 : Nat) : Int) := by rw [Fz.w64 (by omega) (by omega)]; omega
            have hst : valU (s.b.take (i + 1)) = val1 (valU (s.b.take i)) s.b[i] := by
              unfold valU
              rw [List.take_succ_eq_append_getElem cl, List.foldl_append]; rfl
            have tm : s.b[i].tmod 128 = s.b[i] % 128 := Int.tmod_eq_emod_of_nonneg hc.1
            have wc : IntKind.u64.wrap (s.b[i] % 128) = s.b[i] % 128 := u64 (by omega) (by omega)
            have wm : IntKind.u64.wrap (IntKind.u64.wrap (valU (s.b.take i) * 128) + s.b[i] % 128) = val1 (valU (s.b.take i)) s.b[i] := by
              show (valU (s.b.take i) * 128 % 18446744073709551616 + s.b[i] % 128) % 18446744073709551616 = _
              unfold val1; omega
            simp -dsimp [h1, h2, h3, h6, h8, h9, h12, h11, c1, cl, tm, wc, wm, w2]
            refine ⟨m - (i + 1), by omega, i + 1, by omega, rfl, ?_⟩
            simp -dsimp [h1, h2, h3, h6, h8, h9]
            rw [hst]
          · have hii : i = m := by omega
            subst hii
            have wp : IntKind.i64.wrap (((B.length - s.b.length : Nat) : Int) + (i : Int)) = ((B.length - (s.b.drop i).length : Nat) : Int) := by
              rw [Fz.w64 (by omega) (by omega), List.length_drop]; omega
            have wq : IntKind.i64.wrap (IntKind.u64.wrap ((valU (s.b.take i)).tdiv 2)) = valU (s.b.take i) / 2 := by
              rw [Int.tdiv_eq_ediv_of_nonneg hvr.1, u64 (by omega) (by omega)]; exact Fz.w64 (by omega) (by omega)
            have tm2 : (valU (s.b.take i)).tmod 2 = valU (s.b.take i) % 2 := Int.tmod_eq_emod_of_nonneg hvr.1
            have hur := unzz_rng hvr
            unfold i64 at hur
            have key : ∀ n, n = unzz (valU (s.b.take i)) → n < lo ∨ hi < n ∨ (¬ n < lo ∧ ¬ hi < n) := fun n _ => by omega
            by_cases c5 : valU (s.b.take i) % 2 = 1
            · have hu : unzz (valU (s.b.take i)) = -(valU (s.b.take i) / 2) - 1 := by unfold unzz; rw [if_neg (by omega)]
              have wn : IntKind.i64.wrap (IntKind.i64.wrap (-(valU (s.b.take i) / 2)) - 1) = unzz (valU (s.b.take i)) := by
                rw [Fz.w64 (n := -(valU (s.b.take i) / 2)) (by omega) (by omega), hu, Fz.w64 (by omega) (by omega)]
              generalize hun : unzz (valU (s.b.take i)) = u at *
              by_cases c3 : u < lo
              · simp -dsimp [h1, h2, h3, h6, h8, h9, h12, h11, wp, wq, tm2, c5, wn, c3, wFix_by, isInl]
                simp [refV, refC]
              · by_cases c4 : hi < u
                · simp -dsimp [h1, h2, h3, h6, h8, h9, h12, h11, wp, wq, tm2, c5, wn, c3, c4, wFix_by, isInl]
                  simp [refV, refC]
                · simp -dsimp [h1, h2, h3, h6, h8, h9, h12, h11, wp, wq, tm2, c5, wn, c3, c4, wFix_by, isInl]
                  simp [refV, refC]
            · have hu : unzz (valU (s.b.take i)) = valU (s.b.take i) / 2 := by unfold unzz; rw [if_pos (by omega)]
              rw [← hu] at wq
              generalize hun : unzz (valU (s.b.take i)) = u at *
              by_cases c3 : u < lo
              · simp -dsimp [h1, h2, h3, h6, h8, h9, h12, h11, wp, wq, tm2, c5, c3, wFix_by, isInl]
                simp [refV, refC]
              · by_cases c4 : hi < u
                · simp -dsimp [h1, h2, h3, h6, h8, h9, h12, h11, wp, wq, tm2, c5, c3, c4, wFix_by, isInl]
                  simp [refV, refC]
                · simp -dsimp [h1, h2, h3, h6, h8, h9, h12, h11, wp, wq, tm2, c5, c3, c4, wFix_by, isInl]
                  simp [refV, refC]
      · have hz := hez c2
        subst hz
        simp -dsimp [w93, refC, he0, hdrop, htk, hlist, call_by ce, c2, wFix_by, isInl]
        rfl
end Fz.D
