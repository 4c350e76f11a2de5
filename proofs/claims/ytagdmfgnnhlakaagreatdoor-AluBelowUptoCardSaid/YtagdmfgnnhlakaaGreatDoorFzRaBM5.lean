import Derived.Test.YtagdmfgnnhlakaaGreatDoorFzRaBM4
import Ieee.Arith
set_option linter.all false
set_option linter.unusedVariables false
set_option linter.unusedSimpArgs false
set_option linter.unnecessarySimpa false
set_option maxRecDepth 100000
namespace Fz.D
open Go
theorem both_s (q r : Int) : Comes p 87 [.int .i64 q, .int .i64 r] (inV [r, q]) := by
  refine Comes_of w87 rfl rfl k87 ?_ ?_ ?_ ?_
  · simp
  · simp
  · simp
  · simp -dsimp [w87]
    refine v_s (l := [r, q]) rfl rfl fun H' => ?_
    simp -dsimp [wFix_by, isInl]
theorem div_0 (a : Int) : Comes p 171 [.int .i64 a, .int .i64 0] (.tuple [.int .i64 0, .int .i64 0, .bool false]) := by
  refine Comes_of w171 rfl rfl k171 ?_ ?_ ?_ ?_
  · simp
  · simp
  · simp
  · simp -dsimp [w171, wFix_by, isInl]
theorem retQ {H : List Ob} {Q : CR → List Ob → Prop} {v : V} (hg : ground v = true) (hq : Q (.ret v) H) : Q (renR (backK [] H.length) (CR.ret v)) (backH [] (CR.ret v) [] H) := by
  have r1 : ∀ g, ren g v = v := fun g => ground_ren g _ hg
  simp only [renR, r1]
  unfold backH
  split <;> simpa [setAll] using hq
theorem quot_ok {q r b : Int} {g : FuncId} {l : List Int} (hb : b ≠ 0) (hw : Comes p g [.int .i64 q, .int .i64 r] (inV l)) (hY : ¬ g = 4000000000) {H : List Ob} {Q : CR → List Ob → Prop} (hq : Q (.ret (inV l)) H) : xCall p 172 [.int .i64 q, .int .i64 r, .bool true, .int .i64 b, .fn (.func g) [] []] H Q := by
  refine WCall_inl (ids := []) (by kernel_rfl) rfl ?_
  refine WFun_of w172 rfl rfl k172 ?_
  simp -dsimp [w172, renL, ren, hb]
  refine aIs_t ?_
  simp -dsimp []
  refine aIs_t ?_
  simp -dsimp [call_by hw, hY]
  exact retQ (inV.gd l) hq
theorem quot_0 {q r : Int} {ok : Bool} {g : FuncId} {H : List Ob} {Q : CR → List Ob → Prop} (hq : Q (.panic (thrown (-10))) H) : xCall p 172 [.int .i64 q, .int .i64 r, .bool ok, .int .i64 0, .fn (.func g) [] []] H Q := by
  refine WCall_inl (ids := []) (by kernel_rfl) rfl ?_
  refine WFun_of w172 rfl rfl k172 ?_
  simp -dsimp [w172, renL, ren]
  refine aIs_f (by decide) ?_
  simp -dsimp [thrown]
  unfold thrown at hq
  simp [renR, ren, backH, setAll]
  exact hq
theorem div_ok {a b : Int} {g : FuncId} {l : List Int} (hb : b ≠ 0) (hw : Comes p g [.int .i64 (divQ a b), .int .i64 (divR a b)] (inV l)) (hY : ¬ g = 4000000000) {H : List Ob} {k : Nat} (hk : H[k]? = some (.live [.fn (.func g) [] []])) {Q : CR → List Ob → Prop} (hq : Q (.ret (inV l)) H) : xCall p 170 [.int .i64 a, .int .i64 b, .ptr k 0] H Q := by
  have d := div_s (a := a) hb
  have hre : reach H 1000 (refsL [.int .i64 a, .int .i64 b, .ptr k 0]) [] = some [k] := by
    rw [show refsL [.int .i64 a, .int .i64 b, .ptr k 0] = [k] from by simp [refsL, refs]]
    exact reachQ hk rfl
  refine WCall_inl (by kernel_rfl) hre ?_
  have e1 : ([k] : List Nat).idxOf k = 0 := by simp
  have hi' : H[k]?.getD .dead = .live [.fn (.func g) [] []] := by rw [hk]; rfl
  simp -dsimp [renL, ren, renOb, e1, hi']
  refine WFun_of w170 rfl rfl k170 ?_
  simp -dsimp [w170, call_by d]
  refine quot_ok hb hw hY ?_
  simp -dsimp []
  have rb : ∀ g b, ren g (inV b) = inV b := fun g b => ground_ren g _ (inV.gd b)
  have r0 : ∀ b, refs (inV b) = [] := fun b => ground_refs _ (inV.gd b)
  simp [renR, rb, r0, backH, setAll, renOb, renL, ren, crV, refsOb, refsL, refs, setQ hk]
  exact hq
theorem div_thr {a : Int} {g : FuncId} {H : List Ob} {k : Nat} (hk : H[k]? = some (.live [.fn (.func g) [] []])) {Q : CR → List Ob → Prop} (hq : Q (.panic (thrown (-10))) H) : xCall p 170 [.int .i64 a, .int .i64 0, .ptr k 0] H Q := by
  have d := div_0 a
  have hre : reach H 1000 (refsL [.int .i64 a, .int .i64 0, .ptr k 0]) [] = some [k] := by
    rw [show refsL [.int .i64 a, .int .i64 0, .ptr k 0] = [k] from by simp [refsL, refs]]
    exact reachQ hk rfl
  refine WCall_inl (by kernel_rfl) hre ?_
  have e1 : ([k] : List Nat).idxOf k = 0 := by simp
  have hi' : H[k]?.getD .dead = .live [.fn (.func g) [] []] := by rw [hk]; rfl
  simp -dsimp [renL, ren, renOb, e1, hi']
  refine WFun_of w170 rfl rfl k170 ?_
  simp -dsimp [w170, call_by d]
  refine quot_0 ?_
  simp -dsimp [thrown]
  unfold thrown at hq
  simp [renR, backH, setAll, renOb, renL, ren, crV, refsOb, refsL, refs, setQ hk]
  exact hq
theorem reach3 {H : List Ob} {i k k2 : Nat} {l : List Int} {f : FuncId} {u : V} (hi : H[i]? = some (.live [inV l])) (hk : H[k]? = some (.live [.fn (.func f) [] [.ptr k2 0]])) (hk2 : H[k2]? = some (.live [u])) (hu : ground u = true) (hik : i ≠ k) (h2 : k2 ≠ i) (h3 : k2 ≠ k) : reach H 1000 (refsL [.ptr i 0, .ptr k 0]) [] = some [i, k, k2] := by
  have : refsL [.ptr i 0, .ptr k 0] = [i, k] := by simp [refsL, refs]
  rw [this]
  refine (reach_go (k := 999) rfl hi).trans ?_
  have r0 : refsOb (.live [inV l]) = [] := groundL_refs _ (by simp)
  have r1 : refsOb (.live [.fn (.func f) [] [.ptr k2 0]]) = [k2] := by simp [refsOb, refsL, refs]
  have r2 : refsOb (.live [u]) = [] := groundL_refs _ (by simp [hu])
  rw [r0]
  refine (reach_go (k := 998) (by simp; omega) hk).trans ?_
  rw [r1]
  refine (reach_go (k := 997) (by simp; omega) hk2).trans ?_
  rw [r2]
  exact reach_end (k := 996)
theorem back3 {H J : List Ob} {i k k2 : Nat} {v u : V} {l : List Int} {f : FuncId} (hk : H[k]? = some (.live [.fn (.func f) [] [.ptr k2 0]])) (hk2 : H[k2]? = some (.live [u])) (hu : ground u = true) (hik : i ≠ k) (h2 : k2 ≠ i) (hpv : PV 3 J v l) {Q : CR → List Ob → Prop} (hq : ∀ v J, PV H.length J v l → Q (.ret (.tuple [])) (H.set i (.live [v]) ++ J)) :
    Q (renR (backK [i, k, k2] H.length) (.ret (.tuple []))) (backH [i, k, k2] (.ret (.tuple [])) (.live [v] :: .live [.fn (.func f) [] [.ptr 2 0]] :: .live [u] :: J) H) := by
  have hb := pv_back (ids := [i, k, k2]) (H := H) hpv
  have ru : ∀ g, ren g u = u := fun g => ground_ren g _ hu
  have qu : refs u = [] := ground_refs _ hu
  have b2 : backK [i, k, k2] H.length 2 = k2 := rfl
  have s1 : ∀ o, ((H.set i o).set k (.live [.fn (.func f) [] [.ptr k2 0]])).set k2 (.live [u]) = H.set i o := fun o => by
    have e1 : (H.set i o).set k (.live [.fn (.func f) [] [.ptr k2 0]]) = H.set i o := setQ (by rw [List.getElem?_set_ne hik]; exact hk)
    rw [e1]
    exact setQ (by rw [List.getElem?_set_ne (by omega)]; exact hk2)
  rcases hpv with ⟨c, rfl⟩ | ⟨j, rfl, h4⟩
  · have rI : ∀ g, renL g (l.map (V.int .i64)) = l.map (V.int .i64) := fun g => groundL_ren g _ (by simp)
    have rx : refsL (l.map (V.int .i64)) = [] := groundL_refs _ (by simp)
    have := hq (.list (l.map (V.int .i64)) c) [] (.inl ⟨c, rfl⟩)
    simp [backH, setAll, renOb, ren, renL, renR, crV, refs, refsL, refsOb, rI, rx, ru, qu, b2, s1]
    simpa using this
  · have := hq _ _ hb
    have e1 : backH [i, k, k2] (.ret (.tuple [])) (.live [.own (3 + j) 0 l.length 1] :: .live [.fn (.func f) [] [.ptr 2 0]] :: .live [u] :: J) H = H.set i (.live [ren (backK [i, k, k2] H.length) (.own (3 + j) 0 l.length 1)]) ++ J.map (renOb (backK [i, k, k2] H.length)) := by
      unfold backH
      rw [if_pos (by simp [crV, refs, refsL, refsOb])]
      simp [setAll, renOb, renL, ren, ru, b2, s1]
    have e2 : ([i, k, k2] : List Nat).length + j = 3 + j := rfl
    rw [e1]
    simpa [renR, ren, renL] using this
theorem back3p {H J : List Ob} {i k k2 : Nat} {x u : V} {e : Int} {f : FuncId} (hx : ground x = true) (hk : H[k]? = some (.live [.fn (.func f) [] [.ptr k2 0]])) (hk2 : H[k2]? = some (.live [u])) (hu : ground u = true) (hik : i ≠ k) (h2 : k2 ≠ i) {Q : CR → List Ob → Prop} (hq : ∀ x J, Q (.panic (thrown e)) (H.set i (.live x) ++ J)) :
    Q (renR (backK [i, k, k2] H.length) (.panic (thrown e))) (backH [i, k, k2] (.panic (thrown e)) (.live [x] :: .live [.fn (.func f) [] [.ptr 2 0]] :: .live [u] :: J) H) := by
  have ru : ∀ g, ren g u = u := fun g => ground_ren g _ hu
  have rx : ∀ g, ren g x = x := fun g => ground_ren g _ hx
  have qu : refs u = [] := ground_refs _ hu
  have qx : refs x = [] := ground_refs _ hx
  have b2 : backK [i, k, k2] H.length 2 = k2 := rfl
  have s1 : ∀ o, ((H.set i o).set k (.live [.fn (.func f) [] [.ptr k2 0]])).set k2 (.live [u]) = H.set i o := fun o => by
    have e1 : (H.set i o).set k (.live [.fn (.func f) [] [.ptr k2 0]]) = H.set i o := setQ (by rw [List.getElem?_set_ne hik]; exact hk)
    rw [e1]
    exact setQ (by rw [List.getElem?_set_ne (by omega)]; exact hk2)
  have := hq [x] []
  simp [thrown, backH, setAll, renOb, ren, renL, renR, crV, refs, refsL, refsOb, rx, qx, ru, qu, b2, s1]
  simpa [thrown] using this
theorem one_cok {H : List Ob} {i k k2 : Nat} {l r : List Int} {a  : Int} {f : FuncId} {u : V} (hf : ∀ (H : List Ob) (k2 : Nat) (Q : CR → List Ob → Prop), H[k2]? = some (.live [u]) → Q (.ret (inV r)) H → xCall p f [.int .i64 a, .ptr k2 0] H Q) (hu : ground u = true) (hY : ¬ f = 4000000000) (hi : H[i]? = some (.live [inV (l ++ [a])])) (hk : H[k]? = some (.live [.fn (.func f) [] [.ptr k2 0]])) (hk2 : H[k2]? = some (.live [u])) (hl : l.length ≤ 10000) (hr : r.length ≤ 10) (hik : i ≠ k) (h2 : k2 ≠ i) (h3 : k2 ≠ k)
    {Q : CR → List Ob → Prop} (hq : ∀ v J, PV H.length J v (l ++ r) → Q (.ret (.tuple [])) (H.set i (.live [v]) ++ J)) : xCall p 162 [.ptr i 0, .ptr k 0] H Q := by
  refine WCall_inl (by kernel_rfl) (reach3 hi hk hk2 hu hik h2 h3) ?_
  have e1 : ([i, k, k2] : List Nat).idxOf i = 0 := by simp
  have e2 : ([i, k, k2] : List Nat).idxOf k = 1 := by
    have e0 : (i == k) = false := by rw [beq_eq_false_iff_ne]; exact hik
    simp [List.idxOf_cons, e0]
  have e3 : ([i, k, k2] : List Nat).idxOf k2 = 2 := by
    have e0 : (i == k2) = false := by rw [beq_eq_false_iff_ne]; omega
    have e0' : (k == k2) = false := by rw [beq_eq_false_iff_ne]; omega
    simp [List.idxOf_cons, e0, e0']
  have hi' : H[i]?.getD .dead = .live [inV (l ++ [a])] := by rw [hi]; rfl
  have hk' : H[k]?.getD .dead = .live [.fn (.func f) [] [.ptr k2 0]] := by rw [hk]; rfl
  have hk2' : H[k2]?.getD .dead = .live [u] := by rw [hk2]; rfl
  have rb : ∀ g b, ren g (inV b) = inV b := fun g b => ground_ren g _ (inV.gd b)
  have ru : ∀ g, ren g u = u := fun g => ground_ren g _ hu
  simp -dsimp [renL, ren, renOb, e1, e2, e3, hi', hk', hk2', rb, ru]
  refine WFun_of woneD rfl rfl koneD ?_
  simp -dsimp [woneD]
  refine WDraw_see (R := [.dead, .live [.fn (.func f) [] [.ptr 2 0]], .live [u]]) (by kernel_rfl) (by simp) ?_
  simp -dsimp []
  refine doesQ_go (popD (l := l) (a := a) (by first | omega | (simp; omega))) rfl ?_
  simp -dsimp [hY]
  refine hf _ 2 _ rfl ?_
  simp -dsimp []
  refine push_s (i := 0) (l := l) (vs := r) ?_ (by omega) fun v J pv => ?_
  · rfl
  simp -dsimp []
  exact back3 hk hk2 hu hik h2 pv hq
theorem one_cthr {H : List Ob} {i k k2 : Nat} {l  : List Int} {a e : Int} {f : FuncId} {u : V} (hf : ∀ (H : List Ob) (k2 : Nat) (Q : CR → List Ob → Prop), H[k2]? = some (.live [u]) → Q (.panic (thrown e)) H → xCall p f [.int .i64 a, .ptr k2 0] H Q) (hu : ground u = true) (hY : ¬ f = 4000000000) (hi : H[i]? = some (.live [inV (l ++ [a])])) (hk : H[k]? = some (.live [.fn (.func f) [] [.ptr k2 0]])) (hk2 : H[k2]? = some (.live [u])) (hl : l.length ≤ 10000)  (hik : i ≠ k) (h2 : k2 ≠ i) (h3 : k2 ≠ k)
    {Q : CR → List Ob → Prop} (hq : ∀ x J, Q (.panic (thrown e)) (H.set i (.live x) ++ J)) : xCall p 162 [.ptr i 0, .ptr k 0] H Q := by
  refine WCall_inl (by kernel_rfl) (reach3 hi hk hk2 hu hik h2 h3) ?_
  have e1 : ([i, k, k2] : List Nat).idxOf i = 0 := by simp
  have e2 : ([i, k, k2] : List Nat).idxOf k = 1 := by
    have e0 : (i == k) = false := by rw [beq_eq_false_iff_ne]; exact hik
    simp [List.idxOf_cons, e0]
  have e3 : ([i, k, k2] : List Nat).idxOf k2 = 2 := by
    have e0 : (i == k2) = false := by rw [beq_eq_false_iff_ne]; omega
    have e0' : (k == k2) = false := by rw [beq_eq_false_iff_ne]; omega
    simp [List.idxOf_cons, e0, e0']
  have hi' : H[i]?.getD .dead = .live [inV (l ++ [a])] := by rw [hi]; rfl
  have hk' : H[k]?.getD .dead = .live [.fn (.func f) [] [.ptr k2 0]] := by rw [hk]; rfl
  have hk2' : H[k2]?.getD .dead = .live [u] := by rw [hk2]; rfl
  have rb : ∀ g b, ren g (inV b) = inV b := fun g b => ground_ren g _ (inV.gd b)
  have ru : ∀ g, ren g u = u := fun g => ground_ren g _ hu
  simp -dsimp [renL, ren, renOb, e1, e2, e3, hi', hk', hk2', rb, ru]
  refine WFun_of woneD rfl rfl koneD ?_
  simp -dsimp [woneD]
  refine WDraw_pan (R := [.dead, .live [.fn (.func f) [] [.ptr 2 0]], .live [u]]) 4 rfl (by kernel_rfl) (by simp) ?_
  simp -dsimp []
  refine doesQ_go (popD (l := l) (a := a) (by first | omega | (simp; omega))) rfl ?_
  simp -dsimp [hY]
  refine hf _ 2 _ rfl ?_
  refine ⟨by simp, ?_⟩
  exact back3p (J := []) (inV.gd l) hk hk2 hu hik h2 hq
theorem two_cok {H : List Ob} {i k k2 : Nat} {l r : List Int} {a b  : Int} {f : FuncId} {u : V} (hf : ∀ (H : List Ob) (k2 : Nat) (Q : CR → List Ob → Prop), H[k2]? = some (.live [u]) → Q (.ret (inV r)) H → xCall p f [.int .i64 a, .int .i64 b, .ptr k2 0] H Q) (hu : ground u = true) (hY : ¬ f = 4000000000) (hi : H[i]? = some (.live [inV (l ++ [a, b])])) (hk : H[k]? = some (.live [.fn (.func f) [] [.ptr k2 0]])) (hk2 : H[k2]? = some (.live [u])) (hl : l.length ≤ 10000) (hr : r.length ≤ 10) (hik : i ≠ k) (h2 : k2 ≠ i) (h3 : k2 ≠ k)
    {Q : CR → List Ob → Prop} (hq : ∀ v J, PV H.length J v (l ++ r) → Q (.ret (.tuple [])) (H.set i (.live [v]) ++ J)) : xCall p 163 [.ptr i 0, .ptr k 0] H Q := by
  refine WCall_inl (by kernel_rfl) (reach3 hi hk hk2 hu hik h2 h3) ?_
  have e1 : ([i, k, k2] : List Nat).idxOf i = 0 := by simp
  have e2 : ([i, k, k2] : List Nat).idxOf k = 1 := by
    have e0 : (i == k) = false := by rw [beq_eq_false_iff_ne]; exact hik
    simp [List.idxOf_cons, e0]
  have e3 : ([i, k, k2] : List Nat).idxOf k2 = 2 := by
    have e0 : (i == k2) = false := by rw [beq_eq_false_iff_ne]; omega
    have e0' : (k == k2) = false := by rw [beq_eq_false_iff_ne]; omega
    simp [List.idxOf_cons, e0, e0']
  have hi' : H[i]?.getD .dead = .live [inV (l ++ [a, b])] := by rw [hi]; rfl
  have hk' : H[k]?.getD .dead = .live [.fn (.func f) [] [.ptr k2 0]] := by rw [hk]; rfl
  have hk2' : H[k2]?.getD .dead = .live [u] := by rw [hk2]; rfl
  have rb : ∀ g b, ren g (inV b) = inV b := fun g b => ground_ren g _ (inV.gd b)
  have ru : ∀ g, ren g u = u := fun g => ground_ren g _ hu
  simp -dsimp [renL, ren, renOb, e1, e2, e3, hi', hk', hk2', rb, ru]
  refine WFun_of wtwoD rfl rfl ktwoD ?_
  simp -dsimp [wtwoD]
  refine doesQ_go (needD (m := 2) (by simp; omega)) rfl ?_
  simp -dsimp []
  rw [show l ++ [a, b] = (l ++ [a]) ++ [b] from by simp]
  refine doesQ_go (popD (l := l ++ [a]) (a := b) (by first | omega | (simp; omega))) rfl ?_
  simp -dsimp []
  refine WDraw_see (R := [.dead, .live [.fn (.func f) [] [.ptr 2 0]], .live [u]]) (by kernel_rfl) (by simp) ?_
  simp -dsimp []
  refine doesQ_go (popD (l := l) (a := a) (by first | omega | (simp; omega))) rfl ?_
  simp -dsimp [hY]
  refine hf _ 2 _ rfl ?_
  simp -dsimp []
  refine push_s (i := 0) (l := l) (vs := r) ?_ (by omega) fun v J pv => ?_
  · rfl
  simp -dsimp []
  exact back3 hk hk2 hu hik h2 pv hq
theorem two_cthr {H : List Ob} {i k k2 : Nat} {l  : List Int} {a b e : Int} {f : FuncId} {u : V} (hf : ∀ (H : List Ob) (k2 : Nat) (Q : CR → List Ob → Prop), H[k2]? = some (.live [u]) → Q (.panic (thrown e)) H → xCall p f [.int .i64 a, .int .i64 b, .ptr k2 0] H Q) (hu : ground u = true) (hY : ¬ f = 4000000000) (hi : H[i]? = some (.live [inV (l ++ [a, b])])) (hk : H[k]? = some (.live [.fn (.func f) [] [.ptr k2 0]])) (hk2 : H[k2]? = some (.live [u])) (hl : l.length ≤ 10000)  (hik : i ≠ k) (h2 : k2 ≠ i) (h3 : k2 ≠ k)
    {Q : CR → List Ob → Prop} (hq : ∀ x J, Q (.panic (thrown e)) (H.set i (.live x) ++ J)) : xCall p 163 [.ptr i 0, .ptr k 0] H Q := by
  refine WCall_inl (by kernel_rfl) (reach3 hi hk hk2 hu hik h2 h3) ?_
  have e1 : ([i, k, k2] : List Nat).idxOf i = 0 := by simp
  have e2 : ([i, k, k2] : List Nat).idxOf k = 1 := by
    have e0 : (i == k) = false := by rw [beq_eq_false_iff_ne]; exact hik
    simp [List.idxOf_cons, e0]
  have e3 : ([i, k, k2] : List Nat).idxOf k2 = 2 := by
    have e0 : (i == k2) = false := by rw [beq_eq_false_iff_ne]; omega
    have e0' : (k == k2) = false := by rw [beq_eq_false_iff_ne]; omega
    simp [List.idxOf_cons, e0, e0']
  have hi' : H[i]?.getD .dead = .live [inV (l ++ [a, b])] := by rw [hi]; rfl
  have hk' : H[k]?.getD .dead = .live [.fn (.func f) [] [.ptr k2 0]] := by rw [hk]; rfl
  have hk2' : H[k2]?.getD .dead = .live [u] := by rw [hk2]; rfl
  have rb : ∀ g b, ren g (inV b) = inV b := fun g b => ground_ren g _ (inV.gd b)
  have ru : ∀ g, ren g u = u := fun g => ground_ren g _ hu
  simp -dsimp [renL, ren, renOb, e1, e2, e3, hi', hk', hk2', rb, ru]
  refine WFun_of wtwoD rfl rfl ktwoD ?_
  simp -dsimp [wtwoD]
  refine doesQ_go (needD (m := 2) (by simp; omega)) rfl ?_
  simp -dsimp []
  rw [show l ++ [a, b] = (l ++ [a]) ++ [b] from by simp]
  refine doesQ_go (popD (l := l ++ [a]) (a := b) (by first | omega | (simp; omega))) rfl ?_
  simp -dsimp []
  refine WDraw_pan (R := [.dead, .live [.fn (.func f) [] [.ptr 2 0]], .live [u]]) 5 rfl (by kernel_rfl) (by simp) ?_
  simp -dsimp []
  refine doesQ_go (popD (l := l) (a := a) (by first | omega | (simp; omega))) rfl ?_
  simp -dsimp [hY]
  refine hf _ 2 _ rfl ?_
  refine ⟨by simp, ?_⟩
  exact back3p (J := []) (inV.gd l) hk hk2 hu hik h2 hq
theorem three_cok {H : List Ob} {i k k2 : Nat} {l r : List Int} {a b c  : Int} {f : FuncId} {u : V} (hf : ∀ (H : List Ob) (k2 : Nat) (Q : CR → List Ob → Prop), H[k2]? = some (.live [u]) → Q (.ret (inV r)) H → xCall p f [.int .i64 a, .int .i64 b, .int .i64 c, .ptr k2 0] H Q) (hu : ground u = true) (hY : ¬ f = 4000000000) (hi : H[i]? = some (.live [inV (l ++ [a, b, c])])) (hk : H[k]? = some (.live [.fn (.func f) [] [.ptr k2 0]])) (hk2 : H[k2]? = some (.live [u])) (hl : l.length ≤ 10000) (hr : r.length ≤ 10) (hik : i ≠ k) (h2 : k2 ≠ i) (h3 : k2 ≠ k)
    {Q : CR → List Ob → Prop} (hq : ∀ v J, PV H.length J v (l ++ r) → Q (.ret (.tuple [])) (H.set i (.live [v]) ++ J)) : xCall p 165 [.ptr i 0, .ptr k 0] H Q := by
  refine WCall_inl (by kernel_rfl) (reach3 hi hk hk2 hu hik h2 h3) ?_
  have e1 : ([i, k, k2] : List Nat).idxOf i = 0 := by simp
  have e2 : ([i, k, k2] : List Nat).idxOf k = 1 := by
    have e0 : (i == k) = false := by rw [beq_eq_false_iff_ne]; exact hik
    simp [List.idxOf_cons, e0]
  have e3 : ([i, k, k2] : List Nat).idxOf k2 = 2 := by
    have e0 : (i == k2) = false := by rw [beq_eq_false_iff_ne]; omega
    have e0' : (k == k2) = false := by rw [beq_eq_false_iff_ne]; omega
    simp [List.idxOf_cons, e0, e0']
  have hi' : H[i]?.getD .dead = .live [inV (l ++ [a, b, c])] := by rw [hi]; rfl
  have hk' : H[k]?.getD .dead = .live [.fn (.func f) [] [.ptr k2 0]] := by rw [hk]; rfl
  have hk2' : H[k2]?.getD .dead = .live [u] := by rw [hk2]; rfl
  have rb : ∀ g b, ren g (inV b) = inV b := fun g b => ground_ren g _ (inV.gd b)
  have ru : ∀ g, ren g u = u := fun g => ground_ren g _ hu
  simp -dsimp [renL, ren, renOb, e1, e2, e3, hi', hk', hk2', rb, ru]
  refine WFun_of wthreeD rfl rfl kthreeD ?_
  simp -dsimp [wthreeD]
  refine doesQ_go (needD (m := 3) (by simp; omega)) rfl ?_
  simp -dsimp []
  rw [show l ++ [a, b, c] = (l ++ [a, b]) ++ [c] from by simp]
  refine doesQ_go (popD (l := l ++ [a, b]) (a := c) (by first | omega | (simp; omega))) rfl ?_
  simp -dsimp []
  rw [show l ++ [a, b] = (l ++ [a]) ++ [b] from by simp]
  refine doesQ_go (popD (l := l ++ [a]) (a := b) (by first | omega | (simp; omega))) rfl ?_
  simp -dsimp []
  refine WDraw_see (R := [.dead, .live [.fn (.func f) [] [.ptr 2 0]], .live [u]]) (by kernel_rfl) (by simp) ?_
  simp -dsimp []
  refine doesQ_go (popD (l := l) (a := a) (by first | omega | (simp; omega))) rfl ?_
  simp -dsimp [hY]
  refine hf _ 2 _ rfl ?_
  simp -dsimp []
  refine push_s (i := 0) (l := l) (vs := r) ?_ (by omega) fun v J pv => ?_
  · rfl
  simp -dsimp []
  exact back3 hk hk2 hu hik h2 pv hq
theorem three_cthr {H : List Ob} {i k k2 : Nat} {l  : List Int} {a b c e : Int} {f : FuncId} {u : V} (hf : ∀ (H : List Ob) (k2 : Nat) (Q : CR → List Ob → Prop), H[k2]? = some (.live [u]) → Q (.panic (thrown e)) H → xCall p f [.int .i64 a, .int .i64 b, .int .i64 c, .ptr k2 0] H Q) (hu : ground u = true) (hY : ¬ f = 4000000000) (hi : H[i]? = some (.live [inV (l ++ [a, b, c])])) (hk : H[k]? = some (.live [.fn (.func f) [] [.ptr k2 0]])) (hk2 : H[k2]? = some (.live [u])) (hl : l.length ≤ 10000)  (hik : i ≠ k) (h2 : k2 ≠ i) (h3 : k2 ≠ k)
    {Q : CR → List Ob → Prop} (hq : ∀ x J, Q (.panic (thrown e)) (H.set i (.live x) ++ J)) : xCall p 165 [.ptr i 0, .ptr k 0] H Q := by
  refine WCall_inl (by kernel_rfl) (reach3 hi hk hk2 hu hik h2 h3) ?_
  have e1 : ([i, k, k2] : List Nat).idxOf i = 0 := by simp
  have e2 : ([i, k, k2] : List Nat).idxOf k = 1 := by
    have e0 : (i == k) = false := by rw [beq_eq_false_iff_ne]; exact hik
    simp [List.idxOf_cons, e0]
  have e3 : ([i, k, k2] : List Nat).idxOf k2 = 2 := by
    have e0 : (i == k2) = false := by rw [beq_eq_false_iff_ne]; omega
    have e0' : (k == k2) = false := by rw [beq_eq_false_iff_ne]; omega
    simp [List.idxOf_cons, e0, e0']
  have hi' : H[i]?.getD .dead = .live [inV (l ++ [a, b, c])] := by rw [hi]; rfl
  have hk' : H[k]?.getD .dead = .live [.fn (.func f) [] [.ptr k2 0]] := by rw [hk]; rfl
  have hk2' : H[k2]?.getD .dead = .live [u] := by rw [hk2]; rfl
  have rb : ∀ g b, ren g (inV b) = inV b := fun g b => ground_ren g _ (inV.gd b)
  have ru : ∀ g, ren g u = u := fun g => ground_ren g _ hu
  simp -dsimp [renL, ren, renOb, e1, e2, e3, hi', hk', hk2', rb, ru]
  refine WFun_of wthreeD rfl rfl kthreeD ?_
  simp -dsimp [wthreeD]
  refine doesQ_go (needD (m := 3) (by simp; omega)) rfl ?_
  simp -dsimp []
  rw [show l ++ [a, b, c] = (l ++ [a, b]) ++ [c] from by simp]
  refine doesQ_go (popD (l := l ++ [a, b]) (a := c) (by first | omega | (simp; omega))) rfl ?_
  simp -dsimp []
  rw [show l ++ [a, b] = (l ++ [a]) ++ [b] from by simp]
  refine doesQ_go (popD (l := l ++ [a]) (a := b) (by first | omega | (simp; omega))) rfl ?_
  simp -dsimp []
  refine WDraw_pan (R := [.dead, .live [.fn (.func f) [] [.ptr 2 0]], .live [u]]) 6 rfl (by kernel_rfl) (by simp) ?_
  simp -dsimp []
  refine doesQ_go (popD (l := l) (a := a) (by first | omega | (simp; omega))) rfl ?_
  simp -dsimp [hY]
  refine hf _ 2 _ rfl ?_
  refine ⟨by simp, ?_⟩
  exact back3p (J := []) (inV.gd l) hk hk2 hu hik h2 hq
end Fz.D
set_option maxRecDepth 100000
namespace Fz.D
open Go
theorem back2p {H J : List Ob} {i k : Nat} {x u : V} {e : Int} (hx : ground x = true) (hk : H[k]? = some (.live [u])) (hu : ground u = true) (hik : i ≠ k) {Q : CR → List Ob → Prop} (hq : ∀ x J, Q (.panic (thrown e)) (H.set i (.live x) ++ J)) :
    Q (renR (backK [i, k] H.length) (.panic (thrown e))) (backH [i, k] (.panic (thrown e)) (.live [x] :: .live [u] :: J) H) := by
  have ru : ∀ g, ren g u = u := fun g => ground_ren g _ hu
  have rx : ∀ g, ren g x = x := fun g => ground_ren g _ hx
  have qu : refs u = [] := ground_refs _ hu
  have qx : refs x = [] := ground_refs _ hx
  have s1 : ∀ o, (H.set i o).set k (.live [u]) = H.set i o := fun o => setQ (by rw [List.getElem?_set_ne hik]; exact hk)
  have := hq [x] []
  simp [thrown, backH, setAll, renOb, ren, renL, renR, crV, refs, refsL, refsOb, rx, qx, ru, qu, s1]
  simpa [thrown] using this
theorem set_last {H J : List Ob} {x y : Ob} : (H ++ [x]).set H.length y ++ J = H ++ y :: J := by
  rw [List.set_append_right _ _ (Nat.le_refl _)]; simp
theorem get_last {H : List Ob} {x : Ob} : (H ++ [x])[H.length]? = some x := by simp
theorem get_old {H : List Ob} {x y : Ob} {k : Nat} (h : H[k]? = some y) : (H ++ [x])[k]? = some y := by
  rw [List.getElem?_append_left (List.getElem?_eq_some_iff.1 h).1]; exact h
theorem old_ne {H : List Ob} {y : Ob} {k : Nat} (h : H[k]? = some y) : H.length ≠ k := by
  have := (List.getElem?_eq_some_iff.1 h).1; omega
theorem one_ok {H : List Ob} {v : V} {f : FuncId} {l r : List Int} {a : Int} (hc : Chain H [162] (.fn (.func f) [] []) v) (hf : Comes p f [.int .i64 a] (inV r)) (hl : l.length ≤ 10000) (hr : r.length ≤ 10) (hY : ¬ f = 4000000000 := by decide) : WordOk H v (l ++ [a]) (l ++ r) := by
  obtain ⟨k, w, rfl, hk, rfl⟩ := hc
  refine ⟨_, _, rfl, by decide, fun Q hq => ?_⟩
  refine one_s (i := H.length) (k := k) hf get_last (get_old hk) hl hr hY fun v J pv => ?_
  rw [set_last]
  exact hq v J (by simpa using pv)
theorem one_underS {H : List Ob} {i k  : Nat} {l : List Int} {f : FuncId}  (hi : H[i]? = some (.live [inV l])) (hk : H[k]? = some (.live [.fn (.func f) [] []]))  (hik : i ≠ k) (hl : l.length < 1)
    {Q : CR → List Ob → Prop} (hq : ∀ x J, Q (.panic (thrown (-4))) (H.set i (.live x) ++ J)) : xCall p 162 [.ptr i 0, .ptr k 0] H Q := by
  refine WCall_inl (by kernel_rfl) (reach2 hi hk rfl hik) ?_
  have e1 : ([i, k] : List Nat).idxOf i = 0 := by simp
  have e2 : ([i, k] : List Nat).idxOf k = 1 := by
    have e0 : (i == k) = false := by rw [beq_eq_false_iff_ne]; exact hik
    simp [List.idxOf_cons, e0]
  have hi' : H[i]?.getD .dead = .live [inV l] := by rw [hi]; rfl
  have hk' : H[k]?.getD .dead = .live [.fn (.func f) [] []] := by rw [hk]; rfl
  have rb : ∀ g b, ren g (inV b) = inV b := fun g b => ground_ren g _ (inV.gd b)
  simp -dsimp [renL, ren, renOb, e1, e2, hi', hk', rb]
  refine WFun_of woneD rfl rfl koneD ?_
  simp -dsimp [woneD]
  have l0 : l = [] := List.length_eq_zero_iff.1 (by omega)
  subst l0
  refine WDraw_pan (R := [.dead, .live [.fn (.func f) [] []]]) 3 rfl (by kernel_rfl) (by simp) ?_
  simp -dsimp []
  refine pop_0 rfl ?_
  refine ⟨by simp, ?_⟩
  exact back2p (J := []) (inV.gd _) hk rfl hik hq
theorem one_undercS {H : List Ob} {i k k2 : Nat} {l : List Int} {f : FuncId} {u : V} (hu : ground u = true) (hi : H[i]? = some (.live [inV l])) (hk : H[k]? = some (.live [.fn (.func f) [] [.ptr k2 0]])) (hk2 : H[k2]? = some (.live [u])) (h2 : k2 ≠ i) (h3 : k2 ≠ k) (hik : i ≠ k) (hl : l.length < 1)
    {Q : CR → List Ob → Prop} (hq : ∀ x J, Q (.panic (thrown (-4))) (H.set i (.live x) ++ J)) : xCall p 162 [.ptr i 0, .ptr k 0] H Q := by
  refine WCall_inl (by kernel_rfl) (reach3 hi hk hk2 hu hik h2 h3) ?_
  have e1 : ([i, k, k2] : List Nat).idxOf i = 0 := by simp
  have e2 : ([i, k, k2] : List Nat).idxOf k = 1 := by
    have e0 : (i == k) = false := by rw [beq_eq_false_iff_ne]; exact hik
    simp [List.idxOf_cons, e0]
  have hi' : H[i]?.getD .dead = .live [inV l] := by rw [hi]; rfl
  have hk' : H[k]?.getD .dead = .live [.fn (.func f) [] [.ptr k2 0]] := by rw [hk]; rfl
  have rb : ∀ g b, ren g (inV b) = inV b := fun g b => ground_ren g _ (inV.gd b)
  have e3 : ([i, k, k2] : List Nat).idxOf k2 = 2 := by
    have e0 : (i == k2) = false := by rw [beq_eq_false_iff_ne]; omega
    have e0' : (k == k2) = false := by rw [beq_eq_false_iff_ne]; omega
    simp [List.idxOf_cons, e0, e0']
  have hk2' : H[k2]?.getD .dead = .live [u] := by rw [hk2]; rfl
  have ru : ∀ g, ren g u = u := fun g => ground_ren g _ hu
  simp -dsimp [renL, ren, renOb, e1, e2, e3, hi', hk', hk2', rb, ru]
  refine WFun_of woneD rfl rfl koneD ?_
  simp -dsimp [woneD]
  have l0 : l = [] := List.length_eq_zero_iff.1 (by omega)
  subst l0
  refine WDraw_pan (R := [.dead, .live [.fn (.func f) [] [.ptr 2 0]], .live [u]]) 3 rfl (by kernel_rfl) (by simp) ?_
  simp -dsimp []
  refine pop_0 rfl ?_
  refine ⟨by simp, ?_⟩
  exact back3p (J := []) (inV.gd _) hk hk2 hu hik h2 hq
theorem one_under {H : List Ob} {v : V} {f : FuncId} {l : List Int} (hc : Chain H [162] (.fn (.func f) [] []) v) (hl : l.length < 1) : WordThr H v l (-4) := by
  obtain ⟨k, w, rfl, hk, rfl⟩ := hc
  refine ⟨_, _, rfl, by decide, fun Q hq => ?_⟩
  refine one_underS (i := H.length) (k := k) get_last (get_old hk) (old_ne hk) hl fun x J => ?_
  rw [set_last]
  exact hq x J
theorem one_okC {H : List Ob} {v u : V} {f : FuncId} {l r : List Int} {a : Int} (hc : Chain H [162, f] u v) (hf : ∀ (H : List Ob) (k2 : Nat) (Q : CR → List Ob → Prop), H[k2]? = some (.live [u]) → Q (.ret (inV r)) H → xCall p f [.int .i64 a, .ptr k2 0] H Q) (hl : l.length ≤ 10000) (hr : r.length ≤ 10) (hu : ground u = true) (hY : ¬ f = 4000000000 := by decide) : WordOk H v (l ++ [a]) (l ++ r) := by
  obtain ⟨k, w, rfl, hk, k2, w2, rfl, hk2, rfl⟩ := hc
  have hne : k2 ≠ k := by
    rintro rfl
    rw [hk] at hk2
    cases hk2
    simp [ground] at hu
  refine ⟨_, _, rfl, by decide, fun Q hq => ?_⟩
  refine one_cok (i := H.length) (k := k) (k2 := k2) hf hu hY get_last (get_old hk) (get_old hk2) hl hr (old_ne hk) (fun e => old_ne hk2 e.symm) hne fun v J pv => ?_
  rw [set_last]
  exact hq v J (by simpa using pv)
theorem one_thrC {H : List Ob} {v u : V} {f : FuncId} {l  : List Int} {a e : Int} (hc : Chain H [162, f] u v) (hf : ∀ (H : List Ob) (k2 : Nat) (Q : CR → List Ob → Prop), H[k2]? = some (.live [u]) → Q (.panic (thrown e)) H → xCall p f [.int .i64 a, .ptr k2 0] H Q) (hl : l.length ≤ 10000) (hu : ground u = true) (hY : ¬ f = 4000000000 := by decide) : WordThr H v (l ++ [a]) e := by
  obtain ⟨k, w, rfl, hk, k2, w2, rfl, hk2, rfl⟩ := hc
  have hne : k2 ≠ k := by
    rintro rfl
    rw [hk] at hk2
    cases hk2
    simp [ground] at hu
  refine ⟨_, _, rfl, by decide, fun Q hq => ?_⟩
  refine one_cthr (i := H.length) (k := k) (k2 := k2) hf hu hY get_last (get_old hk) (get_old hk2) hl (old_ne hk) (fun e => old_ne hk2 e.symm) hne fun x J => ?_
  rw [set_last]
  exact hq x J
theorem one_underC {H : List Ob} {v u : V} {f : FuncId} {l  : List Int}  (hc : Chain H [162, f] u v) (hl : l.length < 1) (hu : ground u = true)  : WordThr H v l (-4) := by
  obtain ⟨k, w, rfl, hk, k2, w2, rfl, hk2, rfl⟩ := hc
  have hne : k2 ≠ k := by
    rintro rfl
    rw [hk] at hk2
    cases hk2
    simp [ground] at hu
  refine ⟨_, _, rfl, by decide, fun Q hq => ?_⟩
  refine one_undercS (i := H.length) (k := k) (k2 := k2) hu get_last (get_old hk) (get_old hk2) (fun e => old_ne hk2 e.symm) hne (old_ne hk) hl fun x J => ?_
  rw [set_last]
  exact hq x J
theorem two_ok {H : List Ob} {v : V} {f : FuncId} {l r : List Int} {a b : Int} (hc : Chain H [163] (.fn (.func f) [] []) v) (hf : Comes p f [.int .i64 a, .int .i64 b] (inV r)) (hl : l.length ≤ 10000) (hr : r.length ≤ 10) (hY : ¬ f = 4000000000 := by decide) : WordOk H v (l ++ [a, b]) (l ++ r) := by
  obtain ⟨k, w, rfl, hk, rfl⟩ := hc
  refine ⟨_, _, rfl, by decide, fun Q hq => ?_⟩
  refine two_s (i := H.length) (k := k) hf get_last (get_old hk) hl hr hY fun v J pv => ?_
  rw [set_last]
  exact hq v J (by simpa using pv)
theorem two_underS {H : List Ob} {i k  : Nat} {l : List Int} {f : FuncId}  (hi : H[i]? = some (.live [inV l])) (hk : H[k]? = some (.live [.fn (.func f) [] []]))  (hik : i ≠ k) (hl : l.length < 2)
    {Q : CR → List Ob → Prop} (hq : ∀ x J, Q (.panic (thrown (-4))) (H.set i (.live x) ++ J)) : xCall p 163 [.ptr i 0, .ptr k 0] H Q := by
  refine WCall_inl (by kernel_rfl) (reach2 hi hk rfl hik) ?_
  have e1 : ([i, k] : List Nat).idxOf i = 0 := by simp
  have e2 : ([i, k] : List Nat).idxOf k = 1 := by
    have e0 : (i == k) = false := by rw [beq_eq_false_iff_ne]; exact hik
    simp [List.idxOf_cons, e0]
  have hi' : H[i]?.getD .dead = .live [inV l] := by rw [hi]; rfl
  have hk' : H[k]?.getD .dead = .live [.fn (.func f) [] []] := by rw [hk]; rfl
  have rb : ∀ g b, ren g (inV b) = inV b := fun g b => ground_ren g _ (inV.gd b)
  simp -dsimp [renL, ren, renOb, e1, e2, hi', hk', rb]
  refine WFun_of wtwoD rfl rfl ktwoD ?_
  simp -dsimp [wtwoD]
  refine need_0 (l := l) rfl (by omega) ?_
  simp -dsimp []
  exact back2p (J := []) (inV.gd _) hk rfl hik hq
theorem two_undercS {H : List Ob} {i k k2 : Nat} {l : List Int} {f : FuncId} {u : V} (hu : ground u = true) (hi : H[i]? = some (.live [inV l])) (hk : H[k]? = some (.live [.fn (.func f) [] [.ptr k2 0]])) (hk2 : H[k2]? = some (.live [u])) (h2 : k2 ≠ i) (h3 : k2 ≠ k) (hik : i ≠ k) (hl : l.length < 2)
    {Q : CR → List Ob → Prop} (hq : ∀ x J, Q (.panic (thrown (-4))) (H.set i (.live x) ++ J)) : xCall p 163 [.ptr i 0, .ptr k 0] H Q := by
  refine WCall_inl (by kernel_rfl) (reach3 hi hk hk2 hu hik h2 h3) ?_
  have e1 : ([i, k, k2] : List Nat).idxOf i = 0 := by simp
  have e2 : ([i, k, k2] : List Nat).idxOf k = 1 := by
    have e0 : (i == k) = false := by rw [beq_eq_false_iff_ne]; exact hik
    simp [List.idxOf_cons, e0]
  have hi' : H[i]?.getD .dead = .live [inV l] := by rw [hi]; rfl
  have hk' : H[k]?.getD .dead = .live [.fn (.func f) [] [.ptr k2 0]] := by rw [hk]; rfl
  have rb : ∀ g b, ren g (inV b) = inV b := fun g b => ground_ren g _ (inV.gd b)
  have e3 : ([i, k, k2] : List Nat).idxOf k2 = 2 := by
    have e0 : (i == k2) = false := by rw [beq_eq_false_iff_ne]; omega
    have e0' : (k == k2) = false := by rw [beq_eq_false_iff_ne]; omega
    simp [List.idxOf_cons, e0, e0']
  have hk2' : H[k2]?.getD .dead = .live [u] := by rw [hk2]; rfl
  have ru : ∀ g, ren g u = u := fun g => ground_ren g _ hu
  simp -dsimp [renL, ren, renOb, e1, e2, e3, hi', hk', hk2', rb, ru]
  refine WFun_of wtwoD rfl rfl ktwoD ?_
  simp -dsimp [wtwoD]
  refine need_0 (l := l) rfl (by omega) ?_
  simp -dsimp []
  exact back3p (J := []) (inV.gd _) hk hk2 hu hik h2 hq
theorem two_under {H : List Ob} {v : V} {f : FuncId} {l : List Int} (hc : Chain H [163] (.fn (.func f) [] []) v) (hl : l.length < 2) : WordThr H v l (-4) := by
  obtain ⟨k, w, rfl, hk, rfl⟩ := hc
  refine ⟨_, _, rfl, by decide, fun Q hq => ?_⟩
  refine two_underS (i := H.length) (k := k) get_last (get_old hk) (old_ne hk) hl fun x J => ?_
  rw [set_last]
  exact hq x J
theorem two_okC {H : List Ob} {v u : V} {f : FuncId} {l r : List Int} {a b : Int} (hc : Chain H [163, f] u v) (hf : ∀ (H : List Ob) (k2 : Nat) (Q : CR → List Ob → Prop), H[k2]? = some (.live [u]) → Q (.ret (inV r)) H → xCall p f [.int .i64 a, .int .i64 b, .ptr k2 0] H Q) (hl : l.length ≤ 10000) (hr : r.length ≤ 10) (hu : ground u = true) (hY : ¬ f = 4000000000 := by decide) : WordOk H v (l ++ [a, b]) (l ++ r) := by
  obtain ⟨k, w, rfl, hk, k2, w2, rfl, hk2, rfl⟩ := hc
  have hne : k2 ≠ k := by
    rintro rfl
    rw [hk] at hk2
    cases hk2
    simp [ground] at hu
  refine ⟨_, _, rfl, by decide, fun Q hq => ?_⟩
  refine two_cok (i := H.length) (k := k) (k2 := k2) hf hu hY get_last (get_old hk) (get_old hk2) hl hr (old_ne hk) (fun e => old_ne hk2 e.symm) hne fun v J pv => ?_
  rw [set_last]
  exact hq v J (by simpa using pv)
theorem two_thrC {H : List Ob} {v u : V} {f : FuncId} {l  : List Int} {a b e : Int} (hc : Chain H [163, f] u v) (hf : ∀ (H : List Ob) (k2 : Nat) (Q : CR → List Ob → Prop), H[k2]? = some (.live [u]) → Q (.panic (thrown e)) H → xCall p f [.int .i64 a, .int .i64 b, .ptr k2 0] H Q) (hl : l.length ≤ 10000) (hu : ground u = true) (hY : ¬ f = 4000000000 := by decide) : WordThr H v (l ++ [a, b]) e := by
  obtain ⟨k, w, rfl, hk, k2, w2, rfl, hk2, rfl⟩ := hc
  have hne : k2 ≠ k := by
    rintro rfl
    rw [hk] at hk2
    cases hk2
    simp [ground] at hu
  refine ⟨_, _, rfl, by decide, fun Q hq => ?_⟩
  refine two_cthr (i := H.length) (k := k) (k2 := k2) hf hu hY get_last (get_old hk) (get_old hk2) hl (old_ne hk) (fun e => old_ne hk2 e.symm) hne fun x J => ?_
  rw [set_last]
  exact hq x J
theorem two_underC {H : List Ob} {v u : V} {f : FuncId} {l  : List Int}  (hc : Chain H [163, f] u v) (hl : l.length < 2) (hu : ground u = true)  : WordThr H v l (-4) := by
  obtain ⟨k, w, rfl, hk, k2, w2, rfl, hk2, rfl⟩ := hc
  have hne : k2 ≠ k := by
    rintro rfl
    rw [hk] at hk2
    cases hk2
    simp [ground] at hu
  refine ⟨_, _, rfl, by decide, fun Q hq => ?_⟩
  refine two_undercS (i := H.length) (k := k) (k2 := k2) hu get_last (get_old hk) (get_old hk2) (fun e => old_ne hk2 e.symm) hne (old_ne hk) hl fun x J => ?_
  rw [set_last]
  exact hq x J
theorem three_ok {H : List Ob} {v : V} {f : FuncId} {l r : List Int} {a b c : Int} (hc : Chain H [165] (.fn (.func f) [] []) v) (hf : Comes p f [.int .i64 a, .int .i64 b, .int .i64 c] (inV r)) (hl : l.length ≤ 10000) (hr : r.length ≤ 10) (hY : ¬ f = 4000000000 := by decide) : WordOk H v (l ++ [a, b, c]) (l ++ r) := by
  obtain ⟨k, w, rfl, hk, rfl⟩ := hc
  refine ⟨_, _, rfl, by decide, fun Q hq => ?_⟩
  refine three_s (i := H.length) (k := k) hf get_last (get_old hk) hl hr hY fun v J pv => ?_
  rw [set_last]
  exact hq v J (by simpa using pv)
theorem three_underS {H : List Ob} {i k  : Nat} {l : List Int} {f : FuncId}  (hi : H[i]? = some (.live [inV l])) (hk : H[k]? = some (.live [.fn (.func f) [] []]))  (hik : i ≠ k) (hl : l.length < 3)
    {Q : CR → List Ob → Prop} (hq : ∀ x J, Q (.panic (thrown (-4))) (H.set i (.live x) ++ J)) : xCall p 165 [.ptr i 0, .ptr k 0] H Q := by
  refine WCall_inl (by kernel_rfl) (reach2 hi hk rfl hik) ?_
  have e1 : ([i, k] : List Nat).idxOf i = 0 := by simp
  have e2 : ([i, k] : List Nat).idxOf k = 1 := by
    have e0 : (i == k) = false := by rw [beq_eq_false_iff_ne]; exact hik
    simp [List.idxOf_cons, e0]
  have hi' : H[i]?.getD .dead = .live [inV l] := by rw [hi]; rfl
  have hk' : H[k]?.getD .dead = .live [.fn (.func f) [] []] := by rw [hk]; rfl
  have rb : ∀ g b, ren g (inV b) = inV b := fun g b => ground_ren g _ (inV.gd b)
  simp -dsimp [renL, ren, renOb, e1, e2, hi', hk', rb]
  refine WFun_of wthreeD rfl rfl kthreeD ?_
  simp -dsimp [wthreeD]
  refine need_0 (l := l) rfl (by omega) ?_
  simp -dsimp []
  exact back2p (J := []) (inV.gd _) hk rfl hik hq
theorem three_undercS {H : List Ob} {i k k2 : Nat} {l : List Int} {f : FuncId} {u : V} (hu : ground u = true) (hi : H[i]? = some (.live [inV l])) (hk : H[k]? = some (.live [.fn (.func f) [] [.ptr k2 0]])) (hk2 : H[k2]? = some (.live [u])) (h2 : k2 ≠ i) (h3 : k2 ≠ k) (hik : i ≠ k) (hl : l.length < 3)
    {Q : CR → List Ob → Prop} (hq : ∀ x J, Q (.panic (thrown (-4))) (H.set i (.live x) ++ J)) : xCall p 165 [.ptr i 0, .ptr k 0] H Q := by
  refine WCall_inl (by kernel_rfl) (reach3 hi hk hk2 hu hik h2 h3) ?_
  have e1 : ([i, k, k2] : List Nat).idxOf i = 0 := by simp
  have e2 : ([i, k, k2] : List Nat).idxOf k = 1 := by
    have e0 : (i == k) = false := by rw [beq_eq_false_iff_ne]; exact hik
    simp [List.idxOf_cons, e0]
  have hi' : H[i]?.getD .dead = .live [inV l] := by rw [hi]; rfl
  have hk' : H[k]?.getD .dead = .live [.fn (.func f) [] [.ptr k2 0]] := by rw [hk]; rfl
  have rb : ∀ g b, ren g (inV b) = inV b := fun g b => ground_ren g _ (inV.gd b)
  have e3 : ([i, k, k2] : List Nat).idxOf k2 = 2 := by
    have e0 : (i == k2) = false := by rw [beq_eq_false_iff_ne]; omega
    have e0' : (k == k2) = false := by rw [beq_eq_false_iff_ne]; omega
    simp [List.idxOf_cons, e0, e0']
  have hk2' : H[k2]?.getD .dead = .live [u] := by rw [hk2]; rfl
  have ru : ∀ g, ren g u = u := fun g => ground_ren g _ hu
  simp -dsimp [renL, ren, renOb, e1, e2, e3, hi', hk', hk2', rb, ru]
  refine WFun_of wthreeD rfl rfl kthreeD ?_
  simp -dsimp [wthreeD]
  refine need_0 (l := l) rfl (by omega) ?_
  simp -dsimp []
  exact back3p (J := []) (inV.gd _) hk hk2 hu hik h2 hq
theorem three_under {H : List Ob} {v : V} {f : FuncId} {l : List Int} (hc : Chain H [165] (.fn (.func f) [] []) v) (hl : l.length < 3) : WordThr H v l (-4) := by
  obtain ⟨k, w, rfl, hk, rfl⟩ := hc
  refine ⟨_, _, rfl, by decide, fun Q hq => ?_⟩
  refine three_underS (i := H.length) (k := k) get_last (get_old hk) (old_ne hk) hl fun x J => ?_
  rw [set_last]
  exact hq x J
theorem three_okC {H : List Ob} {v u : V} {f : FuncId} {l r : List Int} {a b c : Int} (hc : Chain H [165, f] u v) (hf : ∀ (H : List Ob) (k2 : Nat) (Q : CR → List Ob → Prop), H[k2]? = some (.live [u]) → Q (.ret (inV r)) H → xCall p f [.int .i64 a, .int .i64 b, .int .i64 c, .ptr k2 0] H Q) (hl : l.length ≤ 10000) (hr : r.length ≤ 10) (hu : ground u = true) (hY : ¬ f = 4000000000 := by decide) : WordOk H v (l ++ [a, b, c]) (l ++ r) := by
  obtain ⟨k, w, rfl, hk, k2, w2, rfl, hk2, rfl⟩ := hc
  have hne : k2 ≠ k := by
    rintro rfl
    rw [hk] at hk2
    cases hk2
    simp [ground] at hu
  refine ⟨_, _, rfl, by decide, fun Q hq => ?_⟩
  refine three_cok (i := H.length) (k := k) (k2 := k2) hf hu hY get_last (get_old hk) (get_old hk2) hl hr (old_ne hk) (fun e => old_ne hk2 e.symm) hne fun v J pv => ?_
  rw [set_last]
  exact hq v J (by simpa using pv)
theorem three_thrC {H : List Ob} {v u : V} {f : FuncId} {l  : List Int} {a b c e : Int} (hc : Chain H [165, f] u v) (hf : ∀ (H : List Ob) (k2 : Nat) (Q : CR → List Ob → Prop), H[k2]? = some (.live [u]) → Q (.panic (thrown e)) H → xCall p f [.int .i64 a, .int .i64 b, .int .i64 c, .ptr k2 0] H Q) (hl : l.length ≤ 10000) (hu : ground u = true) (hY : ¬ f = 4000000000 := by decide) : WordThr H v (l ++ [a, b, c]) e := by
  obtain ⟨k, w, rfl, hk, k2, w2, rfl, hk2, rfl⟩ := hc
  have hne : k2 ≠ k := by
    rintro rfl
    rw [hk] at hk2
    cases hk2
    simp [ground] at hu
  refine ⟨_, _, rfl, by decide, fun Q hq => ?_⟩
  refine three_cthr (i := H.length) (k := k) (k2 := k2) hf hu hY get_last (get_old hk) (get_old hk2) hl (old_ne hk) (fun e => old_ne hk2 e.symm) hne fun x J => ?_
  rw [set_last]
  exact hq x J
theorem three_underC {H : List Ob} {v u : V} {f : FuncId} {l  : List Int}  (hc : Chain H [165, f] u v) (hl : l.length < 3) (hu : ground u = true)  : WordThr H v l (-4) := by
  obtain ⟨k, w, rfl, hk, k2, w2, rfl, hk2, rfl⟩ := hc
  have hne : k2 ≠ k := by
    rintro rfl
    rw [hk] at hk2
    cases hk2
    simp [ground] at hu
  refine ⟨_, _, rfl, by decide, fun Q hq => ?_⟩
  refine three_undercS (i := H.length) (k := k) (k2 := k2) hu get_last (get_old hk) (get_old hk2) (fun e => old_ne hk2 e.symm) hne (old_ne hk) hl fun x J => ?_
  rw [set_last]
  exact hq x J
theorem four_ok {H : List Ob} {v : V} {f : FuncId} {l r : List Int} {a b c d : Int} (hc : Chain H [166] (.fn (.func f) [] []) v) (hf : Comes p f [.int .i64 a, .int .i64 b, .int .i64 c, .int .i64 d] (inV r)) (hl : l.length ≤ 10000) (hr : r.length ≤ 10) (hY : ¬ f = 4000000000 := by decide) : WordOk H v (l ++ [a, b, c, d]) (l ++ r) := by
  obtain ⟨k, w, rfl, hk, rfl⟩ := hc
  refine ⟨_, _, rfl, by decide, fun Q hq => ?_⟩
  refine four_s (i := H.length) (k := k) hf get_last (get_old hk) hl hr hY fun v J pv => ?_
  rw [set_last]
  exact hq v J (by simpa using pv)
theorem four_underS {H : List Ob} {i k  : Nat} {l : List Int} {f : FuncId}  (hi : H[i]? = some (.live [inV l])) (hk : H[k]? = some (.live [.fn (.func f) [] []]))  (hik : i ≠ k) (hl : l.length < 4)
    {Q : CR → List Ob → Prop} (hq : ∀ x J, Q (.panic (thrown (-4))) (H.set i (.live x) ++ J)) : xCall p 166 [.ptr i 0, .ptr k 0] H Q := by
  refine WCall_inl (by kernel_rfl) (reach2 hi hk rfl hik) ?_
  have e1 : ([i, k] : List Nat).idxOf i = 0 := by simp
  have e2 : ([i, k] : List Nat).idxOf k = 1 := by
    have e0 : (i == k) = false := by rw [beq_eq_false_iff_ne]; exact hik
    simp [List.idxOf_cons, e0]
  have hi' : H[i]?.getD .dead = .live [inV l] := by rw [hi]; rfl
  have hk' : H[k]?.getD .dead = .live [.fn (.func f) [] []] := by rw [hk]; rfl
  have rb : ∀ g b, ren g (inV b) = inV b := fun g b => ground_ren g _ (inV.gd b)
  simp -dsimp [renL, ren, renOb, e1, e2, hi', hk', rb]
  refine WFun_of wfourD rfl rfl kfourD ?_
  simp -dsimp [wfourD]
  refine need_0 (l := l) rfl (by omega) ?_
  simp -dsimp []
  exact back2p (J := []) (inV.gd _) hk rfl hik hq
theorem four_under {H : List Ob} {v : V} {f : FuncId} {l : List Int} (hc : Chain H [166] (.fn (.func f) [] []) v) (hl : l.length < 4) : WordThr H v l (-4) := by
  obtain ⟨k, w, rfl, hk, rfl⟩ := hc
  refine ⟨_, _, rfl, by decide, fun Q hq => ?_⟩
  refine four_underS (i := H.length) (k := k) get_last (get_old hk) (old_ne hk) hl fun x J => ?_
  rw [set_last]
  exact hq x J
end Fz.D
set_option maxRecDepth 100000
namespace Fz.D
open Go
inductive Rs where
  | ok (l : List Int)
  | thr (e : Int)
inductive AW where
  | none
  | fn (n : Nat) (f : List Int → Rs)
  | all (f : List Int → Rs)
def aluR : AW → List Int → Option Rs
  | .none, _ => Option.none
  | .fn n f, l => some (if l.length < n then .thr (-4) else match f (l.drop (l.length - n)) with | .ok r => .ok (l.take (l.length - n) ++ r) | .thr e => .thr e)
  | .all f, l => some (f l)
def resV : Option Rs → Int → V
  | none, _ => .tuple [inV [], .int .i64 0, .bool false]
  | some (.thr e), _ => .tuple [inV [], .int .i64 e, .bool true]
  | some (.ok r), dep => if (r.length : Int) ≤ dep then .tuple [inV r, .int .i64 0, .bool true] else .tuple [inV [], .int .i64 (-3), .bool true]
def AluS (op : Int) (w : AW) : Prop := ∀ (l : List Int) (dep : Int), l.length ≤ 1000 → (∀ n ∈ l, i64 n) → Comes p 14 [.int .i64 op, inV l, .int .i64 dep] (resV (aluR w l) dep)
def WordIs (gs : List FuncId) (u : V) (l : List Int) : Rs → Prop
  | .ok r => ∀ H v, Chain H gs u v → WordOk H v l r
  | .thr e => ∀ H v, Chain H gs u v → WordThr H v l e
theorem aluS_is {op : Int} {gs : List FuncId} {u : V} {l : List Int} {dep : Int} {r : Rs} (hp : AluPreG op (inV l) (.int .i64 dep) gs u) (hw : WordIs gs u l r) : Comes p 14 [.int .i64 op, inV l, .int .i64 dep] (resV (some r) dep) := by
  cases r with
  | ok r =>
    show Comes _ _ _ (if (r.length : Int) ≤ dep then .tuple [inV r, .int .i64 0, .bool true] else .tuple [inV [], .int .i64 (-3), .bool true])
    by_cases h : (r.length : Int) ≤ dep
    · rw [if_pos h]; exact do_ok hp hw h
    · rw [if_neg h]; exact do_over hp hw h
  | thr e => exact do_thr hp hw
theorem aluS_fn {op : Int} {gs : List FuncId} {u : V} {n : Nat} {f : List Int → Rs} (hp : ∀ d dep, AluPreG op d dep gs u) (hu : ∀ l : List Int, l.length < n → WordIs gs u l (.thr (-4)))
    (ha : ∀ L a : List Int, a.length = n → L.length ≤ 1000 → (∀ n ∈ a, i64 n) → WordIs gs u (L ++ a) (match f a with | .ok r => .ok (L ++ r) | .thr e => .thr e)) : AluS op (.fn n f) := by
  intro l dep hl h8
  show Comes _ _ _ (resV (some (if l.length < n then .thr (-4) else match f (l.drop (l.length - n)) with | .ok r => .ok (l.take (l.length - n) ++ r) | .thr e => .thr e)) dep)
  by_cases h : l.length < n
  · rw [if_pos h]; exact aluS_is (hp _ _) (hu l h)
  · rw [if_neg h]
    have hs : l = l.take (l.length - n) ++ l.drop (l.length - n) := (List.take_append_drop _ _).symm
    have := ha (l.take (l.length - n)) (l.drop (l.length - n)) (by rw [List.length_drop]; omega) (by rw [List.length_take]; omega) (fun x hx => h8 x (List.mem_of_mem_drop hx))
    rw [← hs] at this
    exact aluS_is (hp _ _) this
theorem aluS_all {op : Int} {gs : List FuncId} {u : V} {f : List Int → Rs} (hp : ∀ d dep, AluPreG op d dep gs u) (ha : ∀ l : List Int, l.length ≤ 1000 → (∀ n ∈ l, i64 n) → WordIs gs u l (f l)) : AluS op (.all f) := by
  intro l dep hl h8
  exact aluS_is (hp _ _) (ha l hl h8)
def gA (a : List Int) (i : Nat) : Int := a.getD i 0
theorem len1 {a : List Int} (h : a.length = 1) : a = [gA a 0] := by
  match a, h with
  | [x], _ => rfl
theorem len2 {a : List Int} (h : a.length = 2) : a = [gA a 0, gA a 1] := by
  match a, h with
  | [x, y], _ => rfl
theorem len3 {a : List Int} (h : a.length = 3) : a = [gA a 0, gA a 1, gA a 2] := by
  match a, h with
  | [x, y, z], _ => rfl
theorem len4 {a : List Int} (h : a.length = 4) : a = [gA a 0, gA a 1, gA a 2, gA a 3] := by
  match a, h with
  | [x, y, z, t], _ => rfl
theorem aluS1 {op : Int} {f : FuncId} {r : Int → List Int} (hp : ∀ d dep, AluPreG op d dep [162] (.fn (.func f) [] [])) (hf : ∀ a, Comes p f [.int .i64 a] (inV (r a))) (hr : ∀ a, (r a).length ≤ 10) (hY : ¬ f = 4000000000 := by decide) : AluS op (.fn 1 fun a => .ok (r (gA a 0))) := by
  refine aluS_fn hp (fun l hl H v hc => one_under hc hl) fun L a ha hL h8 => ?_
  rw [len1 ha]
  exact fun H v hc => one_ok hc (hf _) (by omega) (hr _) hY
theorem aluS2 {op : Int} {f : FuncId} {r : Int → Int → List Int} (hp : ∀ d dep, AluPreG op d dep [163] (.fn (.func f) [] [])) (hf : ∀ a b, Comes p f [.int .i64 a, .int .i64 b] (inV (r a b))) (hr : ∀ a b, (r a b).length ≤ 10) (hY : ¬ f = 4000000000 := by decide) : AluS op (.fn 2 fun a => .ok (r (gA a 0) (gA a 1))) := by
  refine aluS_fn hp (fun l hl H v hc => two_under hc hl) fun L a ha hL h8 => ?_
  rw [len2 ha]
  exact fun H v hc => two_ok hc (hf _ _) (by omega) (hr _ _) hY
theorem aluS3 {op : Int} {f : FuncId} {r : Int → Int → Int → List Int} (hp : ∀ d dep, AluPreG op d dep [165] (.fn (.func f) [] [])) (hf : ∀ a b c, Comes p f [.int .i64 a, .int .i64 b, .int .i64 c] (inV (r a b c))) (hr : ∀ a b c, (r a b c).length ≤ 10) (hY : ¬ f = 4000000000 := by decide) : AluS op (.fn 3 fun a => .ok (r (gA a 0) (gA a 1) (gA a 2))) := by
  refine aluS_fn hp (fun l hl H v hc => three_under hc hl) fun L a ha hL h8 => ?_
  rw [len3 ha]
  exact fun H v hc => three_ok hc (hf _ _ _) (by omega) (hr _ _ _) hY
theorem aluS4 {op : Int} {f : FuncId} {r : Int → Int → Int → Int → List Int} (hp : ∀ d dep, AluPreG op d dep [166] (.fn (.func f) [] [])) (hf : ∀ a b c d, Comes p f [.int .i64 a, .int .i64 b, .int .i64 c, .int .i64 d] (inV (r a b c d))) (hr : ∀ a b c d, (r a b c d).length ≤ 10) (hY : ¬ f = 4000000000 := by decide) : AluS op (.fn 4 fun a => .ok (r (gA a 0) (gA a 1) (gA a 2) (gA a 3))) := by
  refine aluS_fn hp (fun l hl H v hc => four_under hc hl) fun L a ha hL h8 => ?_
  rw [len4 ha]
  exact fun H v hc => four_ok hc (hf _ _ _ _) (by omega) (hr _ _ _ _) hY
def BoxIs (f : FuncId) (u : V) (args : List V) : Rs → Prop
  | .ok r => ∀ (H : List Ob) (k2 : Nat) (Q : CR → List Ob → Prop), H[k2]? = some (.live [u]) → Q (.ret (inV r)) H → xCall p f (args ++ [.ptr k2 0]) H Q
  | .thr e => ∀ (H : List Ob) (k2 : Nat) (Q : CR → List Ob → Prop), H[k2]? = some (.live [u]) → Q (.panic (thrown e)) H → xCall p f (args ++ [.ptr k2 0]) H Q
def rsOk : Rs → Prop
  | .ok r => r.length ≤ 10
  | .thr _ => True
theorem aluS1c {op : Int} {f : FuncId} {u : V} {r : Int → Rs} (hp : ∀ d dep, AluPreG op d dep [162, f] u) (hu : ground u = true) (hf : ∀ a, i64 a → BoxIs f u [.int .i64 a] (r a)) (hr : ∀ a, rsOk (r a)) (hY : ¬ f = 4000000000 := by decide) : AluS op (.fn 1 fun a => r (gA a 0)) := by
  refine aluS_fn hp (fun l hl H v hc => one_underC hc hl hu) fun L a ha hL h8 => ?_
  have h0 : i64 (gA a 0) := h8 _ (by rw [len1 ha]; simp [gA])
  rw [len1 ha]
  have h1 := hf (gA a 0) h0
  have h2 := hr (gA a 0)
  show WordIs _ _ _ (match r (gA a 0) with | .ok r => .ok (L ++ r) | .thr e => .thr e)
  cases hrr : r (gA a 0) with
  | ok x => rw [hrr] at h1 h2; exact fun H v hc => one_okC hc h1 (by omega) h2 hu hY
  | thr e => rw [hrr] at h1; exact fun H v hc => one_thrC hc h1 (by omega) hu hY
theorem aluS2c {op : Int} {f : FuncId} {u : V} {r : Int → Int → Rs} (hp : ∀ d dep, AluPreG op d dep [163, f] u) (hu : ground u = true) (hf : ∀ a b, i64 a → i64 b → BoxIs f u [.int .i64 a, .int .i64 b] (r a b)) (hr : ∀ a b, rsOk (r a b)) (hY : ¬ f = 4000000000 := by decide) : AluS op (.fn 2 fun a => r (gA a 0) (gA a 1)) := by
  refine aluS_fn hp (fun l hl H v hc => two_underC hc hl hu) fun L a ha hL h8 => ?_
  have h0 : i64 (gA a 0) := h8 _ (by rw [len2 ha]; simp [gA])
  have h1' : i64 (gA a 1) := h8 _ (by rw [len2 ha]; simp [gA])
  rw [len2 ha]
  have h1 := hf (gA a 0) (gA a 1) h0 h1'
  have h2 := hr (gA a 0) (gA a 1)
  show WordIs _ _ _ (match r (gA a 0) (gA a 1) with | .ok r => .ok (L ++ r) | .thr e => .thr e)
  cases hrr : r (gA a 0) (gA a 1) with
  | ok x => rw [hrr] at h1 h2; exact fun H v hc => two_okC hc h1 (by omega) h2 hu hY
  | thr e => rw [hrr] at h1; exact fun H v hc => two_thrC hc h1 (by omega) hu hY
theorem aluS3c {op : Int} {f : FuncId} {u : V} {r : Int → Int → Int → Rs} (hp : ∀ d dep, AluPreG op d dep [165, f] u) (hu : ground u = true) (hf : ∀ a b c, i64 a → i64 b → i64 c → BoxIs f u [.int .i64 a, .int .i64 b, .int .i64 c] (r a b c)) (hr : ∀ a b c, rsOk (r a b c)) (hY : ¬ f = 4000000000 := by decide) : AluS op (.fn 3 fun a => r (gA a 0) (gA a 1) (gA a 2)) := by
  refine aluS_fn hp (fun l hl H v hc => three_underC hc hl hu) fun L a ha hL h8 => ?_
  have h0 : i64 (gA a 0) := h8 _ (by rw [len3 ha]; simp [gA])
  have h1' : i64 (gA a 1) := h8 _ (by rw [len3 ha]; simp [gA])
  have h2' : i64 (gA a 2) := h8 _ (by rw [len3 ha]; simp [gA])
  rw [len3 ha]
  have h1 := hf (gA a 0) (gA a 1) (gA a 2) h0 h1' h2'
  have h2 := hr (gA a 0) (gA a 1) (gA a 2)
  show WordIs _ _ _ (match r (gA a 0) (gA a 1) (gA a 2) with | .ok r => .ok (L ++ r) | .thr e => .thr e)
  cases hrr : r (gA a 0) (gA a 1) (gA a 2) with
  | ok x => rw [hrr] at h1 h2; exact fun H v hc => three_okC hc h1 (by omega) h2 hu hY
  | thr e => rw [hrr] at h1; exact fun H v hc => three_thrC hc h1 (by omega) hu hY
theorem aluS_none {op : Int} {nm : ByteArray} (hn : Comes p 17 [.int .i64 op] (.str nm)) (h : ∀ d dep, ((runL (exec p 200) ((aluPre.drop 2).map toA) (eN nm op d dep) hN).map fun r => (r.1, r.2.1 6, r.2.1 7, r.2.1 8, r.2.2[0]?, r.2.2[1]?)) = some (.ret, .ptr 0 0, .ptr 1 0, .bool false, some (.live [.list [] true]), some (.live [.int .i64 0]))) : AluS op .none :=
  fun l dep _ _ => none_name hn (h _ _)
end Fz.D
namespace Fz.D.F
abbrev D : Ieee.Format := Ieee.double
theorem ex_E : ∃ e : Nat, e = 1074 := ⟨_, rfl⟩
noncomputable def E : Nat := Classical.choose ex_E
theorem hE : E = 1074 := Classical.choose_spec ex_E
theorem D_binade : D.binade = 4503599627370496 := by decide
theorem D_sign : D.signWeight = 9223372036854775808 := by decide
theorem D_inf : D.infRung = 9218868437227405312 := by decide
theorem D_least : D.leastPlace = -1074 := by decide
def val (r : Nat) : Nat := if r < 4503599627370496 then r else (4503599627370496 + r % 4503599627370496) * 2 ^ (r / 4503599627370496 - 1)
theorem val_q {q k : Nat} (h : (4503599627370496 ≤ k ∨ q = 0) ∧ k ≤ 2 * 4503599627370496) : val (q * 4503599627370496 + k) = k * 2 ^ q := by
  obtain ⟨h1, h2⟩ := h
  unfold val
  by_cases hk : k < 4503599627370496
  · have : q = 0 := by omega
    subst this
    rw [if_pos (by omega)]; simp
  · rw [if_neg (by omega)]
    by_cases he : k = 2 * 4503599627370496
    · subst he
      have e1 : (q * 4503599627370496 + 2 * 4503599627370496) % 4503599627370496 = 0 := by omega
      have e2 : (q * 4503599627370496 + 2 * 4503599627370496) / 4503599627370496 - 1 = q + 1 := by omega
      rw [e1, e2, Nat.pow_succ]
      rw [Nat.add_zero, Nat.mul_comm (2 ^ q) 2, ← Nat.mul_assoc, Nat.mul_comm 4503599627370496 2]
    · have e1 : (q * 4503599627370496 + k) % 4503599627370496 = k - 4503599627370496 := by omega
      have e2 : (q * 4503599627370496 + k) / 4503599627370496 - 1 = q := by omega
      rw [e1, e2, show 4503599627370496 + (k - 4503599627370496) = k from by omega]
theorem val_split (r : Nat) : ∃ q k, r = q * 4503599627370496 + k ∧ (4503599627370496 ≤ k ∨ q = 0) ∧ k < 2 * 4503599627370496 := by
  by_cases h : r < 4503599627370496
  · exact ⟨0, r, by omega, .inr rfl, by omega⟩
  · refine ⟨r / 4503599627370496 - 1, 4503599627370496 + r % 4503599627370496, ?_, .inl (by omega), by omega⟩
    have := Nat.div_add_mod r 4503599627370496
    have h1 : 1 ≤ r / 4503599627370496 := by omega
    have : (r / 4503599627370496 - 1) * 4503599627370496 = r / 4503599627370496 * 4503599627370496 - 4503599627370496 := by rw [Nat.sub_mul, Nat.one_mul]
    omega
theorem val_lt_succ (r : Nat) : val r < val (r + 1) := by
  obtain ⟨q, k, rfl, h1, h2⟩ := val_split r
  rw [val_q ⟨h1, by omega⟩, show q * 4503599627370496 + k + 1 = q * 4503599627370496 + (k + 1) from by omega, val_q ⟨by omega, by omega⟩]
  exact (Nat.mul_lt_mul_right (Nat.two_pow_pos q)).2 (by omega)
theorem val_mono {a b : Nat} (h : a < b) : val a < val b := by
  induction b with
  | zero => omega
  | succ b ih =>
    by_cases e : a = b
    · subst e; exact val_lt_succ a
    · exact Nat.lt_trans (ih (by omega)) (val_lt_succ b)
def sg (x : Nat) : Bool := x / 9223372036854775808 % 2 == 1
def rg (x : Nat) : Nat := x % 9223372036854775808
def sv (x : Nat) : Int := if sg x then -(val (rg x) : Int) else val (rg x)
theorem sgn_shift (s : Bool) (m u : Nat) : Ieee.signed s m u = if s then -((m * 2 ^ u : Nat) : Int) else ((m * 2 ^ u : Nat) : Int) := by
  unfold Ieee.signed
  rw [Nat.shiftLeft_eq]
inductive Rd (x : Nat) : Ieee.Datum → Prop
  | num (m u : Nat) (h : rg x < 9218868437227405312) (hv : val (rg x) = m * 2 ^ u) (hm : m < 2 * 4503599627370496) (hu : u ≤ 2045) (hn : m < 4503599627370496 → u = 0) (hr : rg x = u * 4503599627370496 + m) : Rd x (.number (sg x) m (u - 1074))
  | inf (h : rg x = 9218868437227405312) : Rd x (.infinity (sg x))
  | nan (h : 9218868437227405312 < rg x) : Rd x (.nan (sg x) (rg x - 9218868437227405312))
theorem rd (x : Nat) : Rd x (D.read x) := by
  unfold Ieee.Format.read
  rw [D_sign, D_binade, D_inf, D_least]
  show Rd x (if rg x < 4503599627370496 then Ieee.Datum.number (sg x) (rg x) (-1074) else if rg x < 9218868437227405312 then .number (sg x) (4503599627370496 + rg x % 4503599627370496) (-1074 + ((rg x / 4503599627370496 - 1 : Nat) : Int)) else if rg x = 9218868437227405312 then .infinity (sg x) else .nan (sg x) (rg x - 9218868437227405312))
  split
  · rename_i h
    have := Rd.num (x := x) (rg x) 0 (by omega) (by unfold val; rw [if_pos h]; simp) (by omega) (by omega) (fun _ => rfl) (by omega)
    simpa using this
  · rename_i h
    split
    · rename_i h2
      have := Rd.num (x := x) (4503599627370496 + rg x % 4503599627370496) (rg x / 4503599627370496 - 1) h2 (by unfold val; rw [if_neg h]) (by omega) (by omega) (fun h => by omega) (by
        have := Nat.div_add_mod (rg x) 4503599627370496
        have h1 : 1 ≤ rg x / 4503599627370496 := by omega
        have : (rg x / 4503599627370496 - 1) * 4503599627370496 = rg x / 4503599627370496 * 4503599627370496 - 4503599627370496 := by rw [Nat.sub_mul, Nat.one_mul]
        omega)
      rw [show (-1074 + ((rg x / 4503599627370496 - 1 : Nat) : Int)) = ((rg x / 4503599627370496 - 1 : Nat) : Int) - 1074 from by omega]
      exact this
    · rename_i h2
      split
      · rename_i h3; exact .inf h3
      · rename_i h3; exact .nan (by omega)
theorem val_pos {r : Nat} (h : 0 < r) : 0 < val r := Nat.lt_of_le_of_lt (Nat.zero_le _) (val_mono h)
theorem compare_scale (a b : Int) (k : Nat) : compare (a * (2 ^ k : Nat)) (b * (2 ^ k : Nat)) = compare a b := by
  have hp : (0 : Int) < (2 ^ k : Nat) := by exact_mod_cast Nat.two_pow_pos k
  rcases Int.lt_trichotomy a b with h | h | h
  · rw [Int.compare_eq_lt.2 h, Int.compare_eq_lt.2 (Int.mul_lt_mul_of_pos_right h hp)]
  · subst h; simp [Int.compare_eq_eq]
  · rw [Int.compare_eq_gt.2 h, Int.compare_eq_gt.2 (Int.mul_lt_mul_of_pos_right h hp)]
theorem sv_num {x m u : Nat} (hv : val (rg x) = m * 2 ^ u) : sv x = Ieee.signed (sg x) m u := by
  rw [sgn_shift]; unfold sv; rw [hv]
theorem signed_scale (s : Bool) (m a k : Nat) : Ieee.signed s m a * (2 ^ k : Nat) = Ieee.signed s m (a + k) := by
  rw [sgn_shift, sgn_shift, Nat.pow_add, ← Nat.mul_assoc]
  cases s
  · simp
  · simp [Int.neg_mul]
theorem order_sv {x y : Nat} (hx : rg x ≤ 9218868437227405312) (hy : rg y ≤ 9218868437227405312) : D.order x y = some (compare (sv x) (sv y)) := by
  unfold Ieee.Format.order
  have big : ∀ z, rg z < 9218868437227405312 → val (rg z) < val 9218868437227405312 := fun z h => val_mono h
  have hpos : 0 < val 9218868437227405312 := val_pos (by decide)
  have rx := rd x
  have ry := rd y
  generalize D.read x = dx at rx
  generalize D.read y = dy at ry
  cases rx with
  | nan h => omega
  | inf h =>
    have ex : sv x = if sg x then -(val 9218868437227405312 : Int) else val 9218868437227405312 := by unfold sv; rw [h]
    cases ry with
    | nan h => omega
    | inf h' =>
      have ey : sv y = if sg y then -(val 9218868437227405312 : Int) else val 9218868437227405312 := by unfold sv; rw [h']
      simp only [Ieee.Datum.order, ex, ey]
      generalize val 9218868437227405312 = vi at hpos
      cases sg x <;> cases sg y
      · simp
      · exact congrArg some (Int.compare_eq_gt.2 (by simp only [Bool.false_eq_true, if_true, if_false]; omega)).symm
      · exact congrArg some (Int.compare_eq_lt.2 (by simp only [Bool.false_eq_true, if_true, if_false]; omega)).symm
      · simp
    | num m u h' hv =>
      have b := big y h'
      have ey : -(val 9218868437227405312 : Int) < sv y ∧ sv y < val 9218868437227405312 := by unfold sv; split <;> omega
      simp only [Ieee.Datum.order, ex]
      cases sg x <;> simp
      · exact (Int.compare_eq_gt.2 (by omega)).symm
      · exact (Int.compare_eq_lt.2 (by omega)).symm
  | num m u h hv =>
    have b := big x h
    have ex : -(val 9218868437227405312 : Int) < sv x ∧ sv x < val 9218868437227405312 := by unfold sv; split <;> omega
    cases ry with
    | nan h => omega
    | inf h' =>
      have ey : sv y = if sg y then -(val 9218868437227405312 : Int) else val 9218868437227405312 := by unfold sv; rw [h']
      simp only [Ieee.Datum.order, ey]
      cases sg y <;> simp
      · exact (Int.compare_eq_lt.2 (by omega)).symm
      · exact (Int.compare_eq_gt.2 (by omega)).symm
    | num n v h' hw =>
      simp only [Ieee.Datum.order, sv_num hv, sv_num hw]
      refine congrArg some ?_
      have e1 : ((u : Int) - 1074 - min ((u : Int) - 1074) ((v : Int) - 1074)).toNat = u - min u v := by omega
      have e2 : ((v : Int) - 1074 - min ((u : Int) - 1074) ((v : Int) - 1074)).toNat = v - min u v := by omega
      rw [e1, e2, ← compare_scale _ _ (min u v), signed_scale, signed_scale, Nat.sub_add_cancel (Nat.min_le_left ..), Nat.sub_add_cancel (Nat.min_le_right ..)]
theorem order_nan {x y : Nat} (h : 9218868437227405312 < rg x ∨ 9218868437227405312 < rg y) : D.order x y = none := by
  unfold Ieee.Format.order
  have rx := rd x
  have ry := rd y
  generalize D.read x = dx at rx
  generalize D.read y = dy at ry
  cases rx <;> cases ry <;> first | rfl | (exfalso; omega)
end Fz.D.F
set_option maxRecDepth 100000
namespace Fz.D.F
open Go
abbrev fl (b : Nat) : V := .float .f64 b
def wd (a : Int) : Nat := (IntKind.u64.wrap a).toNat
def cl (b : Nat) : Int := IntKind.i64.wrap b
def nan : Int := 9221120237041090560
def num (b : Nat) : Bool := D.order b b == some .eq
def ce (o : Option Nat) : Int := match o with | some b => if num b then cl b else nan | none => nan
@[simp] theorem gk_floatV (o : Option Nat) (k : Nat) : gk (k + 1) (floatV .f64 o) = true := by cases o <;> simp [floatV]
@[simp] theorem nrm_floatV (o : Option Nat) : nrm (floatV .f64 o) = floatV .f64 o := by cases o <;> simp [floatV]
@[simp] theorem nm_floatV (o : Option Nat) : nm (floatV .f64 o) = true := by cases o <;> simp [floatV]
theorem p_from (n : Int) : Comes p 184 [.int .u64 n] (fl n.toNat) := Comes_prim (g := primV .ffrom) rfl rfl rfl (by simp) (by simp) (by simp) (by simp)
theorem p_bits (b : Nat) : Comes p 321 [fl b] (.int .u64 b) := Comes_prim (g := primV .fbits) rfl rfl rfl (by simp) (by simp) (by simp) (by simp)
theorem p_sqrt (b : Nat) : Comes p 322 [fl b] (floatV .f64 (D.sqrt b)) := Comes_prim (g := primV .sqrt) rfl rfl rfl (by simp) (by simp) (by simp) (by simp)
theorem p_floor (b : Nat) (h : num b = true) : Comes p 323 [fl b] (fl (D.write ((D.read b).integral .down))) := by
  refine Comes_prim (g := primV (.integral .down)) rfl ?_ rfl (by simp) (by simp) (by simp) (by simp)
  unfold num Ieee.Format.order at h
  simp only [primV]
  cases hd : Ieee.double.read b with
  | nan s t => rw [show D.read b = _ from hd] at h; simp [Ieee.Datum.order] at h
  | _ => simp [hd]
theorem c_float (a : Int) : Comes p 175 [.int .i64 a] (fl (wd a)) := by
  refine Comes_of w175 rfl rfl k175 ?_ ?_ ?_ ?_
  · simp
  · simp
  · simp
  · simp -dsimp [w175, wFix_by, isInl, call_by (p_from _)]
    rfl
theorem c_isnan (b : Nat) : Comes p 320 [fl b] (.bool (!num b)) := by
  refine Comes_of w320 rfl rfl k320 ?_ ?_ ?_ ?_
  · simp
  · simp
  · simp
  · simp -dsimp [w320, wFix_by, isInl, num, FloatKind.format]
    rfl
theorem c_isnanN : Comes p 320 [.fnan .f64] (.bool true) := by
  refine Comes_of w320 rfl rfl k320 ?_ ?_ ?_ ?_
  · simp
  · simp
  · simp
  · simp -dsimp [w320, wFix_by, isInl]
theorem c_bits (b : Nat) : Comes p 177 [fl b] (.int .i64 (ce (some b))) := by
  refine Comes_of w177 rfl rfl k177 ?_ ?_ ?_ ?_
  · simp
  · simp
  · simp
  · cases h : num b <;> simp -dsimp [w177, wFix_by, isInl, call_by (c_isnan _), call_by (p_bits _), h, ce, nan]
    rfl
theorem c_bitsN : Comes p 177 [.fnan .f64] (.int .i64 nan) := by
  refine Comes_of w177 rfl rfl k177 ?_ ?_ ?_ ?_
  · simp
  · simp
  · simp
  · simp -dsimp [w177, wFix_by, isInl, call_by c_isnanN, nan]
theorem c_bitsV (o : Option Nat) : Comes p 177 [floatV .f64 o] (.int .i64 (ce o)) := by
  cases o
  · exact c_bitsN
  · exact c_bits _
theorem c_signbit (b : Nat) : Comes p 356 [fl b] (.bool (decide (cl b < 0))) := by
  refine Comes_of w356 rfl rfl k356 ?_ ?_ ?_ ?_
  · simp
  · simp
  · simp
  · simp -dsimp [w356, wFix_by, isInl, call_by (p_bits _)]
    rfl
end Fz.D.F
set_option maxRecDepth 100000
namespace Fz.D.F
open Go
def lst (x y : Nat) : Nat := if D.order x y = some .lt ∨ (D.order x y = some .eq ∧ cl x < 0) then x else y
def ng (x : Nat) : Nat := Op.negFloat .f64 x
theorem c_least (x y : Nat) : Comes p 318 [fl x, fl y] (fl (lst x y)) := by
  refine Comes_of w318 rfl rfl k318 ?_ ?_ ?_ ?_
  · simp
  · simp
  · simp
  · have e : FloatKind.f64.format.order x y = D.order x y := rfl
    by_cases h1 : D.order x y = some .lt
    · simp -dsimp [w318, wFix_by, isInl, e, h1, lst]
    · by_cases h2 : D.order x y = some .eq
      · by_cases h3 : cl x < 0
        · simp -dsimp [w318, wFix_by, isInl, e, h2, h3, lst, call_by (c_signbit _)]
        · simp -dsimp [w318, wFix_by, isInl, e, h2, h3, lst, call_by (c_signbit _)]
      · have h1' : (D.order x y == some .lt) = false := by simpa using h1
        have h2' : (D.order x y == some .eq) = false := by simpa using h2
        simp -dsimp [w318, wFix_by, isInl, e, h1', h2', h1, h2, lst]
theorem c_most (x y : Nat) : Comes p 319 [fl x, fl y] (fl (ng (lst (ng x) (ng y)))) := by
  refine Comes_of w319 rfl rfl k319 ?_ ?_ ?_ ?_
  · simp
  · simp
  · simp
  · simp -dsimp [w319, wFix_by, isInl, call_by (c_least _ _)]
    rfl
theorem c_add (x y : Nat) : Comes p 314 [fl x, fl y] (floatV .f64 (D.add x y)) := by
  refine Comes_of w314 rfl rfl k314 ?_ ?_ ?_ ?_
  · simp
  · simp
  · simp
  · have e : FloatKind.f64.format.add x y = D.add x y := rfl
    cases h : D.add x y <;> simp -dsimp [w314, wFix_by, isInl, e, h, floatV]
theorem c_sub (x y : Nat) : Comes p 315 [fl x, fl y] (floatV .f64 (D.sub x y)) := by
  refine Comes_of w315 rfl rfl k315 ?_ ?_ ?_ ?_
  · simp
  · simp
  · simp
  · have e : FloatKind.f64.format.sub x y = D.sub x y := rfl
    cases h : D.sub x y <;> simp -dsimp [w315, wFix_by, isInl, e, h, floatV]
theorem c_mul (x y : Nat) : Comes p 316 [fl x, fl y] (floatV .f64 (D.mul x y)) := by
  refine Comes_of w316 rfl rfl k316 ?_ ?_ ?_ ?_
  · simp
  · simp
  · simp
  · have e : FloatKind.f64.format.mul x y = D.mul x y := rfl
    cases h : D.mul x y <;> simp -dsimp [w316, wFix_by, isInl, e, h, floatV]
theorem c_div (x y : Nat) : Comes p 317 [fl x, fl y] (floatV .f64 (D.div x y)) := by
  refine Comes_of w317 rfl rfl k317 ?_ ?_ ?_ ?_
  · simp
  · simp
  · simp
  · have e : FloatKind.f64.format.div x y = D.div x y := rfl
    cases h : D.div x y <;> simp -dsimp [w317, wFix_by, isInl, e, h, floatV]
theorem c_neg (x : Nat) : Comes p 178 [fl x] (fl (ng x)) := by
  refine Comes_of w178 rfl rfl k178 ?_ ?_ ?_ ?_
  · simp
  · simp
  · simp
  · simp -dsimp [w178, wFix_by, isInl]
    rfl
def ab (x : Nat) : Nat := (IntKind.u64.wrap (BitVec.ofInt 64 x &&& ~~~BitVec.ofInt 64 9223372036854775808).toNat).toNat
theorem c_abs (x : Nat) : Comes p 179 [fl x] (fl (ab x)) := by
  refine Comes_of w179 rfl rfl k179 ?_ ?_ ?_ ?_
  · simp
  · simp
  · simp
  · simp -dsimp [w179, wFix_by, isInl, call_by (p_bits _), call_by (p_from _)]
    rfl
theorem c_sqrt (x : Nat) : Comes p 180 [fl x] (floatV .f64 (D.sqrt x)) := by
  refine Comes_of w180 rfl rfl k180 ?_ ?_ ?_ ?_
  · simp
  · simp
  · simp
  · simp -dsimp [w180, wFix_by, isInl, call_by (p_sqrt _)]
def flr (x : Nat) : Nat := D.write ((D.read x).integral .down)
def trn (x : Nat) : Nat := D.write ((D.read x).integral .zero)
theorem c_floor (x : Nat) (h : num x = true) : Comes p 181 [fl x] (fl (flr x)) := by
  refine Comes_of w181 rfl rfl k181 ?_ ?_ ?_ ?_
  · simp
  · simp
  · simp
  · simp -dsimp [w181, wFix_by, isInl, call_by (p_floor _ h), flr]
def twosV : V := .map [.int .u8 43, .int .u8 45, .int .u8 42, .int .u8 47, .int .u8 109, .int .u8 77]
  [.fn (.func 314) [] [], .fn (.func 315) [] [], .fn (.func 316) [] [], .fn (.func 317) [] [], .fn (.func 318) [] [], .fn (.func 319) [] []]
theorem c_twos : Comes p 176 [] twosV := by
  refine ⟨rfl, by decide, rfl, 9, .mref 0, [.mlive [.int .u8 43, .int .u8 45, .int .u8 42, .int .u8 47, .int .u8 109, .int .u8 77]
    [.fn (.func 314) [] [], .fn (.func 315) [] [], .fn (.func 316) [] [], .fn (.func 317) [] [], .fn (.func 318) [] [], .fn (.func 319) [] []]], by kernel_rfl, .inr ⟨rfl, twosV, [.dead], by kernel_rfl, by kernel_rfl⟩⟩
end Fz.D.F
set_option maxRecDepth 100000
namespace Fz.D.F
open Go
def twoF (op : Int) (x y : Nat) : Option Nat := if op = 43 then D.add x y else if op = 45 then D.sub x y else if op = 42 then D.mul x y else if op = 47 then D.div x y else if op = 109 then some (lst x y) else some (ng (lst (ng x) (ng y)))
def isTwo (op : Int) : Bool := op == 43 || op == 45 || op == 42 || op == 47 || op == 109 || op == 77
def two (op a b : Int) : Int × Bool := if isTwo op = false then (0, false) else if num (wd a) = false ∨ num (wd b) = false then (nan, true) else (ce (twoF op (wd a) (wd b)), true)
theorem num_eq (b : Nat) : (FloatKind.f64.format.order b b != some .eq) = !num b := rfl
theorem c_two (op a b : Int) : Comes p 126 [.int .u8 op, .int .i64 a, .int .i64 b] (.tuple [.int .i64 (two op a b).1, .bool (two op a b).2]) := by
  refine Comes_of w126 rfl rfl k126 ?_ ?_ ?_ ?_
  · simp
  · simp
  · simp
  · by_cases hn : num (wd a) = false ∨ num (wd b) = false
    · have hx : (!num (wd a)) = true ∨ ((!num (wd a)) = false ∧ (!num (wd b)) = true) := by cases h : num (wd a) <;> simp_all
      by_cases h1 : op = 43
      · rcases hx with hx | ⟨hx, hy⟩ <;> simp -dsimp [w126, wFix_by, isInl, call_by c_twos, twosV, call_by (c_float _), num_eq, h1, two, isTwo, hn, nan, *]
      by_cases h2 : op = 45
      · rcases hx with hx | ⟨hx, hy⟩ <;> simp -dsimp [w126, wFix_by, isInl, call_by c_twos, twosV, call_by (c_float _), num_eq, h1, two, isTwo, hn, nan, *]
      by_cases h3 : op = 42
      · rcases hx with hx | ⟨hx, hy⟩ <;> simp -dsimp [w126, wFix_by, isInl, call_by c_twos, twosV, call_by (c_float _), num_eq, h1, two, isTwo, hn, nan, *]
      by_cases h4 : op = 47
      · rcases hx with hx | ⟨hx, hy⟩ <;> simp -dsimp [w126, wFix_by, isInl, call_by c_twos, twosV, call_by (c_float _), num_eq, h1, two, isTwo, hn, nan, *]
      by_cases h5 : op = 109
      · rcases hx with hx | ⟨hx, hy⟩ <;> simp -dsimp [w126, wFix_by, isInl, call_by c_twos, twosV, call_by (c_float _), num_eq, h1, two, isTwo, hn, nan, *]
      by_cases h6 : op = 77
      · rcases hx with hx | ⟨hx, hy⟩ <;> simp -dsimp [w126, wFix_by, isInl, call_by c_twos, twosV, call_by (c_float _), num_eq, h1, two, isTwo, hn, nan, *]
      simp -dsimp [w126, wFix_by, isInl, call_by c_twos, twosV, call_by (c_float _), num_eq, h1, h2, h3, h4, h5, h6, two, isTwo]
    · have hx : num (wd a) = true := by cases h : num (wd a) <;> simp_all
      have hy : num (wd b) = true := by cases h : num (wd b) <;> simp_all
      by_cases h1 : op = 43
      · simp -dsimp [w126, wFix_by, isInl, call_by c_twos, twosV, call_by (c_float _), num_eq, h1, two, isTwo, hx, hy, twoF, call_by (c_add _ _), call_by (c_bitsV _)]
      by_cases h2 : op = 45
      · simp -dsimp [w126, wFix_by, isInl, call_by c_twos, twosV, call_by (c_float _), num_eq, h2, two, isTwo, hx, hy, twoF, call_by (c_sub _ _), call_by (c_bitsV _)]
      by_cases h3 : op = 42
      · simp -dsimp [w126, wFix_by, isInl, call_by c_twos, twosV, call_by (c_float _), num_eq, h3, two, isTwo, hx, hy, twoF, call_by (c_mul _ _), call_by (c_bitsV _)]
      by_cases h4 : op = 47
      · simp -dsimp [w126, wFix_by, isInl, call_by c_twos, twosV, call_by (c_float _), num_eq, h4, two, isTwo, hx, hy, twoF, call_by (c_div _ _), call_by (c_bitsV _)]
      by_cases h5 : op = 109
      · simp -dsimp [w126, wFix_by, isInl, call_by c_twos, twosV, call_by (c_float _), num_eq, h5, two, isTwo, hx, hy, twoF, call_by (c_least _ _), call_by (c_bits _)]
      by_cases h6 : op = 77
      · simp -dsimp [w126, wFix_by, isInl, call_by c_twos, twosV, call_by (c_float _), num_eq, h6, two, isTwo, hx, hy, twoF, call_by (c_most _ _), call_by (c_bits _)]
      simp -dsimp [w126, wFix_by, isInl, call_by c_twos, twosV, call_by (c_float _), num_eq, h1, h2, h3, h4, h5, h6, two, isTwo]
def oneF (op : Int) (x : Nat) : Option Nat := if op = 110 then some (ng x) else if op = 97 then some (ab x) else if op = 115 then D.sqrt x else some (flr x)
def isOne (op : Int) : Bool := op == 110 || op == 97 || op == 115 || op == 102
def one (op a : Int) : Int × Bool := if isOne op = false then (0, false) else if num (wd a) = false then (nan, true) else (ce (oneF op (wd a)), true)
theorem c_one (op a : Int) : Comes p 129 [.int .u8 op, .int .i64 a] (.tuple [.int .i64 (one op a).1, .bool (one op a).2]) := by
  refine Comes_of w129 rfl rfl k129 ?_ ?_ ?_ ?_
  · simp
  · simp
  · simp
  · cases hn : num (wd a)
    · by_cases h1 : op = 110
      · simp -dsimp [w129, wFix_by, isInl, call_by (c_float _), num_eq, h1, one, isOne, hn, nan]
      by_cases h2 : op = 97
      · simp -dsimp [w129, wFix_by, isInl, call_by (c_float _), num_eq, h2, one, isOne, hn, nan]
      by_cases h3 : op = 115
      · simp -dsimp [w129, wFix_by, isInl, call_by (c_float _), num_eq, h3, one, isOne, hn, nan]
      by_cases h4 : op = 102
      · simp -dsimp [w129, wFix_by, isInl, call_by (c_float _), num_eq, h4, one, isOne, hn, nan]
      simp -dsimp [w129, wFix_by, isInl, call_by (c_float _), num_eq, h1, h2, h3, h4, one, isOne]
    · by_cases h1 : op = 110
      · simp -dsimp [w129, wFix_by, isInl, call_by (c_float _), num_eq, h1, one, isOne, hn, oneF, call_by (c_neg _), call_by (c_bits _)]
      by_cases h2 : op = 97
      · simp -dsimp [w129, wFix_by, isInl, call_by (c_float _), num_eq, h2, one, isOne, hn, oneF, call_by (c_abs _), call_by (c_bits _)]
      by_cases h3 : op = 115
      · simp -dsimp [w129, wFix_by, isInl, call_by (c_float _), num_eq, h3, one, isOne, hn, oneF, call_by (c_sqrt _), call_by (c_bitsV _)]
      by_cases h4 : op = 102
      · simp -dsimp [w129, wFix_by, isInl, call_by (c_float _), num_eq, h4, one, isOne, hn, oneF, call_by (c_floor _ hn), call_by (c_bits _)]
      simp -dsimp [w129, wFix_by, isInl, call_by (c_float _), num_eq, h1, h2, h3, h4, one, isOne]
def less (a b : Int) : Bool := D.order (wd a) (wd b) == some .lt
def same (a b : Int) : Bool := D.order (wd a) (wd b) == some .eq
theorem c_less (a b : Int) : Comes p 121 [.int .i64 a, .int .i64 b] (.bool (less a b)) := by
  refine Comes_of w121 rfl rfl k121 ?_ ?_ ?_ ?_
  · simp
  · simp
  · simp
  · simp -dsimp [w121, wFix_by, isInl, call_by (c_float _)]
    rfl
theorem c_same (a b : Int) : Comes p 123 [.int .i64 a, .int .i64 b] (.bool (same a b)) := by
  refine Comes_of w123 rfl rfl k123 ?_ ?_ ?_ ?_
  · simp
  · simp
  · simp
  · simp -dsimp [w123, wFix_by, isInl, call_by (c_float _)]
    rfl
def put (n : Int) : Int := ce (some (FloatKind.f64.nearest n))
theorem c_put (n : Int) : Comes p 131 [.int .i64 n] (.int .i64 (put n)) := by
  refine Comes_of w131 rfl rfl k131 ?_ ?_ ?_ ?_
  · simp
  · simp
  · simp
  · simp -dsimp [w131, wFix_by, isInl, call_by (c_bits _), put]
end Fz.D.F
set_option maxRecDepth 100000
namespace Fz.D.F
open Go
def lstC (a b : Int) : Int := if D.order (wd a) (wd b) = some .lt then a else if D.order (wd a) (wd b) = some .gt then b else if a < 0 then a else b
def grtC (a b : Int) : Int := if lstC a b = a then b else a
def rtwoF (op a b : Int) : Int := if op = 43 then ce (D.add (wd a) (wd b)) else if op = 45 then ce (D.sub (wd a) (wd b)) else if op = 42 then ce (D.mul (wd a) (wd b)) else if op = 47 then ce (D.div (wd a) (wd b)) else if op = 109 then lstC a b else grtC a b
def rtwo (op a b : Int) : Int × Bool := if isTwo op = false then (0, false) else if num (wd a) = false ∨ num (wd b) = false then (nan, true) else (rtwoF op a b, true)
def rneg (a : Int) : Int := IntKind.i64.wrap (IntKind.u64.wrap (BitVec.ofInt 64 (IntKind.u64.wrap a) ^^^ BitVec.ofInt 64 9223372036854775808).toNat)
def rabs (a : Int) : Int := IntKind.i64.wrap (IntKind.u64.wrap (BitVec.ofInt 64 (IntKind.u64.wrap a) &&& BitVec.ofInt 64 9223372036854775807).toNat)
def rone (op a : Int) : Int × Bool := if isOne op = false then (0, false) else if num (wd a) = false then (nan, true) else
  (if op = 110 then rneg a else if op = 97 then rabs a else if op = 115 then ce (D.sqrt (wd a)) else ce (some (flr (wd a))), true)
end Fz.D.F
namespace Fz.D.F
open Ieee
theorem cut_zero (way : Toward) (s : Bool) (n : Nat) : way.cut s n 0 = n := by
  unfold Toward.cut
  have e : (1 <<< min 0 (n.log2 + 2) : Nat) = 1 := by rw [Nat.zero_min]; rfl
  simp only [e, Nat.div_one, Nat.mod_one]
  cases way <;> simp
theorem cut_gap (s : Bool) (n d : Nat) (h : d ≤ n.log2 + 2) (way : Toward) :
    way.cut s n d = n / 2 ^ d + (match way with | .even => 2 ^ d < 2 * (n % 2 ^ d) || (2 ^ d == 2 * (n % 2 ^ d) && n / 2 ^ d % 2 == 1) | .down => s && n % 2 ^ d != 0 | .up => !s && n % 2 ^ d != 0 | .zero => false : Bool).toNat := by
  unfold Toward.cut
  have e : (1 <<< min d (n.log2 + 2) : Nat) = 2 ^ d := by rw [Nat.min_eq_left h, Nat.shiftLeft_eq, Nat.one_mul]
  simp only [e]
  cases way <;> rfl
end Fz.D.F
set_option maxRecDepth 100000
namespace Fz.D.F
open Go
def i64 (a : Int) : Prop := -9223372036854775808 ≤ a ∧ a ≤ 9223372036854775807
theorem num_rg {x : Nat} : num x = decide (rg x ≤ 9218868437227405312) := by
  unfold num
  by_cases h : rg x ≤ 9218868437227405312
  · rw [order_sv h h]; simp [h, Int.compare_eq_eq.2 rfl]
  · rw [order_nan (.inl (by omega))]; simp [h]
theorem ord_num {x y : Nat} (hx : num x = true) (hy : num y = true) : D.order x y = some (compare (sv x) (sv y)) := by
  rw [num_rg, decide_eq_true_eq] at hx hy
  exact order_sv hx hy
def yes : CR → List Ob → Prop := fun r _ => r = .ret (.bool true)
@[simp] theorem yes_ret {v : V} {H : List Ob} : yes (.ret v) H = (v = .bool true) := by simp [yes]
end Fz.D.F
set_option maxRecDepth 100000
namespace Fz.D.F
open Go
end Fz.D.F
set_option maxRecDepth 100000
namespace Fz.D.F
open Go
theorem cut_z (s : Bool) (m d : Nat) : Ieee.Toward.zero.cut s m d = m / 2 ^ d := by
  by_cases h : d ≤ m.log2 + 2
  · rw [cut_gap s m d h]; rfl
  · unfold Ieee.Toward.cut
    have e : (1 <<< min d (m.log2 + 2) : Nat) = 2 ^ (m.log2 + 2) := by rw [Nat.min_eq_right (by omega), Nat.shiftLeft_eq, Nat.one_mul]
    simp only [e]
    have l2 : m < 2 ^ (m.log2 + 1) := by
      by_cases h0 : m = 0
      · subst h0; decide
      · exact Nat.lt_log2_self
    have h1 : 2 ^ (m.log2 + 1) ≤ 2 ^ (m.log2 + 2) := Nat.pow_le_pow_right (by decide) (by omega)
    have h2 : 2 ^ (m.log2 + 1) ≤ 2 ^ d := Nat.pow_le_pow_right (by decide) (by omega)
    rw [Nat.div_eq_of_lt (by omega), Nat.div_eq_of_lt (by omega)]
    rfl
noncomputable def whole (x : Nat) : Nat := val (rg x) / 2 ^ E
theorem integral_z {x m u : Nat} (hv : val (rg x) = m * 2 ^ u) : (Ieee.Datum.number (sg x) m ((u : Int) - 1074)).integral .zero = .number (sg x) (whole x) 0 := by
  unfold Ieee.Datum.integral whole
  rw [hv]
  dsimp only
  have hE := hE
  by_cases h : u ≤ E
  · rw [show ((u : Int) - 1074).toNat = 0 from by omega, show (-((u : Int) - 1074)).toNat = E - u from by omega, Nat.shiftLeft_zero, cut_z]
    have e : (2 ^ E : Nat) = 2 ^ (E - u) * 2 ^ u := by rw [← Nat.pow_add, Nat.sub_add_cancel h]
    rw [e, Nat.mul_div_mul_right _ _ (Nat.two_pow_pos u)]
  · rw [show ((u : Int) - 1074).toNat = u - E from by omega, show (-((u : Int) - 1074)).toNat = 0 from by omega, cut_zero, Nat.shiftLeft_eq]
    have e : m * 2 ^ u = m * 2 ^ (u - E) * 2 ^ E := by rw [Nat.mul_assoc, ← Nat.pow_add, Nat.sub_add_cancel (by omega)]
    rw [e, Nat.mul_div_cancel _ (Nat.two_pow_pos E)]
theorem toInt_eq {x : Nat} (h : rg x < 9218868437227405312) : (D.read x).toInt .zero = some (if sg x then -(whole x : Int) else whole x) := by
  have r := rd x
  generalize D.read x = d at r
  cases r with
  | inf h => omega
  | nan h => omega
  | num m u h hv =>
    unfold Ieee.Datum.toInt
    rw [integral_z hv]
    simp only [Ieee.signed, Nat.shiftLeft_zero]
abbrev c1 : Nat := 14114281232179134464
abbrev c2 : Nat := 4890909195324358656
theorem val_c2 : val c2 = 9223372036854775808 * 2 ^ E := by
  rw [show c2 = (11 + E) * 4503599627370496 + 4503599627370496 from by rw [hE], val_q ⟨.inl (Nat.le_refl _), by omega⟩, Nat.pow_add, ← Nat.mul_assoc]
theorem sv_c2 : sv c2 = 9223372036854775808 * (2 ^ E : Nat) := by
  unfold sv
  rw [show sg c2 = false from by decide, show rg c2 = c2 from by decide, if_neg (by decide), val_c2, Int.natCast_mul]
  rfl
theorem sv_c1 : sv c1 = -(9223372036854775808 * (2 ^ E : Nat) : Int) := by
  unfold sv
  rw [show sg c1 = true from by decide, show rg c1 = c2 from by decide, if_pos rfl, val_c2, Int.natCast_mul]
  rfl
theorem num_c1 : num c1 = true := by rw [num_rg]; decide
theorem num_c2 : num c2 = true := by rw [num_rg]; decide
noncomputable def inR (x : Nat) : Bool := num x && decide (-(9223372036854775808 * (2 ^ E : Nat) : Int) ≤ sv x) && decide (sv x < 9223372036854775808 * (2 ^ E : Nat))
def tI (x : Nat) : Int := ((D.read x).toInt .zero).getD 0
theorem inR_ok {x : Nat} (h : inR x = true) : num x = true ∧ rg x < 9218868437227405312 ∧ (D.read x).toInt .zero = some (tI x) ∧ -9223372036854775808 ≤ tI x ∧ tI x ≤ 9223372036854775807 := by
  unfold inR at h
  simp only [Bool.and_eq_true, decide_eq_true_eq] at h
  obtain ⟨⟨h0, h1⟩, h2⟩ := h
  have hp : 0 < 2 ^ E := Nat.two_pow_pos E
  have hle : rg x ≤ 9218868437227405312 := by rw [num_rg] at h0; exact of_decide_eq_true h0
  have hlt : rg x < 9218868437227405312 := by
    by_cases e : rg x = 9218868437227405312
    · exfalso
      have : val c2 < val 9218868437227405312 := val_mono (by decide)
      rw [val_c2] at this
      unfold sv at h1 h2
      rw [e] at h1 h2
      generalize val 9218868437227405312 = v at *
      generalize 2 ^ E = T at *
      cases hs : sg x
      · rw [hs] at h2; simp only [Bool.false_eq_true, if_false] at h2; omega
      · rw [hs] at h1; simp only [if_true] at h1; omega
    · omega
  have ht := toInt_eq hlt
  have e : tI x = if sg x then -(whole x : Int) else whole x := by unfold tI; rw [ht]; rfl
  refine ⟨h0, hlt, by rw [ht, e], ?_⟩
  rw [e]
  unfold whole
  unfold sv at h1 h2
  have hd := Nat.div_add_mod (val (rg x)) (2 ^ E)
  have hm := Nat.mod_lt (val (rg x)) hp
  have w1 : sg x = false → val (rg x) / 2 ^ E < 9223372036854775808 := by
    intro hs
    rw [hs] at h2; simp only [Bool.false_eq_true, if_false] at h2
    rw [Nat.div_lt_iff_lt_mul hp]
    generalize val (rg x) = v at *
    generalize 2 ^ E = T at *
    omega
  have w2 : sg x = true → val (rg x) / 2 ^ E ≤ 9223372036854775808 := by
    intro hs
    rw [hs] at h1; simp only [if_true] at h1
    rw [← Nat.lt_succ_iff, Nat.div_lt_iff_lt_mul hp]
    generalize val (rg x) = v at *
    generalize 2 ^ E = T at *
    omega
  clear hd hm h1 h2
  generalize val (rg x) / 2 ^ E = g at *
  cases hs : sg x
  · have := w1 hs; simp only [Bool.false_eq_true, if_false]; omega
  · have := w2 hs; simp only [if_true]; omega
theorem geq_c1 (x : Nat) : (D.order x c1 == some .gt || D.order x c1 == some .eq) = (num x && decide (sv c1 ≤ sv x)) := by
  cases hx : num x
  · rw [num_rg] at hx
    rw [order_nan (.inl (by simpa using hx))]; rfl
  · rw [ord_num hx num_c1]
    rcases Int.lt_trichotomy (sv x) (sv c1) with h | h | h
    · rw [Int.compare_eq_lt.2 h]; simp; omega
    · rw [Int.compare_eq_eq.2 h]; simp; omega
    · rw [Int.compare_eq_gt.2 h]; simp; omega
theorem lss_c2 (x : Nat) : (D.order x c2 == some .lt) = (num x && decide (sv x < sv c2)) := by
  cases hx : num x
  · rw [num_rg] at hx
    rw [order_nan (.inl (by simpa using hx))]; rfl
  · rw [ord_num hx num_c2]
    rcases Int.lt_trichotomy (sv x) (sv c2) with h | h | h
    · rw [Int.compare_eq_lt.2 h]; simp [h]
    · rw [Int.compare_eq_eq.2 h]; simp; omega
    · rw [Int.compare_eq_gt.2 h]; simp; omega
noncomputable def take (a : Int) : Int × Bool := if inR (wd a) then (tI (wd a), true) else (0, false)
theorem c_take (a : Int) : Comes p 133 [.int .i64 a] (.tuple [.int .i64 (take a).1, .bool (take a).2]) := by
  refine Comes_of w133 rfl rfl k133 ?_ ?_ ?_ ?_
  · simp
  · simp
  · simp
  · have e1 : (FloatKind.f64.format.order (wd a) 14114281232179134464 == some .gt || FloatKind.f64.format.order (wd a) 14114281232179134464 == some .eq) = (num (wd a) && decide (sv c1 ≤ sv (wd a))) := geq_c1 _
    have e2 : (FloatKind.f64.format.order (wd a) 4890909195324358656 == some .lt) = (num (wd a) && decide (sv (wd a) < sv c2)) := lss_c2 _
    unfold take
    cases h : inR (wd a)
    · unfold inR at h
      rw [← sv_c1, ← sv_c2] at h
      cases h0 : num (wd a)
      · rw [h0] at e1 e2
        simp only [Bool.false_and] at e1 e2
        simp -dsimp [w133, wFix_by, isInl, call_by (c_float _), e1, e2]
      · rw [h0] at e1 e2 h
        simp only [Bool.true_and] at e1 e2 h
        cases h1 : decide (sv c1 ≤ sv (wd a))
        · rw [h1] at e1
          simp -dsimp [w133, wFix_by, isInl, call_by (c_float _), e1, e2]
        · rw [h1] at e1 h
          simp only [Bool.true_and] at h
          rw [h] at e2
          simp -dsimp [w133, wFix_by, isInl, call_by (c_float _), e1, e2]
    · obtain ⟨g1, g2, g3, g4, g5⟩ := inR_ok h
      unfold inR at h
      rw [← sv_c1, ← sv_c2] at h
      simp only [Bool.and_eq_true] at h
      rw [h.1.1, h.1.2] at e1
      rw [h.1.1, h.2] at e2
      simp only [Bool.and_self] at e1 e2
      have g3' : (FloatKind.f64.decode (wd a)).toInt .zero = some (tI (wd a)) := g3
      simp -dsimp [w133, wFix_by, isInl, call_by (c_float _), e1, e2, g3']
      exact ⟨g4, g5⟩
end Fz.D.F
set_option maxRecDepth 100000
namespace Fz.D
open Go
def intOf : V → Int
  | .int _ n => n
  | _ => 0
def outI (f : FuncId) (args : List V) : List Int := match madeF f args with
  | some (.list l _) => l.map intOf
  | _ => []
theorem fn_NIP (a b : Int) : Comes p 63 [.int .i64 a, .int .i64 b] (inV (outI 63 [.int .i64 a, .int .i64 b])) := Comes_made (by kernel_rfl) (by simp) (by simp) (by simp) rfl
theorem fl_NIP (a b : Int) : (outI 63 [.int .i64 a, .int .i64 b]).length = 1 := by kernel_rfl
theorem fn_TUCK (a b : Int) : Comes p 64 [.int .i64 a, .int .i64 b] (inV (outI 64 [.int .i64 a, .int .i64 b])) := Comes_made (by kernel_rfl) (by simp) (by simp) (by simp) rfl
theorem fl_TUCK (a b : Int) : (outI 64 [.int .i64 a, .int .i64 b]).length = 3 := by kernel_rfl
theorem fn_mul (a b : Int) : Comes p 83 [.int .i64 a, .int .i64 b] (inV (outI 83 [.int .i64 a, .int .i64 b])) := Comes_made (by kernel_rfl) (by simp) (by simp) (by simp) rfl
theorem fl_mul (a b : Int) : (outI 83 [.int .i64 a, .int .i64 b]).length = 1 := by kernel_rfl
theorem fn_inc (a : Int) : Comes p 89 [.int .i64 a] (inV (outI 89 [.int .i64 a])) := Comes_made (by kernel_rfl) (by simp) (by simp) (by simp) rfl
theorem fl_inc (a : Int) : (outI 89 [.int .i64 a]).length = 1 := by kernel_rfl
theorem fn_dec (a : Int) : Comes p 90 [.int .i64 a] (inV (outI 90 [.int .i64 a])) := Comes_made (by kernel_rfl) (by simp) (by simp) (by simp) rfl
theorem fl_dec (a : Int) : (outI 90 [.int .i64 a]).length = 1 := by kernel_rfl
theorem fn_dbl (a : Int) : Comes p 91 [.int .i64 a] (inV (outI 91 [.int .i64 a])) := Comes_made (by kernel_rfl) (by simp) (by simp) (by simp) rfl
theorem fl_dbl (a : Int) : (outI 91 [.int .i64 a]).length = 1 := by kernel_rfl
theorem fn_hlf (a : Int) : Comes p 92 [.int .i64 a] (inV (outI 92 [.int .i64 a])) := Comes_made (by kernel_rfl) (by simp) (by simp) (by simp) rfl
theorem fl_hlf (a : Int) : (outI 92 [.int .i64 a]).length = 1 := by kernel_rfl
theorem fn_CELLS (a : Int) : Comes p 105 [.int .i64 a] (inV (outI 105 [.int .i64 a])) := Comes_made (by kernel_rfl) (by simp) (by simp) (by simp) rfl
theorem fl_CELLS (a : Int) : (outI 105 [.int .i64 a]).length = 1 := by kernel_rfl
theorem fn_CELLP (a : Int) : Comes p 106 [.int .i64 a] (inV (outI 106 [.int .i64 a])) := Comes_made (by kernel_rfl) (by simp) (by simp) (by simp) rfl
theorem fl_CELLP (a : Int) : (outI 106 [.int .i64 a]).length = 1 := by kernel_rfl
theorem left_s (a n : Int) : Comes p 102 [.int .i64 a, .int .i64 n] (.int .i64 (IntKind.i64.wrap (IntKind.u64.wrap (IntKind.u64.wrap a * 2 ^ min (IntKind.u64.wrap n).toNat IntKind.u64.bits)))) := by
  have h0 : 0 ≤ IntKind.u64.wrap n := by rw [IntKind.wrap_u64]; omega
  refine Comes_of w102 rfl rfl k102 ?_ ?_ ?_ ?_
  · simp
  · simp
  · simp
  · simp -dsimp [w102, wFix_by, isInl, h0]
theorem right_s (a n : Int) : Comes p 104 [.int .i64 a, .int .i64 n] (.int .i64 (IntKind.i64.wrap ((IntKind.u64.wrap a).fdiv (2 ^ min (IntKind.u64.wrap n).toNat IntKind.u64.bits)))) := by
  have h0 : 0 ≤ IntKind.u64.wrap n := by rw [IntKind.wrap_u64]; omega
  refine Comes_of w104 rfl rfl k104 ?_ ?_ ?_ ?_
  · simp
  · simp
  · simp
  · simp -dsimp [w104, wFix_by, isInl, h0]
theorem fn_LSHIFT (a n : Int) : Comes p 101 [.int .i64 a, .int .i64 n] (inV [IntKind.i64.wrap (IntKind.u64.wrap (IntKind.u64.wrap a * 2 ^ min (IntKind.u64.wrap n).toNat IntKind.u64.bits))]) := by
  have c := left_s a n
  generalize IntKind.i64.wrap (IntKind.u64.wrap (IntKind.u64.wrap a * 2 ^ min (IntKind.u64.wrap n).toNat IntKind.u64.bits)) = z at *
  refine Comes_of w101 rfl rfl k101 ?_ ?_ ?_ ?_
  · simp
  · simp
  · simp
  · simp -dsimp [w101, call_by c]
    refine v_s (l := [z]) rfl rfl fun H' => ?_
    simp -dsimp [wFix_by, isInl]
theorem fn_RSHIFT (a n : Int) : Comes p 103 [.int .i64 a, .int .i64 n] (inV [IntKind.i64.wrap ((IntKind.u64.wrap a).fdiv (2 ^ min (IntKind.u64.wrap n).toNat IntKind.u64.bits))]) := by
  have c := right_s a n
  generalize IntKind.i64.wrap ((IntKind.u64.wrap a).fdiv (2 ^ min (IntKind.u64.wrap n).toNat IntKind.u64.bits)) = z at *
  refine Comes_of w103 rfl rfl k103 ?_ ?_ ?_ ?_
  · simp
  · simp
  · simp
  · simp -dsimp [w103, call_by c]
    refine v_s (l := [z]) rfl rfl fun H' => ?_
    simp -dsimp [wFix_by, isInl]
theorem below_s (a b : Int) : Comes p 113 [.int .i64 a, .int .i64 b] (.bool (decide (IntKind.u64.wrap a < IntKind.u64.wrap b))) := by
  refine Comes_of w113 rfl rfl k113 ?_ ?_ ?_ ?_
  · simp
  · simp
  · simp
  · simp -dsimp [w113, wFix_by, isInl]
theorem within_s (a b c : Int) : Comes p 119 [.int .i64 a, .int .i64 b, .int .i64 c] (.bool (decide (IntKind.u64.wrap (IntKind.i64.wrap (a - b)) < IntKind.u64.wrap (IntKind.i64.wrap (c - b))))) := by
  refine Comes_of w119 rfl rfl k119 ?_ ?_ ?_ ?_
  · simp
  · simp
  · simp
  · simp -dsimp [w119, wFix_by, isInl, call_by (below_s _ _)]
theorem fn_QDUP (a : Int) : Comes p 70 [.int .i64 a] (inV (if a = 0 then [0] else [a, a])) := by
  refine Comes_of w70 rfl rfl k70 ?_ ?_ ?_ ?_
  · simp
  · simp
  · split <;> simp
  · by_cases h : a = 0
    · rw [if_pos h]
      simp -dsimp [w70, h]
      refine v_s (l := [0]) rfl rfl fun H' => ?_
      simp -dsimp [wFix_by, isInl]
    · rw [if_neg h]
      simp -dsimp [w70, h]
      refine v_s (l := [a, a]) rfl rfl fun H' => ?_
      simp -dsimp [wFix_by, isInl]
theorem fn_ABS (a : Int) : Comes p 94 [.int .i64 a] (inV [if a < IntKind.i64.wrap (-a) then IntKind.i64.wrap (-a) else a]) := by
  refine Comes_of w94 rfl rfl k94 ?_ ?_ ?_ ?_
  · simp
  · simp
  · simp
  · simp -dsimp [w94]
    refine v_s (l := [if a < IntKind.i64.wrap (-a) then IntKind.i64.wrap (-a) else a]) rfl rfl fun H' => ?_
    simp -dsimp [wFix_by, isInl]
theorem v_sT {H : List Ob} {id n : Nat} {l : List Int} (hid : H[id]? = some (.live (l.map (V.int .i64)))) (hn : n = l.length) {Q : CR → List Ob → Prop} (hq : ∀ H', H'.take id = H.take id → H'.length = H.length → Q (.ret (inV l)) H') : xCall p 56 [.own id 0 n 1] H Q := by
  subst hn
  refine call_frz rfl ?_
  rw [frzL_cons]
  have h0 : (H.drop id)[0]? = some (.live (l.map (V.int .i64))) := by rw [List.getElem?_drop]; simpa using hid
  have ha : Ac 1 id (H.drop id) (.own id 0 l.length 1) (l.map (V.int .i64)) := ⟨by simp, by decide, .inr ⟨0, _, by simp, h0, by simp, by simp⟩⟩
  refine frz_acgQ id (k := 11) (by simpa using ha) (by simp) (.inl ⟨rfl, by simp⟩) fun H' h1 h2 => ?_
  rw [frzL_nil, show V.list ((l.map (V.int .i64)).map nrm) false = inV l from by simp [inV], callN_by (vv_s l)]
  exact hq _ h1 h2
def fgI (b : Bool) : Int := if b = true then -1 else 0
theorem flagF (b : Bool) : Comes p 108 [.bool b] (inV [fgI b]) := flag_s b
theorem fn_ULT (a b : Int) : Comes p 112 [.int .i64 a, .int .i64 b] (inV [fgI (decide (IntKind.u64.wrap a < IntKind.u64.wrap b))]) := by
  have cc := flagF (decide (IntKind.u64.wrap a < IntKind.u64.wrap b))
  generalize hb : fgI (decide (IntKind.u64.wrap a < IntKind.u64.wrap b)) = z at *
  refine Comes_of w112 rfl rfl k112 ?_ ?_ ?_ ?_
  · simp
  · simp
  · simp
  · simp -dsimp [w112, wFix_by, isInl, call_by (below_s _ _), call_by cc]
theorem fn_ZEQ (a : Int) : Comes p 114 [.int .i64 a] (inV [fgI (decide (a = 0))]) := by
  have cc := flagF (decide (a = 0))
  generalize hb : fgI (decide (a = 0)) = z at *
  refine Comes_of w114 rfl rfl k114 ?_ ?_ ?_ ?_
  · simp
  · simp
  · simp
  · simp -dsimp [w114, wFix_by, isInl, call_by cc]
theorem fn_ZLT (a : Int) : Comes p 115 [.int .i64 a] (inV [fgI (decide (a < 0))]) := by
  have cc := flagF (decide (a < 0))
  generalize hb : fgI (decide (a < 0)) = z at *
  refine Comes_of w115 rfl rfl k115 ?_ ?_ ?_ ?_
  · simp
  · simp
  · simp
  · simp -dsimp [w115, wFix_by, isInl, call_by cc]
theorem fn_ZNE (a : Int) : Comes p 116 [.int .i64 a] (inV [fgI (!decide (a = 0))]) := by
  have cc := flagF (!decide (a = 0))
  generalize hb : fgI (!decide (a = 0)) = z at *
  refine Comes_of w116 rfl rfl k116 ?_ ?_ ?_ ?_
  · simp
  · simp
  · simp
  · simp -dsimp [w116, wFix_by, isInl, call_by cc]
theorem fn_ZGT (a : Int) : Comes p 117 [.int .i64 a] (inV [fgI (decide (0 < a))]) := by
  have cc := flagF (decide (0 < a))
  generalize hb : fgI (decide (0 < a)) = z at *
  refine Comes_of w117 rfl rfl k117 ?_ ?_ ?_ ?_
  · simp
  · simp
  · simp
  · simp -dsimp [w117, wFix_by, isInl, call_by cc]
theorem fn_WITHIN (a b c : Int) : Comes p 118 [.int .i64 a, .int .i64 b, .int .i64 c] (inV [fgI (decide (IntKind.u64.wrap (IntKind.i64.wrap (a - b)) < IntKind.u64.wrap (IntKind.i64.wrap (c - b))))]) := by
  have cc := flagF (decide (IntKind.u64.wrap (IntKind.i64.wrap (a - b)) < IntKind.u64.wrap (IntKind.i64.wrap (c - b))))
  generalize hb : fgI (decide (IntKind.u64.wrap (IntKind.i64.wrap (a - b)) < IntKind.u64.wrap (IntKind.i64.wrap (c - b)))) = z at *
  refine Comes_of w118 rfl rfl k118 ?_ ?_ ?_ ?_
  · simp
  · simp
  · simp
  · simp -dsimp [w118, wFix_by, isInl, call_by (within_s _ _ _), call_by cc]
theorem fn_FLT (a b : Int) : Comes p 120 [.int .i64 a, .int .i64 b] (inV [fgI (F.less a b)]) := by
  have cc := flagF (F.less a b)
  generalize hb : fgI (F.less a b) = z at *
  refine Comes_of w120 rfl rfl k120 ?_ ?_ ?_ ?_
  · simp
  · simp
  · simp
  · simp -dsimp [w120, wFix_by, isInl, call_by (F.c_less _ _), call_by cc]
theorem fn_FEQ (a b : Int) : Comes p 122 [.int .i64 a, .int .i64 b] (inV [fgI (F.same a b)]) := by
  have cc := flagF (F.same a b)
  generalize hb : fgI (F.same a b) = z at *
  refine Comes_of w122 rfl rfl k122 ?_ ?_ ?_ ?_
  · simp
  · simp
  · simp
  · simp -dsimp [w122, wFix_by, isInl, call_by (F.c_same _ _), call_by cc]
theorem fn_STOF (a : Int) : Comes p 130 [.int .i64 a] (inV [F.put a]) := by
  refine Comes_of w130 rfl rfl k130 ?_ ?_ ?_ ?_
  · simp
  · simp
  · simp
  · simp -dsimp [w130, call_by (F.c_put _)]
    refine v_s (l := [F.put a]) rfl rfl fun H' => ?_
    simp -dsimp [wFix_by, isInl]
theorem box_two (op : Int) (a b : Int) : BoxIs 125 (.int .u8 op) [.int .i64 a, .int .i64 b] (.ok [(F.two op a b).1]) := by
  intro H k2 Q hk hq
  have hre : reach H 1000 (refsL ([.int .i64 a, .int .i64 b] ++ [.ptr k2 0])) [] = some [k2] := by
    rw [show refsL ([.int .i64 a, .int .i64 b] ++ [.ptr k2 0]) = [k2] from by simp [refsL, refs]]
    exact reachQ hk rfl
  refine WCall_inl (by kernel_rfl) hre ?_
  have e1 : ([k2] : List Nat).idxOf k2 = 0 := by simp
  have hi' : H[k2]?.getD .dead = .live [.int .u8 op] := by rw [hk]; rfl
  simp -dsimp [renL, ren, renOb, e1, hi']
  refine WFun_of w125 rfl rfl k125 ?_
  simp -dsimp [w125, call_by (F.c_two _ _ _)]
  refine v_sT (l := [(F.two op a b).1]) rfl rfl fun H' h1 h2 => ?_
  obtain ⟨o, rfl⟩ : ∃ o, H' = .live [.int .u8 op] :: o := by
    match H', h1 with
    | x :: r, h1 => simp at h1; exact ⟨r, by rw [h1]⟩
    | [], h1 => simp at h1
  simp -dsimp []
  have rb : ∀ g b, ren g (inV b) = inV b := fun g b => ground_ren g _ (inV.gd b)
  have r0 : ∀ b, refs (inV b) = [] := fun b => ground_refs _ (inV.gd b)
  simp [renR, rb, r0, backH, setAll, renOb, renL, ren, crV, refsOb, refsL, refs, setQ hk]
  exact hq
theorem box_lone (op : Int) (a : Int) : BoxIs 128 (.int .u8 op) [.int .i64 a] (.ok [(F.one op a).1]) := by
  intro H k2 Q hk hq
  have hre : reach H 1000 (refsL ([.int .i64 a] ++ [.ptr k2 0])) [] = some [k2] := by
    rw [show refsL ([.int .i64 a] ++ [.ptr k2 0]) = [k2] from by simp [refsL, refs]]
    exact reachQ hk rfl
  refine WCall_inl (by kernel_rfl) hre ?_
  have e1 : ([k2] : List Nat).idxOf k2 = 0 := by simp
  have hi' : H[k2]?.getD .dead = .live [.int .u8 op] := by rw [hk]; rfl
  simp -dsimp [renL, ren, renOb, e1, hi']
  refine WFun_of w128 rfl rfl k128 ?_
  simp -dsimp [w128, call_by (F.c_one _ _)]
  refine v_sT (l := [(F.one op a).1]) rfl rfl fun H' h1 h2 => ?_
  obtain ⟨o, rfl⟩ : ∃ o, H' = .live [.int .u8 op] :: o := by
    match H', h1 with
    | x :: r, h1 => simp at h1; exact ⟨r, by rw [h1]⟩
    | [], h1 => simp at h1
  simp -dsimp []
  have rb : ∀ g b, ren g (inV b) = inV b := fun g b => ground_ren g _ (inV.gd b)
  have r0 : ∀ b, refs (inV b) = [] := fun b => ground_refs _ (inV.gd b)
  simp [renR, rb, r0, backH, setAll, renOb, renL, ren, crV, refsOb, refsL, refs, setQ hk]
  exact hq
end Fz.D
set_option maxRecDepth 100000
namespace Fz.D
open Go
end Fz.D
set_option maxRecDepth 100000
namespace Fz.D
open Go
end Fz.D
set_option maxRecDepth 100000
namespace Fz.D
open Go
end Fz.D
set_option maxRecDepth 100000
namespace Fz.D
open Go
end Fz.D
set_option maxRecDepth 100000
namespace Fz.D
open Go
theorem awake09_s : Comes p 13 [] (.bool true) := by
  obtain ⟨H, h⟩ := isTrue_ok awake9
  exact ⟨rfl, rfl, rfl, 1000, .bool true, H, h, .inr ⟨rfl, .bool true, H, rfl, rfl⟩⟩
theorem same04_s {l : List Int} (hl : l.length ≤ 100000) : Comes p 16 [inV l, inV l] (.bool true) := by
  refine Comes_of w16 rfl rfl k16 ?_ ?_ ?_ ?_
  · simp
  · simp
  · simp
  · simp -dsimp [w16, wFix_by, isInl]
    refine xL_by (by kernel_rfl) (fun k e H => ∃ i : Nat, i ≤ l.length ∧ k = l.length - i ∧ e 0 = inV l ∧ e 1 = inV l ∧ e 5 = .int .i64 i ∧ H = []) l.length ?_ ?_
    · refine ⟨0, by omega, rfl, ?_⟩
      simp -dsimp []
    · rintro k e H ⟨i, hi, hk, h0, h1, h5, rfl⟩
      by_cases c : i < l.length
      · have w2 : IntKind.i64.wrap ((i : Int) + 1) = ((i + 1 : Nat) : Int) := by rw [Fz.w64 (by omega) (by omega)]; omega
        simp -dsimp [h0, h1, h5, c, w2]
        refine ⟨l.length - (i + 1), by omega, i + 1, by omega, rfl, ?_⟩
        simp -dsimp [h0, h1]
      · simp -dsimp [h0, h1, h5, c, wFix_by, isInl]
def gtQ (a : List Int) (i : Nat) : Int := a.getD i 0
def i64Q (n : Int) : Prop := -9223372036854775808 ≤ n ∧ n ≤ 9223372036854775807
end Fz.D
set_option maxRecDepth 100000
namespace Fz.D
open Go
end Fz.D
set_option maxRecDepth 100000
namespace Fz.D
open Go
def leN : List Int → Nat
  | [] => 0
  | c :: r => c.toNat + 256 * leN r
def cellE (m : List Int) (i : Int) : Int := if i < 0 ∨ (m.length : Int) - 8 < i then -9 else if i % 8 = 0 then 0 else -23
def cellN (m : List Int) (i : Int) : Int := if cellE m i = 0 then IntKind.i64.wrap (leN ((m.drop i.toNat).take 8) : Nat) else 0
def spanE (m : List Int) (i n : Int) : Int := if i < 0 ∨ n < 0 ∨ (m.length : Int) < n ∨ (m.length : Int) - n < i then -9 else 0
def spanB (m : List Int) (i n : Int) : List Int := if spanE m i n = 0 then (m.drop i.toNat).take n.toNat else []
end Fz.D
set_option maxRecDepth 100000
namespace Fz.D
open Go
structure Stp where
  source : ByteArray
  input : List Int
  size : Int
  depth : Int
  room : Int
def stpV (x : Stp) : V := .agg [.str x.source, byV x.input, .int .i64 x.size, .int .i64 x.depth, .int .i64 x.room]
@[simp] theorem stpV.gd (x : Stp) : ground (stpV x) = true := by simp [stpV]
@[simp] theorem stpV.gk (x : Stp) (k : Nat) : gk (k + 2) (stpV x) = true := by simp [stpV]
@[simp] theorem stpV.nr (x : Stp) : nrm (stpV x) = stpV x := by simp [stpV]
@[simp] theorem stpV.nm (x : Stp) : nm (stpV x) = true := by simp [stpV]
@[simp] theorem stpV.any (x : Stp) : isAny (stpV x) = false := rfl
@[simp] theorem stpV.cells (x : Stp) : cellsOf (stpV x) = [.str x.source, byV x.input, .int .i64 x.size, .int .i64 x.depth, .int .i64 x.room] := rfl
structure StpTy (x : Stp) : Prop where
  input : by8 x.input
  size : i64 x.size
  depth : i64 x.depth
  room : i64 x.room
def winB (a b c : Int) : Bool := decide (b ≤ a) && decide (a ≤ c)
def mayB (x : Stp) : Bool := winB x.size 512 65536 && (decide (Int.tmod x.size 8 = 0) && (winB x.depth 4 256 && (winB x.room 0 65536 && (decide ((x.source.size : Int) ≤ 4096) && decide ((x.input.length : Int) ≤ 4096)))))
def mayE (x : Stp) : Int := if mayB x then 0 else 1
end Fz.D
set_option maxRecDepth 100000
namespace Fz.D
open Go
def wk (x : Stp) (w : Int) (c : Bool) (q : St × Int) : List V := [byV q.1.mem, inV q.1.data, .list (q.1.ret.map sloV) c, inV q.1.ctl, worsV q.1.words, sposV q.1.spots, byV q.1.out, .int .i64 q.1.ip, .int .i64 q.1.here, .int .i64 q.1.at_, .int .i64 q.1.tok, .int .i64 q.1.in_, .int .i64 q.1.err, .bool q.1.comp, .bool q.1.halt,
  .str x.source, byV x.input, .int .i64 x.size, .int .i64 x.depth, .int .i64 x.room, .int .i64 w, .int .i64 q.2]
def mustM (b : Bool) (e' : Int) (q : St × Int) : St × Int := (q.1, if q.2 = 0 then (if b then 0 else e') else q.2)
def takeM (q : St × Int) : Int × (St × Int) := if q.2 = 0 then (q.1.data.getLast?.getD 0, ({ q.1 with data := q.1.data.dropLast }, if q.1.data = [] then -4 else 0)) else (0, q)
def giveM (x : Stp) (v : Int) (q : St × Int) : St × Int := if q.2 = 0 then (if (q.1.data.length : Int) + 1 ≤ x.depth then ({ q.1 with data := q.1.data ++ [v] }, 0) else (q.1, -3)) else q
def jumpM (a : Int) (q : St × Int) : St × Int := if q.2 = 0 then ({ q.1 with ip := a }, 0) else q
def backM (x : Stp) (m : List Slo) (q : St × Int) : St × Int := if q.2 = 0 then (if (q.1.ret.length : Int) + m.length ≤ x.depth then ({ q.1 with ret := q.1.ret ++ m }, 0) else (q.1, -5)) else q
def backsM (n : Nat) (q : St × Int) : List Int × (St × Int) := if q.2 = 0 then (if n ≤ q.1.ret.length then ((q.1.ret.drop (q.1.ret.length - n)).map Slo.v, ({ q.1 with ret := q.1.ret.take (q.1.ret.length - n) }, 0)) else (List.replicate n 0, (q.1, -6))) else (List.replicate n 0, q)
def backC (x : Stp) (m : List Slo) (c : Bool) (q : St × Int) : Bool := if q.2 = 0 ∧ (q.1.ret.length : Int) + m.length ≤ x.depth then false else c
def backsC (n : Nat) (c : Bool) (q : St × Int) : Bool := if q.2 = 0 ∧ n ≤ q.1.ret.length then true else c
def peekM (x : Stp) (n : Nat) (q : St × Int) : St × Int := if q.2 = 0 then (if n < q.1.ret.length then giveM x ((q.1.ret.getD (q.1.ret.length - 1 - n) ⟨0, false⟩).v) q else (q.1, -6)) else q
end Fz.D
set_option maxRecDepth 100000
namespace Fz.D
open Go
theorem zeros_gd {z : List V} (h : groundL z = true) : ∀ k, groundL (zeros z k) = true
  | 0 => rfl
  | k + 1 => by
    rw [zeros, groundL_eq, List.all_append, ← groundL_eq, ← groundL_eq, h, zeros_gd h k]; rfl
theorem zeros_len {z : List V} : ∀ k, (zeros z k).length = k * z.length
  | 0 => by simp [zeros]
  | k + 1 => by rw [zeros, List.length_append, zeros_len k, Nat.succ_mul]; omega
def totA {α : Type} (ls : List (List α)) : Nat := (ls.map List.length).sum
theorem totA_take {α : Type} (ls : List (List α)) (i : Nat) : totA (ls.take i) ≤ totA ls := by
  unfold totA
  conv => rhs; rw [← List.take_append_drop i ls]
  rw [List.map_append, List.sum_append]; omega
theorem totA_succ {α : Type} (ls : List (List α)) (i : Nat) (h : i < ls.length) : totA (ls.take (i + 1)) = totA (ls.take i) + ls[i].length := by
  unfold totA
  rw [List.take_succ_eq_append_getElem h, List.map_append, List.sum_append]; simp
def catA {α : Type} (ls : List (List α)) : List α := ls.flatten
@[simp] theorem catA_nil {α : Type} : catA ([] : List (List α)) = [] := rfl
theorem catA_len {α : Type} (ls : List (List α)) : (catA ls).length = totA ls := by
  unfold totA catA; rw [List.length_flatten]
theorem catA_succ {α : Type} (ls : List (List α)) (i : Nat) (h : i < ls.length) : catA (ls.take (i + 1)) = catA (ls.take i) ++ ls[i] := by
  unfold catA
  rw [List.take_succ_eq_append_getElem h, List.flatten_append]; simp
theorem grow_int {n : Int} {H : List Ob} {Q : CR → List Ob → Prop} (h0 : 0 ≤ n) (h1 : n ≤ 10000000) (hq : ∀ v J, Ac 1 H.length J v [] → Q (.ret v) (H ++ J)) : WCall p 309 [.list [] true, .int .i64 n] H Q := by
  have hr : reach H 1000 (refsL [.list [] true, .int .i64 n]) [] = some [] := rfl
  refine WCall_inl (by kernel_rfl) hr ?_
  refine WFun_of w309 rfl rfl k309 ?_
  have e0 : IntKind.i64.wrap n = n := Fz.w64 (by omega) (by omega)
  have z0 : IntKind.i64.wrap 0 = 0 := Fz.w64 (by omega) (by omega)
  have none : Q (renR (backK [] H.length) (CR.ret (V.list [] true))) (backH [] (CR.ret (V.list [] true)) [] H) := by
    have := hq (.list [] true) [] (ac_nil (by decide))
    simpa [renR, ren, renL, backH, crV, refs, refsL, setAll] using this
  by_cases hn : n = 0
  · subst hn
    simp -dsimp [w309, renL, ren]
    have e1 : IntKind.i64.wrap (-IntKind.i64.wrap 0) = 0 := by rw [z0]; exact z0
    rw [e1, if_neg (by omega)]
    exact none
  · have hp : 0 < n := by omega
    have hz : ¬ n < 0 := by omega
    simp -dsimp [w309, renL, ren, e0, hp, hz]
    have e1 : IntKind.i64.wrap (n - IntKind.i64.wrap 0) = n := by rw [z0, Int.sub_zero]; exact e0
    rw [e1, if_pos hp]
    have hl : (zeros [V.int .i64 0] n.toNat).length = n.toNat * 1 := zeros_len _
    first
    | (refine ⟨⟨h0, by omega, by omega⟩, ?_⟩
       rw [if_neg (by omega)]
       refine ⟨⟨hl, by simp [capOk]; omega⟩, ?_⟩)
    | (rw [if_neg (by omega)]
       refine ⟨⟨h0, by omega, by omega⟩, by simp [capOk]; omega, ?_⟩)
    | (refine ⟨⟨h0, by omega, by omega⟩, ?_⟩
       rw [if_neg (by omega)]
       refine ⟨by simp [capOk]; omega, ?_⟩)
    have := hq (.own H.length 0 0 1) [.live (zeros [V.int .i64 0] n.toNat)] ⟨rfl, by decide, .inr ⟨0, _, rfl, rfl, by simp, by simp [flat]⟩⟩
    have e2 : renOb (backK [] H.length) (.live (zeros [V.int .i64 0] n.toNat)) = .live (zeros [V.int .i64 0] n.toNat) := by
      rw [renOb, groundL_ren _ _ (zeros_gd (by simp) _)]
    try rw [show List.replicate n.toNat (V.int .i64 0) = zeros [V.int .i64 0] n.toNat from by simp]
    simp only [renR, ren, renL, backH, crV, refs, refsL, setAll, List.take_zero, List.flatMap_nil, List.append_nil, List.length_nil, List.any_cons, List.map_nil, List.drop_zero, List.map_cons, e2, List.any_nil]
    simpa [backK] using this
theorem concat_int {ls : List (List Int)} (ht : totA ls ≤ 10000000) (hl : ls.length ≤ 1000000) : Comes p 169 [.list (ls.map inV) false] (inV (catA ls)) := by
  refine Comes_of w169 rfl rfl k169 ?_ ?_ ?_ ?_
  · simp
  · simp
  · simp
  simp -dsimp [w169]
  refine xL_by (by kernel_rfl) (fun k e H => ∃ i : Nat, i ≤ ls.length ∧ k = ls.length - i ∧ e 0 = .list (ls.map inV) false ∧ e 9 = .list (ls.map inV) false ∧ e 10 = .int .i64 ls.length ∧ e 11 = .int .i64 i ∧ e 3 = .int .i64 (totA (ls.take i)) ∧ H = []) ls.length ?_ ?_
  · exact ⟨0, by simp [totA]⟩
  · rintro k e H ⟨i, hi, hk, h0, h9, h10, h11, h3, rfl⟩
    have t1 := totA_take ls i
    simp -dsimp [h0, h9, h10, h11, h3]
    split
    · rename_i hlt
      have t2 := totA_succ ls i hlt
      have t3 := totA_take ls (i + 1)
      have w1 : IntKind.i64.wrap (((totA (ls.take i) : Nat) : Int) + ((ls[i].length : Nat) : Int)) = ((totA (ls.take (i + 1)) : Nat) : Int) := by rw [Fz.w64 (by omega) (by omega)]; omega
      have w2 : IntKind.i64.wrap ((i : Int) + 1) = ((i + 1 : Nat) : Int) := by rw [Fz.w64 (by omega) (by omega)]; omega
      have g : ls[i]?.getD default = ls[i] := by simp [hlt]
      refine ⟨hlt, ?_⟩
      rw [g, w1]
      refine ⟨by omega, ?_⟩
      refine ⟨ls.length - (i + 1), by omega, i + 1, by omega, rfl, ?_⟩
      simp -dsimp [h0, h9, h10]
      rw [w2]; omega
    · rename_i hge
      have hii : i = ls.length := by omega
      subst hii
      rw [List.take_length] at h3 ⊢
      refine grow_int (by omega) (by omega) fun v J hac => ?_
      simp -dsimp [h0, h9, h10, h11, h3]
      refine xL_by (by kernel_rfl) (fun k e H => ∃ (i : Nat) (v : V) (J : List Ob), i ≤ ls.length ∧ k = ls.length - i ∧ e 25 = .list (ls.map inV) false ∧ e 26 = .int .i64 ls.length ∧ e 27 = .int .i64 i ∧ e 6 = v ∧ Ac 1 0 J v ((catA (ls.take i)).map (V.int .i64)) ∧ H = J) ls.length ?_ ?_
      · exact ⟨0, v, J, by simp [h0]; exact hac⟩
      · rintro k e H ⟨i, v, J, hi, hk, h25, h26, h27, h6, hac, rfl⟩
        simp -dsimp [h25, h26, h27, h6]
        split
        · rename_i hlt
          have g : ls[i]?.getD default = ls[i] := by simp [hlt]
          refine ⟨hlt, ?_⟩
          rw [g]
          have t2 := totA_succ ls i hlt
          have t3 := totA_take ls (i + 1)
          have t4 : (catA (ls.take i)).length = totA (ls.take i) := catA_len _
          have e1 := catA_succ ls i hlt
          refine app_ac 0 (m := ls[i].map (V.int .i64)) (by simpa using hac) (by simp) (by simp) (by simp) (by simp) (by simp) (by rw [List.length_map, List.length_map, t4]; simp [capOk]; omega) fun v' J' hac' => ?_
          have w2 : IntKind.i64.wrap ((i : Int) + 1) = ((i + 1 : Nat) : Int) := by rw [Fz.w64 (by omega) (by omega)]; omega
          simp -dsimp [h25, h26, h27, w2]
          refine ⟨ls.length - (i + 1), by omega, i + 1, v', J', by omega, rfl, ?_⟩
          simp -dsimp [h25, h26]
          rw [e1, List.map_append]
          exact hac'
        · rename_i hge
          have hii : i = ls.length := by omega
          subst hii
          rw [List.take_length] at hac
          have ac2 := hac
          obtain ⟨u1, u2, u3⟩ := hac
          rcases u3 with ⟨u3, rfl⟩ | ⟨j, cells, rfl, u4, u5, u6⟩
          · have e0 : inV (catA ls) = .list [] false := by unfold inV; rw [u3]
            rw [e0]
            simp -dsimp [wFix_by, isInl]
          · simp -dsimp [-frz_own, wFix_by, isInl]
            refine frz_acgQ 0 (k := 11) (by simpa using ac2) (by simp) (.inl ⟨rfl, by simp⟩) fun H' _ _ => ?_
            simp -dsimp [inV]
end Fz.D
set_option maxRecDepth 100000
namespace Fz.D
open Go
theorem retH {H Hl : List Ob} {Q : CR → List Ob → Prop} {v : V} (hg : ground v = true) (hq : Q (.ret v) H) : Q (renR (backK [] H.length) (CR.ret v)) (backH [] (CR.ret v) Hl H) := by
  have r1 : ∀ g, ren g v = v := fun g => ground_ren g _ hg
  have r2 : refs v = [] := ground_refs _ hg
  simp only [renR, r1]
  unfold backH
  rw [if_neg (by simp [crV, r2])]
  simpa [setAll] using hq
theorem panH {H Hl : List Ob} {Q : CR → List Ob → Prop} {e : Int} (hq : Q (.panic (thrown e)) H) : Q (renR (backK [] H.length) (CR.panic (thrown e))) (backH [] (CR.panic (thrown e)) Hl H) := by
  unfold backH
  rw [if_neg (by simp [crV, thrown, refs])]
  simpa [renR, thrown, ren, setAll] using hq
theorem one_xs {H : List Ob} {i k : Nat} {l r : List Int} {a : Int} {f : FuncId} (hf : ∀ (H : List Ob) (Q : CR → List Ob → Prop), Q (.ret (inV r)) H → xCall p f [.int .i64 a] H Q) (hi : H[i]? = some (.live [inV (l ++ [a])])) (hk : H[k]? = some (.live [.fn (.func f) [] []])) (hl : l.length ≤ 10000) (hr : r.length ≤ 10) (hY : ¬ f = 4000000000)
    {Q : CR → List Ob → Prop} (hq : ∀ v J, PV H.length J v (l ++ r) → Q (.ret (.tuple [])) (H.set i (.live [v]) ++ J)) : xCall p 162 [.ptr i 0, .ptr k 0] H Q := by
  have hik : i ≠ k := by
    rintro rfl
    rw [hi] at hk
    simp [inV] at hk
  refine WCall_inl (by kernel_rfl) (reach2 hi hk rfl hik) ?_
  have e1 : ([i, k] : List Nat).idxOf i = 0 := by simp
  have e2 : ([i, k] : List Nat).idxOf k = 1 := by
    have e0 : (i == k) = false := by rw [beq_eq_false_iff_ne]; exact hik
    simp [List.idxOf_cons, e0]
  have hi' : H[i]?.getD .dead = .live [inV (l ++ [a])] := by rw [hi]; rfl
  have hk' : H[k]?.getD .dead = .live [.fn (.func f) [] []] := by rw [hk]; rfl
  have rb : ∀ g b, ren g (inV b) = inV b := fun g b => ground_ren g _ (inV.gd b)
  simp -dsimp [renL, ren, renOb, e1, e2, hi', hk', rb]
  refine WFun_of woneD rfl rfl koneD ?_
  simp -dsimp [woneD]
  refine WDraw_see (R := [.dead, .live [.fn (.func f) [] []]]) (by kernel_rfl) (by simp) ?_
  simp -dsimp []
  refine doesQ_go (popD (l := l) (a := a) (by first | omega | (simp; omega))) rfl ?_
  simp -dsimp [hY]
  refine hf _ _ ?_
  simp -dsimp []
  refine push_s (i := 0) (l := l) (vs := r) ?_ (by omega) fun v J pv => ?_
  · rfl
  simp -dsimp []
  exact two_back hk (fun g => rfl) hik pv hq
theorem one_xthr {H : List Ob} {i k : Nat} {l : List Int} {a e : Int} {f : FuncId} (hf : ∀ (H : List Ob) (Q : CR → List Ob → Prop), Q (.panic (thrown e)) H → xCall p f [.int .i64 a] H Q) (hi : H[i]? = some (.live [inV (l ++ [a])])) (hk : H[k]? = some (.live [.fn (.func f) [] []])) (hl : l.length ≤ 10000) (hY : ¬ f = 4000000000)
    {Q : CR → List Ob → Prop} (hq : ∀ x J, Q (.panic (thrown e)) (H.set i (.live x) ++ J)) : xCall p 162 [.ptr i 0, .ptr k 0] H Q := by
  have hik : i ≠ k := by
    rintro rfl
    rw [hi] at hk
    simp [inV] at hk
  refine WCall_inl (by kernel_rfl) (reach2 hi hk rfl hik) ?_
  have e1 : ([i, k] : List Nat).idxOf i = 0 := by simp
  have e2 : ([i, k] : List Nat).idxOf k = 1 := by
    have e0 : (i == k) = false := by rw [beq_eq_false_iff_ne]; exact hik
    simp [List.idxOf_cons, e0]
  have hi' : H[i]?.getD .dead = .live [inV (l ++ [a])] := by rw [hi]; rfl
  have hk' : H[k]?.getD .dead = .live [.fn (.func f) [] []] := by rw [hk]; rfl
  have rb : ∀ g b, ren g (inV b) = inV b := fun g b => ground_ren g _ (inV.gd b)
  simp -dsimp [renL, ren, renOb, e1, e2, hi', hk', rb]
  refine WFun_of woneD rfl rfl koneD ?_
  simp -dsimp [woneD]
  refine WDraw_pan (R := [.dead, .live [.fn (.func f) [] []]]) 4 rfl (by kernel_rfl) (by simp) ?_
  simp -dsimp []
  refine doesQ_go (popD (l := l) (a := a) (by first | omega | (simp; omega))) rfl ?_
  simp -dsimp [hY]
  refine hf _ _ ?_
  refine ⟨by simp, ?_⟩
  exact back2p (J := []) (inV.gd l) hk rfl hik hq
theorem ftos_ok {a n : Int} (h : F.take a = (n, true)) (H : List Ob) (Q : CR → List Ob → Prop) (hq : Q (.ret (inV [n])) H) : xCall p 132 [.int .i64 a] H Q := by
  have c := F.c_take a
  rw [h] at c
  refine WCall_inl (ids := []) (by kernel_rfl) rfl ?_
  refine WFun_of w132 rfl rfl k132 ?_
  simp -dsimp [w132, renL, ren, call_by c]
  refine aIs_t ?_
  simp -dsimp []
  refine v_s (l := [n]) rfl rfl fun H' => ?_
  simp -dsimp []
  exact retH (inV.gd _) hq
theorem ftos_thr {a n : Int} (h : F.take a = (n, false)) (H : List Ob) (Q : CR → List Ob → Prop) (hq : Q (.panic (thrown (-11))) H) : xCall p 132 [.int .i64 a] H Q := by
  have c := F.c_take a
  rw [h] at c
  refine WCall_inl (ids := []) (by kernel_rfl) rfl ?_
  refine WFun_of w132 rfl rfl k132 ?_
  simp -dsimp [w132, renL, ren, call_by c]
  refine aIs_f (by decide) ?_
  simp -dsimp [thrown]
  exact panH hq
noncomputable def ftosF (a : Int) : Rs := if (F.take a).2 = true then .ok [(F.take a).1] else .thr (-11)
theorem aluS_FTOS {op : Int} (hp : ∀ d dep, AluPreG op d dep [162] (.fn (.func 132) [] [])) : AluS op (.fn 1 fun a => ftosF (gA a 0)) := by
  refine aluS_fn hp (fun l hl H v hc => one_under hc hl) fun L a ha hL h8 => ?_
  rw [len1 ha]
  show WordIs _ _ _ (match ftosF (gA a 0) with | .ok r => .ok (L ++ r) | .thr e => .thr e)
  unfold ftosF
  cases ht : F.take (gA a 0) with
  | mk n b =>
    cases b with
    | true =>
      rw [if_pos rfl]
      intro H v hc
      obtain ⟨k, w, rfl, hk, rfl⟩ := hc
      refine ⟨_, _, rfl, by decide, fun Q hq => ?_⟩
      refine one_xs (i := H.length) (k := k) (ftos_ok ht) get_last (get_old hk) (by omega) (by simp) (by decide) fun v J pv => ?_
      rw [set_last]
      exact hq v J (by simpa using pv)
    | false =>
      rw [if_neg (show ¬ (false = true) by decide)]
      intro H v hc
      obtain ⟨k, w, rfl, hk, rfl⟩ := hc
      refine ⟨_, _, rfl, by decide, fun Q hq => ?_⟩
      refine one_xthr (i := H.length) (k := k) (ftos_thr ht) get_last (get_old hk) (by omega) (by decide) fun x J => ?_
      rw [set_last]
      exact hq x J
theorem first_s (q r : Int) : Comes p 85 [.int .i64 q, .int .i64 r] (inV [q]) := by
  refine Comes_of w85 rfl rfl k85 ?_ ?_ ?_ ?_
  · simp
  · simp
  · simp
  · simp -dsimp [w85]
    refine v_s (l := [q]) rfl rfl fun H' => ?_
    simp -dsimp [wFix_by, isInl]
theorem last_s (q r : Int) : Comes p 86 [.int .i64 q, .int .i64 r] (inV [r]) := by
  refine Comes_of w86 rfl rfl k86 ?_ ?_ ?_ ?_
  · simp
  · simp
  · simp
  · simp -dsimp [w86]
    refine v_s (l := [r]) rfl rfl fun H' => ?_
    simp -dsimp [wFix_by, isInl]
theorem box_div {g : FuncId} {w : Int → Int → List Int} (hw : ∀ q r, Comes p g [.int .i64 q, .int .i64 r] (inV (w q r))) (hY : ¬ g = 4000000000) (a b : Int) :
    BoxIs 170 (.fn (.func g) [] []) [.int .i64 a, .int .i64 b] (if b = 0 then .thr (-10) else .ok (w (divQ a b) (divR a b))) := by
  by_cases hb : b = 0
  · subst hb
    rw [if_pos rfl]
    exact fun H k2 Q hk hq => div_thr hk hq
  · rw [if_neg hb]
    exact fun H k2 Q hk hq => div_ok hb (hw _ _) hY hk hq
end Fz.D
set_option maxRecDepth 100000
namespace Fz.D
open Go
theorem at1_s (l : List Int) (n : Int) {Q : CR → List Ob → Prop} (hq : Q (.ret (.bool (decide (0 ≤ n) && decide (n < (l.length : Int))))) [.live [inV l], .live [.int .i64 n]]) : xCall p 308 [.ptr 1 0, .ptr 0 0] [.live [inV l], .live [.int .i64 n]] Q := by
  have r0 : refs (inV l) = [] := ground_refs _ (inV.gd l)
  have rb : ∀ g b, ren g (inV b) = inV b := fun g b => ground_ren g _ (inV.gd b)
  refine WCall_inl (ids := [1, 0]) (by kernel_rfl) (by
    show reach _ (996 + 1 + 1 + 1 + 1) [1, 0] [] = _
    simp [reach, refsOb, refsL, refs, r0]) ?_
  have i0 : List.idxOf 0 [1, 0] = 1 := rfl
  have i1 : List.idxOf 1 [1, 0] = 0 := rfl
  have k0 : backK [1, 0] 2 0 = 1 := rfl
  have k1 : backK [1, 0] 2 1 = 0 := rfl
  simp -dsimp [renL, ren, renOb, i0, i1, rb]
  refine WFun_of w308 rfl rfl k308 ?_
  by_cases h : (0 : Int) ≤ n
  · rw [decide_eq_true h] at hq
    simp -dsimp [w308, h]
    simp -dsimp [backH, setAll, renR, renOb, crV, refs, refsL, renL, ren, k0, k1, rb]
    simpa using hq
  · rw [decide_eq_false h] at hq
    simp -dsimp [w308, h]
    simp -dsimp [backH, setAll, renR, renOb, crV, refs, refsL, renL, ren, k0, k1, rb]
    simpa using hq
theorem at_s {l : List Int} {n : Int} (hl : l.length ≤ 100000) (hn : i64 n) : Comes p 168 [inV l, .int .i64 n] (if 0 ≤ n ∧ n < (l.length : Int) then .tuple [.int .i64 ((l.length : Int) - 1 - n), .int .i64 0] else .tuple [.int .i64 0, .int .i64 (-4)]) := by
  unfold i64 at hn
  refine Comes_of w168 rfl rfl k168 ?_ ?_ ?_ ?_
  · simp
  · simp
  · split <;> simp
  · by_cases h : 0 ≤ n ∧ n < (l.length : Int)
    · have w1 : IntKind.i64.wrap ((l.length : Int) - 1) = (l.length : Int) - 1 := Fz.w64 (by omega) (by omega)
      have w2 : IntKind.i64.wrap ((l.length : Int) - 1 - n) = (l.length : Int) - 1 - n := Fz.w64 (by omega) (by omega)
      rw [if_pos h]
      simp -dsimp [w168]
      refine at1_s l n ?_
      rw [decide_eq_true h.1, decide_eq_true h.2]
      simp -dsimp [w1, w2, wFix_by, isInl]
    · rw [if_neg h]
      simp -dsimp [w168]
      refine at1_s l n ?_
      have e : (decide (0 ≤ n) && decide (n < (l.length : Int))) = false := by
        rw [Bool.and_eq_false_iff, decide_eq_false_iff_not, decide_eq_false_iff_not]; omega
      rw [e]
      simp -dsimp [wFix_by, isInl]
theorem pickS_ok {l : List Int} {n : Nat} (hl : l.length ≤ 100000) (hn : n < l.length) : Comes p 73 [inV l, .int .i64 n] (.tuple [.int .i64 (l.getD (l.length - 1 - n) 0), .int .i64 0]) := by
  have c := at_s (l := l) (n := n) hl ⟨by omega, by omega⟩
  rw [if_pos ⟨by omega, by omega⟩] at c
  have e1 : (l.length : Int) - 1 - n = ((l.length - 1 - n : Nat) : Int) := by omega
  rw [e1] at c
  have hg : l.length - 1 - n < l.length := by omega
  have e2 : l.getD (l.length - 1 - n) 0 = l[l.length - 1 - n] := by simp [hg]
  refine Comes_of w73 rfl rfl k73 ?_ ?_ ?_ ?_
  · simp
  · simp
  · simp
  · rw [e2]
    simp -dsimp [w73, call_by c, hg, wFix_by, isInl]
theorem pickS_no {l : List Int} {n : Int} (hl : l.length ≤ 100000) (h8 : i64 n) (hn : ¬ (0 ≤ n ∧ n < (l.length : Int))) : Comes p 73 [inV l, .int .i64 n] (.tuple [.int .i64 0, .int .i64 (-4)]) := by
  have c := at_s (l := l) (n := n) hl h8
  rw [if_neg hn] at c
  refine Comes_of w73 rfl rfl k73 ?_ ?_ ?_ ?_
  · simp
  · simp
  · simp
  · simp -dsimp [w73, call_by c, wFix_by, isInl]
theorem push1_O {H : List Ob} {i j : Nat} {l : List Int} {x : Int} (hi : H[i]? = some (.live [inV l])) (hj : H[j]? = some (.live [.int .i64 x])) (hl : l.length ≤ 90000) {Q : CR → List Ob → Prop} (hq : ∀ v J, PV H.length J v (l ++ [x]) → Q (.ret (.tuple [])) (H.set i (.live [v]) ++ J)) : xCall p 75 [.ptr i 0, .own j 0 1 1] H Q := by
  have hij : i ≠ j := by
    rintro rfl
    rw [hi] at hj
    simp [inV] at hj
  have rb : ∀ g b, ren g (inV b) = inV b := fun g b => ground_ren g _ (inV.gd b)
  have r0 : ∀ b, refs (inV b) = [] := fun b => ground_refs _ (inV.gd b)
  have hre : reach H 1000 (refsL [.ptr i 0, .own j 0 1 1]) [] = some [i, j] := by
    rw [show refsL [.ptr i 0, .own j 0 1 1] = [i, j] from by simp [refsL, refs]]
    refine (reach_go (k := 999) rfl hi).trans ?_
    rw [show refsOb (.live [inV l]) = [] from groundL_refs _ (by simp)]
    refine (reach_go (k := 998) (by simp; omega) hj).trans ?_
    exact reach_end (k := 997)
  refine WCall_inl (by kernel_rfl) hre ?_
  have e1 : ([i, j] : List Nat).idxOf i = 0 := by simp
  have e2 : ([i, j] : List Nat).idxOf j = 1 := by
    have e0 : (i == j) = false := by rw [beq_eq_false_iff_ne]; exact hij
    simp [List.idxOf_cons, e0]
  have hi' : H[i]?.getD .dead = .live [inV l] := by rw [hi]; rfl
  have hj' : H[j]?.getD .dead = .live [.int .i64 x] := by rw [hj]; rfl
  simp -dsimp [renL, ren, renOb, e1, e2, hi', hj', rb]
  refine WFun_of w75 rfl rfl k75 ?_
  simp -dsimp [w75]
  refine ⟨by simp [capOk]; omega, ?_⟩
  have rI : ∀ g, renL g (l.map (V.int .i64) ++ [V.int .i64 x]) = l.map (V.int .i64) ++ [V.int .i64 x] := fun g => groundL_ren g _ (by simp)
  have := hq (.own H.length 0 (l.length + 1) 1) [.live (l.map (V.int .i64) ++ [V.int .i64 x])] (.inr ⟨0, by simp, by simp⟩)
  have k1 : backK [i, j] H.length 2 = H.length := by simp [backK]
  have hs : ∀ o, (H.set i o).set j (.live [V.int .i64 x]) = H.set i o := fun o => setQ (by rw [List.getElem?_set_ne hij]; exact hj)
  simpa [backH, setAll, renOb, ren, renL, renR, crV, refs, refsL, refsOb, rI, k1, hs] using this
def pickF (l : List Int) : Rs := if l = [] then .thr (-4) else
  if 0 ≤ l.getLastD 0 ∧ l.getLastD 0 < (l.dropLast.length : Int) then .ok (l.dropLast ++ [l.dropLast.getD (l.dropLast.length - 1 - (l.getLastD 0).toNat) 0]) else .thr (-4)
theorem pile_pan {H : List Ob} {i : Nat} {x : V} {e : Int} {Hl : List Ob} (hx : ground x = true) {Q : CR → List Ob → Prop} (hq : ∀ x J, Q (.panic (thrown e)) (H.set i (.live x) ++ J)) : Q (renR (backK [i] H.length) (CR.panic (thrown e))) (backH [i] (CR.panic (thrown e)) (.live [x] :: Hl) H) := by
  have rx : ∀ g, ren g x = x := fun g => ground_ren g _ hx
  have qx : refs x = [] := ground_refs _ hx
  have := hq [x] []
  unfold backH
  rw [if_neg (by simp [crV, thrown, refs, refsOb, refsL, qx])]
  simpa [renR, thrown, ren, renL, renOb, setAll, rx] using this
theorem pile_ret {H J : List Ob} {i : Nat} {v : V} {l : List Int} {x : Int} (hpv : PV 2 J v l) {Q : CR → List Ob → Prop} (hq : ∀ v J, PV H.length J v l → Q (.ret (.tuple [])) (H.set i (.live [v]) ++ J)) :
    Q (renR (backK [i] H.length) (CR.ret (.tuple []))) (backH [i] (CR.ret (.tuple [])) (.live [v] :: .live [.int .i64 x] :: J) H) := by
  have rI : ∀ g, renL g (l.map (V.int .i64)) = l.map (V.int .i64) := fun g => groundL_ren g _ (by simp)
  have rx : refsL (l.map (V.int .i64)) = [] := groundL_refs _ (by simp)
  rcases hpv with ⟨c, rfl⟩ | ⟨j, rfl, h4⟩
  · have := hq (.list (l.map (V.int .i64)) c) [] (.inl ⟨c, rfl⟩)
    unfold backH
    rw [if_neg (by simp [crV, refs, refsL, refsOb, rx])]
    simpa [renR, ren, renL, renOb, setAll, rI] using this
  · have k1 : backK [i] H.length (2 + j) = H.length + (j + 1) := by simp [backK]; omega
    have := hq (.own (H.length + (j + 1)) 0 l.length 1) (.live [.int .i64 x] :: J.map (renOb (backK [i] H.length))) (.inr ⟨j + 1, rfl, by rw [List.getElem?_cons_succ, List.getElem?_map, h4]; simp only [Option.map_some, renOb, rI]⟩)
    unfold backH
    rw [if_pos (by simp [crV, refs, refsL, refsOb]; omega)]
    simpa [renR, ren, renL, renOb, setAll, k1] using this
theorem last_snoc {l : List Int} (h : ¬ l = []) : ∃ L n, l = L ++ [n] := by
  rcases List.eq_nil_or_concat l with h0 | ⟨L, n, h0⟩
  · exact absurd h0 h
  · exact ⟨L, n, by rw [h0, List.concat_eq_append]⟩
theorem pick_W {op : Int} (hp : ∀ d dep, AluPreG op d dep [] (.fn (.func 71) [] [])) : AluS op (.all pickF) := by
  refine aluS_all hp fun l hl h8 => ?_
  unfold pickF
  by_cases h : l = []
  · rw [if_pos h]
    subst h
    intro H v hc
    have hc : v = .fn (.func 71) [] [] := hc
    subst hc
    refine ⟨_, _, rfl, by decide, fun Q hq => ?_⟩
    have rb : ∀ g b, ren g (inV b) = inV b := fun g b => ground_ren g _ (inV.gd b)
    refine WCall_inl (by kernel_rfl) (reachQ (l := [inV []]) get_last (groundL_refs _ (by simp))) ?_
    simp -dsimp [renL, ren, renOb, rb]
    refine WFun_of w71 rfl rfl k71 ?_
    simp -dsimp [w71]
    refine pop_0 rfl ?_
    simp -dsimp []
    refine pile_pan (i := H.length) (inV.gd _) fun x J => ?_
    rw [set_last]
    exact hq x J
  · rw [if_neg h]
    obtain ⟨L, n, rfl⟩ := last_snoc h
    have e1 : (L ++ [n]).getLastD 0 = n := by simp
    have e2 : (L ++ [n]).dropLast = L := by simp
    have hn : i64 n := h8 n (by simp)
    have hL : L.length ≤ 1000 := by simp at hl; omega
    rw [e1, e2]
    have rb : ∀ g b, ren g (inV b) = inV b := fun g b => ground_ren g _ (inV.gd b)
    by_cases hk : 0 ≤ n ∧ n < (L.length : Int)
    · rw [if_pos hk]
      obtain ⟨m, rfl⟩ : ∃ m : Nat, n = m := ⟨n.toNat, by omega⟩
      have c := pickS_ok (l := L) (n := m) (by omega) (by omega)
      have e3 : ((m : Int)).toNat = m := by omega
      rw [e3]
      intro H v hc
      have hc : v = .fn (.func 71) [] [] := hc
      subst hc
      refine ⟨_, _, rfl, by decide, fun Q hq => ?_⟩
      refine WCall_inl (by kernel_rfl) (reachQ (l := [inV (L ++ [(m : Int)])]) get_last (groundL_refs _ (by simp))) ?_
      simp -dsimp [renL, ren, renOb, rb]
      refine WFun_of w71 rfl rfl k71 ?_
      simp -dsimp [w71]
      refine doesQ_go (popD (l := L) (a := (m : Int)) (by omega)) rfl ?_
      simp -dsimp [call_by c]
      refine aMust_0 ?_
      simp -dsimp [fillV, splice, chunk]
      refine push1_O (i := 0) (j := 1) (l := L) (x := L.getD (L.length - 1 - m) 0) rfl rfl (by omega) fun v J pv => ?_
      simp -dsimp []
      have := pile_ret (H := H ++ [.live [inV (L ++ [(m : Int)])]]) (i := H.length) (x := L.getD (L.length - 1 - m) 0) (by simpa using pv) (Q := Q) fun v J pv => by
        rw [set_last]
        exact hq v J (by simpa using pv)
      simpa using this
    · rw [if_neg hk]
      have c := pickS_no (l := L) (n := n) (by omega) hn hk
      intro H v hc
      have hc : v = .fn (.func 71) [] [] := hc
      subst hc
      refine ⟨_, _, rfl, by decide, fun Q hq => ?_⟩
      refine WCall_inl (by kernel_rfl) (reachQ (l := [inV (L ++ [n])]) get_last (groundL_refs _ (by simp))) ?_
      simp -dsimp [renL, ren, renOb, rb]
      refine WFun_of w71 rfl rfl k71 ?_
      simp -dsimp [w71]
      refine doesQ_go (popD (l := L) (a := n) (by omega)) rfl ?_
      simp -dsimp [call_by c]
      refine aMust_x (by decide) ?_
      simp -dsimp []
      refine pile_pan (i := H.length) (inV.gd _) fun x J => ?_
      rw [set_last]
      exact hq x J
def rollF (l : List Int) : Rs := if l = [] then .thr (-4) else
  if 0 ≤ l.getLastD 0 ∧ l.getLastD 0 < (l.dropLast.length : Int) then .ok (l.dropLast.take (l.dropLast.length - 1 - (l.getLastD 0).toNat) ++ l.dropLast.drop (l.dropLast.length - 1 - (l.getLastD 0).toNat + 1) ++ (l.dropLast.drop (l.dropLast.length - 1 - (l.getLastD 0).toNat)).take 1) else .thr (-4)
theorem rollS_no {l : List Int} {n : Int} (hl : l.length ≤ 100000) (h8 : i64 n) (hn : ¬ (0 ≤ n ∧ n < (l.length : Int))) : Comes p 77 [inV l, .int .i64 n] (.tuple [inV [], .int .i64 (-4)]) := by
  have c := at_s (l := l) (n := n) hl h8
  rw [if_neg hn] at c
  refine Comes_of w77 rfl rfl k77 ?_ ?_ ?_ ?_
  · simp
  · simp
  · simp
  · simp -dsimp [w77, call_by c, wFix_by, isInl]
    rfl
theorem rollS_ok {l : List Int} {n : Nat} (hl : l.length ≤ 100000) (hn : n < l.length) : Comes p 77 [inV l, .int .i64 n] (.tuple [inV (l.take (l.length - 1 - n) ++ l.drop (l.length - 1 - n + 1) ++ (l.drop (l.length - 1 - n)).take 1), .int .i64 0]) := by
  have c := at_s (l := l) (n := n) hl ⟨by omega, by omega⟩
  rw [if_pos ⟨by omega, by omega⟩] at c
  have e1 : (l.length : Int) - 1 - n = ((l.length - 1 - n : Nat) : Int) := by omega
  rw [e1] at c
  have hg : l.length - 1 - n < l.length := by omega
  generalize l.length - 1 - n = m at *
  have w1 : IntKind.i64.wrap ((m : Int) + 1) = ((m + 1 : Nat) : Int) := by rw [Fz.w64 (by omega) (by omega)]; omega
  have cc := concat_int (ls := [l.take m, l.drop (m + 1), (l.drop m).take 1]) (by simp [totA]; omega) (by simp)
  have hcat : catA [l.take m, l.drop (m + 1), (l.drop m).take 1] = l.take m ++ l.drop (m + 1) ++ (l.drop m).take 1 := by simp [catA]
  rw [hcat] at cc
  refine Comes_of w77 rfl rfl k77 ?_ ?_ ?_ ?_
  · simp
  · simp
  · simp
  · simp -dsimp [w77, call_by c, w1, fillV, splice, chunk, wOpt, chunks]
    refine ⟨by omega, by omega, by omega, by omega, by omega, ?_⟩
    have e : ([V.list [V.list (List.take m (List.map (V.int IntKind.i64) l)) false, V.list (List.take (l.length - (m + 1)) (List.drop (m + 1) (List.map (V.int IntKind.i64) l))) false, V.list (List.take 1 (List.drop m (List.map (V.int IntKind.i64) l))) false] true]).map nrm = [.list [inV (l.take m), inV (l.drop (m + 1)), inV ((l.drop m).take 1)] false] := by
      have t : List.take (l.length - (m + 1)) (List.drop (m + 1) (List.map (V.int IntKind.i64) l)) = (l.drop (m + 1)).map (V.int .i64) := by
        rw [List.take_of_length_le (by simp), List.map_drop]
      rw [t]
      simp [inV, nrm, nrmL_eq, ← List.map_take, ← List.map_drop]
    refine Eq.mpr (call_nrm (p := p) (f := 169) rfl (by rw [show (l.length - (m + 1)) = (l.length - (m + 1)) from rfl]; simp [← List.map_take, ← List.map_drop]) e (show Comes p 169 [.list [inV (l.take m), inV (l.drop (m + 1)), inV ((l.drop m).take 1)] false] (inV (l.take m ++ l.drop (m + 1) ++ (l.drop m).take 1)) from cc)) ?_
    simp -dsimp [wFix_by, isInl]
theorem roll_W {op : Int} (hp : ∀ d dep, AluPreG op d dep [] (.fn (.func 76) [] [])) : AluS op (.all rollF) := by
  refine aluS_all hp fun l hl h8 => ?_
  unfold rollF
  by_cases h : l = []
  · rw [if_pos h]
    subst h
    intro H v hc
    have hc : v = .fn (.func 76) [] [] := hc
    subst hc
    refine ⟨_, _, rfl, by decide, fun Q hq => ?_⟩
    have rb : ∀ g b, ren g (inV b) = inV b := fun g b => ground_ren g _ (inV.gd b)
    refine WCall_inl (by kernel_rfl) (reachQ (l := [inV []]) get_last (groundL_refs _ (by simp))) ?_
    simp -dsimp [renL, ren, renOb, rb]
    refine WFun_of w76 rfl rfl k76 ?_
    simp -dsimp [w76]
    refine pop_0 rfl ?_
    simp -dsimp []
    refine pile_pan (i := H.length) (inV.gd _) fun x J => ?_
    rw [set_last]
    exact hq x J
  · rw [if_neg h]
    obtain ⟨L, n, rfl⟩ := last_snoc h
    have e1 : (L ++ [n]).getLastD 0 = n := by simp
    have e2 : (L ++ [n]).dropLast = L := by simp
    have hn : i64 n := h8 n (by simp)
    have hL : L.length ≤ 1000 := by simp at hl; omega
    rw [e1, e2]
    have rb : ∀ g b, ren g (inV b) = inV b := fun g b => ground_ren g _ (inV.gd b)
    by_cases hk : 0 ≤ n ∧ n < (L.length : Int)
    · rw [if_pos hk]
      obtain ⟨m, rfl⟩ : ∃ m : Nat, n = m := ⟨n.toNat, by omega⟩
      have c := rollS_ok (l := L) (n := m) (by omega) (by omega)
      have e3 : ((m : Int)).toNat = m := by omega
      rw [e3]
      generalize L.take (L.length - 1 - m) ++ L.drop (L.length - 1 - m + 1) ++ (L.drop (L.length - 1 - m)).take 1 = R at *
      intro H v hc
      have hc : v = .fn (.func 76) [] [] := hc
      subst hc
      refine ⟨_, _, rfl, by decide, fun Q hq => ?_⟩
      refine WCall_inl (by kernel_rfl) (reachQ (l := [inV (L ++ [(m : Int)])]) get_last (groundL_refs _ (by simp))) ?_
      simp -dsimp [renL, ren, renOb, rb]
      refine WFun_of w76 rfl rfl k76 ?_
      simp -dsimp [w76]
      refine doesQ_go (popD (l := L) (a := (m : Int)) (by omega)) rfl ?_
      simp -dsimp [call_by c]
      refine aMust_0 ?_
      simp -dsimp []
      have rR : ∀ g, ren g (inV R) = inV R := fun g => ground_ren g _ (inV.gd R)
      have qR : refs (inV R) = [] := ground_refs _ (inV.gd R)
      have := hq (inV R) [] (.inl ⟨false, rfl⟩)
      unfold backH
      rw [if_neg (by simp [crV, refs, refsOb, refsL, qR])]
      simpa [renR, ren, renL, renOb, setAll, rR, set_last] using this
    · rw [if_neg hk]
      have c := rollS_no (l := L) (n := n) (by omega) hn hk
      intro H v hc
      have hc : v = .fn (.func 76) [] [] := hc
      subst hc
      refine ⟨_, _, rfl, by decide, fun Q hq => ?_⟩
      refine WCall_inl (by kernel_rfl) (reachQ (l := [inV (L ++ [n])]) get_last (groundL_refs _ (by simp))) ?_
      simp -dsimp [renL, ren, renOb, rb]
      refine WFun_of w76 rfl rfl k76 ?_
      simp -dsimp [w76]
      refine doesQ_go (popD (l := L) (a := n) (by omega)) rfl ?_
      simp -dsimp [call_by c]
      refine aMust_x (by decide) ?_
      simp -dsimp []
      refine pile_pan (i := H.length) (inV.gd _) fun x J => ?_
      rw [set_last]
      exact hq x J
theorem depth_W {op : Int} (hp : ∀ d dep, AluPreG op d dep [] (.fn (.func 78) [] [])) : AluS op (.all fun l => .ok (l ++ [(l.length : Int)])) := by
  refine aluS_all hp fun l hl h8 => ?_
  intro H v hc
  have hc : v = .fn (.func 78) [] [] := hc
  subst hc
  have rb : ∀ g b, ren g (inV b) = inV b := fun g b => ground_ren g _ (inV.gd b)
  refine ⟨_, _, rfl, by decide, fun Q hq => ?_⟩
  refine WCall_inl (by kernel_rfl) (reachQ (l := [inV l]) get_last (groundL_refs _ (by simp))) ?_
  simp -dsimp [renL, ren, renOb, rb]
  refine WFun_of w78 rfl rfl k78 ?_
  simp -dsimp [w78, fillV, splice, chunk]
  refine push1_O (i := 0) (j := 1) (l := l) (x := (l.length : Int)) rfl rfl (by omega) fun v J pv => ?_
  simp -dsimp []
  have := pile_ret (H := H ++ [.live [inV l]]) (i := H.length) (x := (l.length : Int)) (by simpa using pv) (Q := Q) fun v J pv => by
    rw [set_last]
    exact hq v J (by simpa using pv)
  simpa using this
theorem const_W {op n : Int} {f : FuncId} (hf : f = 79 ∧ n = -1 ∨ f = 80 ∧ n = 0) (hp : ∀ d dep, AluPreG op d dep [] (.fn (.func f) [] [])) : AluS op (.fn 0 fun _ => .ok [n]) := by
  refine aluS_fn hp (fun l hl => absurd hl (by omega)) fun L a ha hL h8 => ?_
  have ha : a = [] := List.length_eq_zero_iff.1 ha
  subst ha
  rw [List.append_nil]
  have rb : ∀ g b, ren g (inV b) = inV b := fun g b => ground_ren g _ (inV.gd b)
  rcases hf with ⟨rfl, rfl⟩ | ⟨rfl, rfl⟩
  · intro H v hc
    have hc : v = .fn (.func 79) [] [] := hc
    subst hc
    refine ⟨_, _, rfl, by decide, fun Q hq => ?_⟩
    refine WCall_inl (by kernel_rfl) (reachQ (l := [inV L]) get_last (groundL_refs _ (by simp))) ?_
    simp -dsimp [renL, ren, renOb, rb]
    refine WFun_of w79 rfl rfl k79 ?_
    simp -dsimp [w79, fillV, splice, chunk]
    refine push1_O (i := 0) (j := 1) (l := L) (x := -1) rfl rfl (by omega) fun v J pv => ?_
    simp -dsimp []
    have := pile_ret (H := H ++ [.live [inV L]]) (i := H.length) (x := -1) (by simpa using pv) (Q := Q) fun v J pv => by
      rw [set_last]
      exact hq v J (by simpa using pv)
    simpa using this
  · intro H v hc
    have hc : v = .fn (.func 80) [] [] := hc
    subst hc
    refine ⟨_, _, rfl, by decide, fun Q hq => ?_⟩
    refine WCall_inl (by kernel_rfl) (reachQ (l := [inV L]) get_last (groundL_refs _ (by simp))) ?_
    simp -dsimp [renL, ren, renOb, rb]
    refine WFun_of w80 rfl rfl k80 ?_
    simp -dsimp [w80, fillV, splice, chunk]
    refine push1_O (i := 0) (j := 1) (l := L) (x := 0) rfl rfl (by omega) fun v J pv => ?_
    simp -dsimp []
    have := pile_ret (H := H ++ [.live [inV L]]) (i := H.length) (x := 0) (by simpa using pv) (Q := Q) fun v J pv => by
      rw [set_last]
      exact hq v J (by simpa using pv)
    simpa using this
end Fz.D
set_option maxRecDepth 100000
namespace Fz.D
open Go
def lenL : List UInt8 := [0, 1, 2, 2, 3, 3, 3, 3, 4, 4, 4, 4, 4, 4, 4, 4, 5, 5, 5, 5, 5, 5, 5, 5, 5, 5, 5, 5, 5, 5, 5, 5, 6, 6, 6, 6, 6, 6, 6, 6, 6, 6, 6, 6, 6, 6, 6, 6, 6, 6, 6, 6, 6, 6, 6, 6, 6, 6, 6, 6, 6, 6, 6, 6, 7, 7, 7, 7, 7, 7, 7, 7, 7, 7, 7, 7, 7, 7, 7, 7, 7, 7, 7, 7, 7, 7, 7, 7, 7, 7, 7, 7, 7, 7, 7, 7, 7, 7, 7, 7, 7, 7, 7, 7, 7, 7, 7, 7, 7, 7, 7, 7, 7, 7, 7, 7, 7, 7, 7, 7, 7, 7, 7, 7, 7, 7, 7, 7, 8, 8, 8, 8, 8, 8, 8, 8, 8, 8, 8, 8, 8, 8, 8, 8, 8, 8, 8, 8, 8, 8, 8, 8, 8, 8, 8, 8, 8, 8, 8, 8, 8, 8, 8, 8, 8, 8, 8, 8, 8, 8, 8, 8, 8, 8, 8, 8, 8, 8, 8, 8, 8, 8, 8, 8, 8, 8, 8, 8, 8, 8, 8, 8, 8, 8, 8, 8, 8, 8, 8, 8, 8, 8, 8, 8, 8, 8, 8, 8, 8, 8, 8, 8, 8, 8, 8, 8, 8, 8, 8, 8, 8, 8, 8, 8, 8, 8, 8, 8, 8, 8, 8, 8, 8, 8, 8, 8, 8, 8, 8, 8, 8, 8, 8, 8, 8, 8, 8, 8, 8, 8, 8, 8, 8, 8, 8, 8]
def lg (m : Nat) : Nat := (lenL[m]?.getD default).toNat
theorem lg_all : ∀ m : Nat, m < 256 → 1 ≤ m → 1 ≤ lg m ∧ lg m ≤ 8 ∧ 2 ^ (lg m - 1) ≤ m ∧ m < 2 ^ lg m := by decide +kernel
theorem fd8 (y : Int) : y.fdiv (2 ^ min 8 IntKind.u64.bits) = y / 256 := by rw [show (2 : Int) ^ min 8 IntKind.u64.bits = 256 from by decide, Int.fdiv_eq_ediv_of_nonneg _ (by decide)]
theorem fd16 (y : Int) : y.fdiv (2 ^ min 16 IntKind.u64.bits) = y / 65536 := by rw [show (2 : Int) ^ min 16 IntKind.u64.bits = 65536 from by decide, Int.fdiv_eq_ediv_of_nonneg _ (by decide)]
theorem fd32 (y : Int) : y.fdiv (2 ^ min 32 IntKind.u64.bits) = y / 4294967296 := by rw [show (2 : Int) ^ min 32 IntKind.u64.bits = 4294967296 from by decide, Int.fdiv_eq_ediv_of_nonneg _ (by decide)]
theorem lg_pow {X m s : Nat} (hm : m = X / 2 ^ s) (h1 : 1 ≤ m) (h2 : m < 256) (hs : s ≤ 56) : 1 ≤ s + lg m ∧ s + lg m ≤ 64 ∧ (2 : Int) ^ (s + lg m - 1) ≤ (X : Int) ∧ (X : Int) < 2 ^ (s + lg m) := by
  obtain ⟨g1, g2, g3, g4⟩ := lg_all m h2 h1
  have p : 0 < 2 ^ s := Nat.two_pow_pos s
  have d1 : m * 2 ^ s ≤ X := by rw [hm]; exact Nat.div_mul_le_self X (2 ^ s)
  have d2 : X < (m + 1) * 2 ^ s := by
    rw [hm, Nat.add_mul, Nat.one_mul]
    have q1 := Nat.div_add_mod X (2 ^ s)
    have q2 := Nat.mod_lt X p
    rw [Nat.mul_comm] at q1
    omega
  refine ⟨by omega, by omega, ?_, ?_⟩
  · have : 2 ^ (s + lg m - 1) ≤ X := by
      rw [show s + lg m - 1 = (lg m - 1) + s from by omega, Nat.pow_add]
      exact Nat.le_trans (Nat.mul_le_mul_right _ g3) d1
    exact_mod_cast this
  · have : X < 2 ^ (s + lg m) := by
      rw [Nat.add_comm, Nat.pow_add]
      exact Nat.lt_of_lt_of_le d2 (Nat.mul_le_mul_right _ g4)
    exact_mod_cast this
theorem len64_s (x : Int) (h1 : 1 ≤ x) (h2 : x < 18446744073709551616) : ∃ n : Nat, Comes p 372 [.int .u64 x] (.int .i64 n) ∧ 1 ≤ n ∧ n ≤ 64 ∧ (2 : Int) ^ (n - 1) ≤ x ∧ x < 2 ^ n := by
  obtain ⟨X, rfl⟩ : ∃ X : Nat, x = X := ⟨x.toNat, by omega⟩
  by_cases c1 : (4294967296 : Int) ≤ (X : Int)
  · skip
    by_cases c2 : (65536 : Int) ≤ ((X : Int) / 4294967296)
    · skip
      by_cases c3 : (256 : Int) ≤ (((X : Int) / 4294967296) / 65536)
      · skip
        obtain ⟨m, hm⟩ : ∃ m : Nat, m = X / 2 ^ 56 := ⟨_, rfl⟩
        have hm' : m = X / 72057594037927936 := by rw [hm]
        have em : ((((X : Int) / 4294967296) / 65536) / 256) = (m : Int) := by omega
        have g := lg_pow hm (by omega) (by omega) (by omega)
        have w8 : IntKind.u8.wrap (m : Int) = m := by rw [IntKind.wrap_u8]; omega
        have gl := (lg_all m (by omega) (by omega)).2.1
        refine ⟨56 + lg m, ?_, g⟩
        refine Comes_of w372 rfl rfl k372 ?_ ?_ ?_ ?_
        · simp
        · simp
        · simp
        · have m8 : (m : Int) < 256 := by omega
          have e3 : ((m : Int)).toNat = m := by omega
          have k1 : IntKind.i64.wrap ((lg m : Nat) : Int) = (lg m : Nat) := Fz.w64 (by omega) (by omega)
          have k2 : IntKind.i64.wrap (56 + ((lg m : Nat) : Int)) = 56 + ((lg m : Nat) : Int) := Fz.w64 (by omega) (by omega)
          have n1 : ¬ (256 : Int) ≤ m := by omega
          have n2 : ¬ (65536 : Int) ≤ m := by omega
          have n3 : ¬ (4294967296 : Int) ≤ m := by omega
          have k3 : IntKind.i64.wrap 32 = 32 := Fz.w64 (by omega) (by omega)
          have k4 : IntKind.i64.wrap 16 = 16 := Fz.w64 (by omega) (by omega)
          have k5 : IntKind.i64.wrap 8 = 8 := Fz.w64 (by omega) (by omega)
          have k6 : IntKind.i64.wrap 48 = 48 := Fz.w64 (by omega) (by omega)
          have k7 : IntKind.i64.wrap 40 = 40 := Fz.w64 (by omega) (by omega)
          have k8 : IntKind.i64.wrap 24 = 24 := Fz.w64 (by omega) (by omega)
          have k9 : IntKind.i64.wrap 56 = 56 := Fz.w64 (by omega) (by omega)
          simp -dsimp [w372, fd8, fd16, fd32, c1, c2, c3, em, w8, m8, e3, k3, k4, k5, k6, k7, k8, k9, n1, n2, n3]
          refine ⟨by omega, ?_⟩
          show wFix p 372 _ (CR.ret (V.int .i64 (IntKind.i64.wrap (56 + IntKind.i64.wrap ((lg m : Nat) : Int))))) []
          rw [k1, k2]
          simp -dsimp [wFix_by, isInl]
      · skip
        obtain ⟨m, hm⟩ : ∃ m : Nat, m = X / 2 ^ 48 := ⟨_, rfl⟩
        have hm' : m = X / 281474976710656 := by rw [hm]
        have em : (((X : Int) / 4294967296) / 65536) = (m : Int) := by omega
        have g := lg_pow hm (by omega) (by omega) (by omega)
        have w8 : IntKind.u8.wrap (m : Int) = m := by rw [IntKind.wrap_u8]; omega
        have gl := (lg_all m (by omega) (by omega)).2.1
        refine ⟨48 + lg m, ?_, g⟩
        refine Comes_of w372 rfl rfl k372 ?_ ?_ ?_ ?_
        · simp
        · simp
        · simp
        · have m8 : (m : Int) < 256 := by omega
          have e3 : ((m : Int)).toNat = m := by omega
          have k1 : IntKind.i64.wrap ((lg m : Nat) : Int) = (lg m : Nat) := Fz.w64 (by omega) (by omega)
          have k2 : IntKind.i64.wrap (48 + ((lg m : Nat) : Int)) = 48 + ((lg m : Nat) : Int) := Fz.w64 (by omega) (by omega)
          have n1 : ¬ (256 : Int) ≤ m := by omega
          have n2 : ¬ (65536 : Int) ≤ m := by omega
          have n3 : ¬ (4294967296 : Int) ≤ m := by omega
          have k3 : IntKind.i64.wrap 32 = 32 := Fz.w64 (by omega) (by omega)
          have k4 : IntKind.i64.wrap 16 = 16 := Fz.w64 (by omega) (by omega)
          have k5 : IntKind.i64.wrap 8 = 8 := Fz.w64 (by omega) (by omega)
          have k6 : IntKind.i64.wrap 48 = 48 := Fz.w64 (by omega) (by omega)
          have k7 : IntKind.i64.wrap 40 = 40 := Fz.w64 (by omega) (by omega)
          have k8 : IntKind.i64.wrap 24 = 24 := Fz.w64 (by omega) (by omega)
          have k9 : IntKind.i64.wrap 56 = 56 := Fz.w64 (by omega) (by omega)
          simp -dsimp [w372, fd8, fd16, fd32, c1, c2, c3, em, w8, m8, e3, k3, k4, k5, k6, k7, k8, k9, n1, n2, n3]
          refine ⟨by omega, ?_⟩
          show wFix p 372 _ (CR.ret (V.int .i64 (IntKind.i64.wrap (48 + IntKind.i64.wrap ((lg m : Nat) : Int))))) []
          rw [k1, k2]
          simp -dsimp [wFix_by, isInl]
    · skip
      by_cases c3 : (256 : Int) ≤ ((X : Int) / 4294967296)
      · skip
        obtain ⟨m, hm⟩ : ∃ m : Nat, m = X / 2 ^ 40 := ⟨_, rfl⟩
        have hm' : m = X / 1099511627776 := by rw [hm]
        have em : (((X : Int) / 4294967296) / 256) = (m : Int) := by omega
        have g := lg_pow hm (by omega) (by omega) (by omega)
        have w8 : IntKind.u8.wrap (m : Int) = m := by rw [IntKind.wrap_u8]; omega
        have gl := (lg_all m (by omega) (by omega)).2.1
        refine ⟨40 + lg m, ?_, g⟩
        refine Comes_of w372 rfl rfl k372 ?_ ?_ ?_ ?_
        · simp
        · simp
        · simp
        · have m8 : (m : Int) < 256 := by omega
          have e3 : ((m : Int)).toNat = m := by omega
          have k1 : IntKind.i64.wrap ((lg m : Nat) : Int) = (lg m : Nat) := Fz.w64 (by omega) (by omega)
          have k2 : IntKind.i64.wrap (40 + ((lg m : Nat) : Int)) = 40 + ((lg m : Nat) : Int) := Fz.w64 (by omega) (by omega)
          have n1 : ¬ (256 : Int) ≤ m := by omega
          have n2 : ¬ (65536 : Int) ≤ m := by omega
          have n3 : ¬ (4294967296 : Int) ≤ m := by omega
          have k3 : IntKind.i64.wrap 32 = 32 := Fz.w64 (by omega) (by omega)
          have k4 : IntKind.i64.wrap 16 = 16 := Fz.w64 (by omega) (by omega)
          have k5 : IntKind.i64.wrap 8 = 8 := Fz.w64 (by omega) (by omega)
          have k6 : IntKind.i64.wrap 48 = 48 := Fz.w64 (by omega) (by omega)
          have k7 : IntKind.i64.wrap 40 = 40 := Fz.w64 (by omega) (by omega)
          have k8 : IntKind.i64.wrap 24 = 24 := Fz.w64 (by omega) (by omega)
          have k9 : IntKind.i64.wrap 56 = 56 := Fz.w64 (by omega) (by omega)
          simp -dsimp [w372, fd8, fd16, fd32, c1, c2, c3, em, w8, m8, e3, k3, k4, k5, k6, k7, k8, k9, n1, n2, n3]
          refine ⟨by omega, ?_⟩
          show wFix p 372 _ (CR.ret (V.int .i64 (IntKind.i64.wrap (40 + IntKind.i64.wrap ((lg m : Nat) : Int))))) []
          rw [k1, k2]
          simp -dsimp [wFix_by, isInl]
      · skip
        obtain ⟨m, hm⟩ : ∃ m : Nat, m = X / 2 ^ 32 := ⟨_, rfl⟩
        have hm' : m = X / 4294967296 := by rw [hm]
        have em : ((X : Int) / 4294967296) = (m : Int) := by omega
        have g := lg_pow hm (by omega) (by omega) (by omega)
        have w8 : IntKind.u8.wrap (m : Int) = m := by rw [IntKind.wrap_u8]; omega
        have gl := (lg_all m (by omega) (by omega)).2.1
        refine ⟨32 + lg m, ?_, g⟩
        refine Comes_of w372 rfl rfl k372 ?_ ?_ ?_ ?_
        · simp
        · simp
        · simp
        · have m8 : (m : Int) < 256 := by omega
          have e3 : ((m : Int)).toNat = m := by omega
          have k1 : IntKind.i64.wrap ((lg m : Nat) : Int) = (lg m : Nat) := Fz.w64 (by omega) (by omega)
          have k2 : IntKind.i64.wrap (32 + ((lg m : Nat) : Int)) = 32 + ((lg m : Nat) : Int) := Fz.w64 (by omega) (by omega)
          have n1 : ¬ (256 : Int) ≤ m := by omega
          have n2 : ¬ (65536 : Int) ≤ m := by omega
          have n3 : ¬ (4294967296 : Int) ≤ m := by omega
          have k3 : IntKind.i64.wrap 32 = 32 := Fz.w64 (by omega) (by omega)
          have k4 : IntKind.i64.wrap 16 = 16 := Fz.w64 (by omega) (by omega)
          have k5 : IntKind.i64.wrap 8 = 8 := Fz.w64 (by omega) (by omega)
          have k6 : IntKind.i64.wrap 48 = 48 := Fz.w64 (by omega) (by omega)
          have k7 : IntKind.i64.wrap 40 = 40 := Fz.w64 (by omega) (by omega)
          have k8 : IntKind.i64.wrap 24 = 24 := Fz.w64 (by omega) (by omega)
          have k9 : IntKind.i64.wrap 56 = 56 := Fz.w64 (by omega) (by omega)
          simp -dsimp [w372, fd8, fd16, fd32, c1, c2, c3, em, w8, m8, e3, k3, k4, k5, k6, k7, k8, k9, n1, n2, n3]
          refine ⟨by omega, ?_⟩
          show wFix p 372 _ (CR.ret (V.int .i64 (IntKind.i64.wrap (32 + IntKind.i64.wrap ((lg m : Nat) : Int))))) []
          rw [k1, k2]
          simp -dsimp [wFix_by, isInl]
  · skip
    by_cases c2 : (65536 : Int) ≤ (X : Int)
    · skip
      by_cases c3 : (256 : Int) ≤ ((X : Int) / 65536)
      · skip
        obtain ⟨m, hm⟩ : ∃ m : Nat, m = X / 2 ^ 24 := ⟨_, rfl⟩
        have hm' : m = X / 16777216 := by rw [hm]
        have em : (((X : Int) / 65536) / 256) = (m : Int) := by omega
        have g := lg_pow hm (by omega) (by omega) (by omega)
        have w8 : IntKind.u8.wrap (m : Int) = m := by rw [IntKind.wrap_u8]; omega
        have gl := (lg_all m (by omega) (by omega)).2.1
        refine ⟨24 + lg m, ?_, g⟩
        refine Comes_of w372 rfl rfl k372 ?_ ?_ ?_ ?_
        · simp
        · simp
        · simp
        · have m8 : (m : Int) < 256 := by omega
          have e3 : ((m : Int)).toNat = m := by omega
          have k1 : IntKind.i64.wrap ((lg m : Nat) : Int) = (lg m : Nat) := Fz.w64 (by omega) (by omega)
          have k2 : IntKind.i64.wrap (24 + ((lg m : Nat) : Int)) = 24 + ((lg m : Nat) : Int) := Fz.w64 (by omega) (by omega)
          have n1 : ¬ (256 : Int) ≤ m := by omega
          have n2 : ¬ (65536 : Int) ≤ m := by omega
          have n3 : ¬ (4294967296 : Int) ≤ m := by omega
          have k3 : IntKind.i64.wrap 32 = 32 := Fz.w64 (by omega) (by omega)
          have k4 : IntKind.i64.wrap 16 = 16 := Fz.w64 (by omega) (by omega)
          have k5 : IntKind.i64.wrap 8 = 8 := Fz.w64 (by omega) (by omega)
          have k6 : IntKind.i64.wrap 48 = 48 := Fz.w64 (by omega) (by omega)
          have k7 : IntKind.i64.wrap 40 = 40 := Fz.w64 (by omega) (by omega)
          have k8 : IntKind.i64.wrap 24 = 24 := Fz.w64 (by omega) (by omega)
          have k9 : IntKind.i64.wrap 56 = 56 := Fz.w64 (by omega) (by omega)
          simp -dsimp [w372, fd8, fd16, fd32, c1, c2, c3, em, w8, m8, e3, k3, k4, k5, k6, k7, k8, k9, n1, n2, n3]
          refine ⟨by omega, ?_⟩
          show wFix p 372 _ (CR.ret (V.int .i64 (IntKind.i64.wrap (24 + IntKind.i64.wrap ((lg m : Nat) : Int))))) []
          rw [k1, k2]
          simp -dsimp [wFix_by, isInl]
      · skip
        obtain ⟨m, hm⟩ : ∃ m : Nat, m = X / 2 ^ 16 := ⟨_, rfl⟩
        have hm' : m = X / 65536 := by rw [hm]
        have em : ((X : Int) / 65536) = (m : Int) := by omega
        have g := lg_pow hm (by omega) (by omega) (by omega)
        have w8 : IntKind.u8.wrap (m : Int) = m := by rw [IntKind.wrap_u8]; omega
        have gl := (lg_all m (by omega) (by omega)).2.1
        refine ⟨16 + lg m, ?_, g⟩
        refine Comes_of w372 rfl rfl k372 ?_ ?_ ?_ ?_
        · simp
        · simp
        · simp
        · have m8 : (m : Int) < 256 := by omega
          have e3 : ((m : Int)).toNat = m := by omega
          have k1 : IntKind.i64.wrap ((lg m : Nat) : Int) = (lg m : Nat) := Fz.w64 (by omega) (by omega)
          have k2 : IntKind.i64.wrap (16 + ((lg m : Nat) : Int)) = 16 + ((lg m : Nat) : Int) := Fz.w64 (by omega) (by omega)
          have n1 : ¬ (256 : Int) ≤ m := by omega
          have n2 : ¬ (65536 : Int) ≤ m := by omega
          have n3 : ¬ (4294967296 : Int) ≤ m := by omega
          have k3 : IntKind.i64.wrap 32 = 32 := Fz.w64 (by omega) (by omega)
          have k4 : IntKind.i64.wrap 16 = 16 := Fz.w64 (by omega) (by omega)
          have k5 : IntKind.i64.wrap 8 = 8 := Fz.w64 (by omega) (by omega)
          have k6 : IntKind.i64.wrap 48 = 48 := Fz.w64 (by omega) (by omega)
          have k7 : IntKind.i64.wrap 40 = 40 := Fz.w64 (by omega) (by omega)
          have k8 : IntKind.i64.wrap 24 = 24 := Fz.w64 (by omega) (by omega)
          have k9 : IntKind.i64.wrap 56 = 56 := Fz.w64 (by omega) (by omega)
          simp -dsimp [w372, fd8, fd16, fd32, c1, c2, c3, em, w8, m8, e3, k3, k4, k5, k6, k7, k8, k9, n1, n2, n3]
          refine ⟨by omega, ?_⟩
          show wFix p 372 _ (CR.ret (V.int .i64 (IntKind.i64.wrap (16 + IntKind.i64.wrap ((lg m : Nat) : Int))))) []
          rw [k1, k2]
          simp -dsimp [wFix_by, isInl]
    · skip
      by_cases c3 : (256 : Int) ≤ (X : Int)
      · skip
        obtain ⟨m, hm⟩ : ∃ m : Nat, m = X / 2 ^ 8 := ⟨_, rfl⟩
        have hm' : m = X / 256 := by rw [hm]
        have em : ((X : Int) / 256) = (m : Int) := by omega
        have g := lg_pow hm (by omega) (by omega) (by omega)
        have w8 : IntKind.u8.wrap (m : Int) = m := by rw [IntKind.wrap_u8]; omega
        have gl := (lg_all m (by omega) (by omega)).2.1
        refine ⟨8 + lg m, ?_, g⟩
        refine Comes_of w372 rfl rfl k372 ?_ ?_ ?_ ?_
        · simp
        · simp
        · simp
        · have m8 : (m : Int) < 256 := by omega
          have e3 : ((m : Int)).toNat = m := by omega
          have k1 : IntKind.i64.wrap ((lg m : Nat) : Int) = (lg m : Nat) := Fz.w64 (by omega) (by omega)
          have k2 : IntKind.i64.wrap (8 + ((lg m : Nat) : Int)) = 8 + ((lg m : Nat) : Int) := Fz.w64 (by omega) (by omega)
          have n1 : ¬ (256 : Int) ≤ m := by omega
          have n2 : ¬ (65536 : Int) ≤ m := by omega
          have n3 : ¬ (4294967296 : Int) ≤ m := by omega
          have k3 : IntKind.i64.wrap 32 = 32 := Fz.w64 (by omega) (by omega)
          have k4 : IntKind.i64.wrap 16 = 16 := Fz.w64 (by omega) (by omega)
          have k5 : IntKind.i64.wrap 8 = 8 := Fz.w64 (by omega) (by omega)
          have k6 : IntKind.i64.wrap 48 = 48 := Fz.w64 (by omega) (by omega)
          have k7 : IntKind.i64.wrap 40 = 40 := Fz.w64 (by omega) (by omega)
          have k8 : IntKind.i64.wrap 24 = 24 := Fz.w64 (by omega) (by omega)
          have k9 : IntKind.i64.wrap 56 = 56 := Fz.w64 (by omega) (by omega)
          simp -dsimp [w372, fd8, fd16, fd32, c1, c2, c3, em, w8, m8, e3, k3, k4, k5, k6, k7, k8, k9, n1, n2, n3]
          refine ⟨by omega, ?_⟩
          show wFix p 372 _ (CR.ret (V.int .i64 (IntKind.i64.wrap (8 + IntKind.i64.wrap ((lg m : Nat) : Int))))) []
          rw [k1, k2]
          simp -dsimp [wFix_by, isInl]
      · skip
        obtain ⟨m, hm⟩ : ∃ m : Nat, m = X / 2 ^ 0 := ⟨_, rfl⟩
        have hm' : m = X / 1 := by rw [hm]
        have em : (X : Int) = (m : Int) := by omega
        have g := lg_pow hm (by omega) (by omega) (by omega)
        have w8 : IntKind.u8.wrap (m : Int) = m := by rw [IntKind.wrap_u8]; omega
        have gl := (lg_all m (by omega) (by omega)).2.1
        refine ⟨0 + lg m, ?_, g⟩
        refine Comes_of w372 rfl rfl k372 ?_ ?_ ?_ ?_
        · simp
        · simp
        · simp
        · have m8 : (m : Int) < 256 := by omega
          have e3 : ((m : Int)).toNat = m := by omega
          have k1 : IntKind.i64.wrap ((lg m : Nat) : Int) = (lg m : Nat) := Fz.w64 (by omega) (by omega)
          have k2 : IntKind.i64.wrap (0 + ((lg m : Nat) : Int)) = 0 + ((lg m : Nat) : Int) := Fz.w64 (by omega) (by omega)
          have n1 : ¬ (256 : Int) ≤ m := by omega
          have n2 : ¬ (65536 : Int) ≤ m := by omega
          have n3 : ¬ (4294967296 : Int) ≤ m := by omega
          have k3 : IntKind.i64.wrap 32 = 32 := Fz.w64 (by omega) (by omega)
          have k4 : IntKind.i64.wrap 16 = 16 := Fz.w64 (by omega) (by omega)
          have k5 : IntKind.i64.wrap 8 = 8 := Fz.w64 (by omega) (by omega)
          have k6 : IntKind.i64.wrap 48 = 48 := Fz.w64 (by omega) (by omega)
          have k7 : IntKind.i64.wrap 40 = 40 := Fz.w64 (by omega) (by omega)
          have k8 : IntKind.i64.wrap 24 = 24 := Fz.w64 (by omega) (by omega)
          have k9 : IntKind.i64.wrap 56 = 56 := Fz.w64 (by omega) (by omega)
          simp -dsimp [w372, fd8, fd16, fd32, c1, c2, c3, em, w8, m8, e3, k3, k4, k5, k6, k7, k8, k9, n1, n2, n3]
          refine ⟨by omega, ?_⟩
          show wFix p 372 _ (CR.ret (V.int .i64 (IntKind.i64.wrap (IntKind.i64.wrap ((lg m : Nat) : Int))))) []
          rw [k1, k1]
          simp -dsimp [wFix_by, isInl]
end Fz.D
set_option maxRecDepth 100000
namespace Fz.D
open Go
theorem comes_W {f : FuncId} {args : List V} (ha : args.all gr = true) (hn : args.all nm = true) (hi : p.inlY f = false) {P : V → Prop} (h : WFun p f args [] fun r _ => ∃ v, r = .ret v ∧ gk depthF v = true ∧ gr (nrm v) = true ∧ P (nrm v)) : ∃ v, P v ∧ Comes p f args v := by
  obtain ⟨n, r, H, h1, v, rfl, h2, h3, h4⟩ := h
  exact ⟨nrm v, h4, ha, h3, by rw [hn, Bool.or_true], n, v, H, h1, .inr ⟨hi, v, H, gk_freeze h2 H, rfl⟩⟩
theorem lz_s (x : Int) (h1 : 1 ≤ x) (h2 : x < 18446744073709551616) : ∃ n : Nat, Comes p 355 [.int .u64 x] (.int .i64 n) ∧ n ≤ 63 ∧ 9223372036854775808 ≤ x * 2 ^ n ∧ x * 2 ^ n < 18446744073709551616 := by
  obtain ⟨m, c, m1, m2, m3, m4⟩ := len64_s x h1 h2
  refine ⟨64 - m, ?_, by omega, ?_, ?_⟩
  · have k1 : IntKind.i64.wrap (64 - (m : Int)) = ((64 - m : Nat) : Int) := by rw [Fz.w64 (by omega) (by omega)]; omega
    refine Comes_of w355 rfl rfl k355 ?_ ?_ ?_ ?_
    · simp
    · simp
    · simp
    · simp -dsimp [w355, wFix_by, isInl, call_by c, k1]
  · have e : (2 : Int) ^ (m - 1) * 2 ^ (64 - m) = 9223372036854775808 := by
      rw [← Int.pow_add, show m - 1 + (64 - m) = 63 from by omega]; decide
    have := Int.mul_le_mul_of_nonneg_right m3 (show (0 : Int) ≤ 2 ^ (64 - m) from Int.le_of_lt (Int.pow_pos (by decide)))
    omega
  · have e : (2 : Int) ^ m * 2 ^ (64 - m) = 18446744073709551616 := by
      rw [← Int.pow_add, show m + (64 - m) = 64 from by omega]; decide
    have := Int.mul_lt_mul_of_pos_right m4 (show (0 : Int) < 2 ^ (64 - m) from Int.pow_pos (by decide))
    omega
theorem rem_lt (Z N : Int) (h1 : 1 ≤ N) (h2 : N < 4294967296) : 0 ≤ IntKind.u64.wrap (IntKind.u64.wrap Z - IntKind.u64.wrap (IntKind.u64.wrap ((IntKind.u64.wrap Z).tdiv N) * N)) ∧ IntKind.u64.wrap (IntKind.u64.wrap Z - IntKind.u64.wrap (IntKind.u64.wrap ((IntKind.u64.wrap Z).tdiv N) * N)) < 4294967296 := by
  have hU : 0 ≤ IntKind.u64.wrap Z ∧ IntKind.u64.wrap Z < 18446744073709551616 := by rw [IntKind.wrap_u64]; omega
  generalize IntKind.u64.wrap Z = U at *
  have e1 : U.tdiv N = U / N := by rw [Int.tdiv_eq_ediv_of_nonneg hU.1]
  have q0 : 0 ≤ U / N := Int.ediv_nonneg hU.1 (by omega)
  have q1 : U / N ≤ U := Int.ediv_le_self _ hU.1
  have q2 : N * (U / N) + U % N = U := Int.mul_ediv_add_emod U N
  have q3 : 0 ≤ U % N := Int.emod_nonneg _ (by omega)
  have q4 : U % N < N := Int.emod_lt_of_pos _ (by omega)
  rw [Int.mul_comm] at q2
  have w1 : IntKind.u64.wrap (U / N) = U / N := by rw [IntKind.wrap_u64]; exact Int.emod_eq_of_lt q0 (by omega)
  rw [e1, w1]
  have q5 : 0 ≤ U / N * N := Int.mul_nonneg q0 (by omega)
  have w2 : IntKind.u64.wrap (U / N * N) = U / N * N := by rw [IntKind.wrap_u64]; exact Int.emod_eq_of_lt q5 (by omega)
  rw [w2]
  have w3 : IntKind.u64.wrap (U - U / N * N) = U % N := by rw [IntKind.wrap_u64]; rw [Int.emod_eq_of_lt (by omega) (by omega)]; omega
  rw [w3]
  exact ⟨q3, by omega⟩
theorem tl {X : Int} (h : 0 ≤ X) : (4294967296 - X).toNat ≤ 4294967296 := by omega
theorem div64_s (hi lo y : Int) (h1 : 1 ≤ y) (h2 : y < 18446744073709551616) (h3 : hi < y) : ∃ v, (∃ q r, v = .tuple [.int .u64 q, .int .u64 r]) ∧ Comes p 312 [.int .u64 hi, .int .u64 lo, .int .u64 y] v := by
  refine comes_W (by simp) (by simp) rfl ?_
  refine WFun_of w312 rfl rfl k312 ?_
  have y0 : ¬ y = 0 := by omega
  have y1 : ¬ y ≤ hi := by omega
  by_cases hz : hi = 0
  · subst hz
    simp -dsimp [w312, y0, y1]
    show gk (11 + 1) _ = true
    simp
  · obtain ⟨n, c, n1, n2, n3⟩ := lz_s y h1 h2
    have wn : IntKind.u64.wrap (n : Int) = n := by rw [IntKind.wrap_u64]; omega
    have wm : IntKind.u64.wrap (64 - (n : Int)) = ((64 - n : Nat) : Int) := by rw [IntKind.wrap_u64]; omega
    obtain ⟨Y, hY⟩ : ∃ Y, Y = y * 2 ^ n := ⟨_, rfl⟩
    rw [← hY] at n2 n3
    have wy : IntKind.u64.wrap (y * 2 ^ min n IntKind.u64.bits) = Y := by
      rw [show min n IntKind.u64.bits = n from by show min n 64 = n; omega, ← hY, IntKind.wrap_u64]; omega
    obtain ⟨N1, hN⟩ : ∃ N1, Y / 4294967296 = N1 := ⟨_, rfl⟩
    have hN1 : 1 ≤ N1 ∧ N1 < 4294967296 := by omega
    have N0 : ¬ N1 = 0 := by omega
    have nn : (0 : Int) ≤ ((64 - n : Nat) : Int) := by omega
    simp -dsimp [w312, y0, y1, hz, call_by c, wn, wm, wy, fd32, hN, N0, nn]
    refine xL_by (by kernel_rfl) (fun k e H => ∃ q1 r1 a10 a11 a12 a13 a14 : Int, e 15 = .int .u64 q1 ∧ e 16 = .int .u64 r1 ∧ e 10 = .int .u64 a10 ∧ e 11 = .int .u64 a11 ∧ e 12 = .int .u64 a12 ∧ e 13 = .int .u64 a13 ∧ e 14 = .int .u64 a14 ∧ e 2 = .int .u64 Y ∧ e 8 = .int .u64 n ∧ e 9 = .int .u64 N1 ∧ H = [] ∧ (0 ≤ r1 ∧ r1 < 4294967296) ∧ (4294967296 - r1).toNat ≤ k) 4294967296 ?_ ?_
    · refine ⟨_, _, _, _, _, _, _, rfl, rfl, rfl, rfl, rfl, rfl, rfl, rfl, rfl, rfl, rfl, rem_lt _ _ hN1.1 hN1.2, tl (rem_lt _ _ hN1.1 hN1.2).1⟩
    · rintro k e H ⟨q1, r1, a10, a11, a12, a13, a14, g15, g16, g10, g11, g12, g13, g14, g2, g8, g9, rfl, hr, hk⟩
      have wr : IntKind.u64.wrap (r1 + N1) = r1 + N1 := by rw [IntKind.wrap_u64]; omega
      by_cases c1 : 4294967296 ≤ q1
      · by_cases c3 : 4294967296 ≤ r1 + N1
        · simp -dsimp [g15, g16, g10, g11, g12, g13, g14, g2, g8, g9, c1, wr, c3]
          refine ⟨N0, ?_⟩
          refine xL_by (by kernel_rfl) (fun k e H => ∃ q0 r1 b10 b14 b15 b17 : Int, e 18 = .int .u64 q0 ∧ e 16 = .int .u64 r1 ∧ e 10 = .int .u64 b10 ∧ e 14 = .int .u64 b14 ∧ e 15 = .int .u64 b15 ∧ e 17 = .int .u64 b17 ∧ e 2 = .int .u64 Y ∧ e 8 = .int .u64 n ∧ e 9 = .int .u64 N1 ∧ H = [] ∧ (0 ≤ r1 ∧ r1 < 4294967296) ∧ (4294967296 - r1).toNat ≤ k) 4294967296 ?_ ?_
          · refine ⟨_, _, a10, a14, IntKind.u64.wrap (q1 - 1), _, rfl, rfl, ?_, ?_, ?_, rfl, ?_, ?_, ?_, rfl, rem_lt _ _ hN1.1 hN1.2, tl (rem_lt _ _ hN1.1 hN1.2).1⟩
            · simp -dsimp [g15, g16, g10, g11, g12, g13, g14, g2, g8, g9]
            · simp -dsimp [g15, g16, g10, g11, g12, g13, g14, g2, g8, g9]
            · simp -dsimp [g15, g16, g10, g11, g12, g13, g14, g2, g8, g9]
            · simp -dsimp [g15, g16, g10, g11, g12, g13, g14, g2, g8, g9]
            · simp -dsimp [g15, g16, g10, g11, g12, g13, g14, g2, g8, g9]
            · simp -dsimp [g15, g16, g10, g11, g12, g13, g14, g2, g8, g9]
          · clear hr hk
            rintro k e H ⟨q0, r2, b10, b14, b15, b17, h18, h16, h10, h14, h15, h17, h2', h8, h9, rfl, hr2, hk2⟩
            have ws : IntKind.u64.wrap (r2 + N1) = r2 + N1 := by rw [IntKind.wrap_u64]; omega
            have nn2 : (0 : Int) ≤ (n : Int) := by omega
            by_cases d1 : 4294967296 ≤ q0
            · by_cases d3 : 4294967296 ≤ r2 + N1
              · simp -dsimp [h18, h16, h10, h14, h15, h17, h2', h8, h9, d1, ws, d3, nn2]
                show gk (11 + 1) _ = true
                simp
              · simp -dsimp [h18, h16, h10, h14, h15, h17, h2', h8, h9, d1, ws, d3]
                refine ⟨(4294967296 - (r2 + N1)).toNat, by omega, IntKind.u64.wrap (q0 - 1), r2 + N1, b10, b14, b15, b17, ?_⟩
                simp -dsimp [h18, h16, h10, h14, h15, h17, h2', h8, h9]
                omega
            · by_cases d2 : IntKind.u64.wrap (IntKind.u64.wrap (4294967296 * r2) + b14) < IntKind.u64.wrap (q0 * b10)
              · by_cases d3 : 4294967296 ≤ r2 + N1
                · simp -dsimp [h18, h16, h10, h14, h15, h17, h2', h8, h9, d1, d2, ws, d3, nn2]
                  show gk (11 + 1) _ = true
                  simp
                · simp -dsimp [h18, h16, h10, h14, h15, h17, h2', h8, h9, d1, d2, ws, d3]
                  refine ⟨(4294967296 - (r2 + N1)).toNat, by omega, IntKind.u64.wrap (q0 - 1), r2 + N1, b10, b14, b15, b17, ?_⟩
                  simp -dsimp [h18, h16, h10, h14, h15, h17, h2', h8, h9]
                  omega
              · simp -dsimp [h18, h16, h10, h14, h15, h17, h2', h8, h9, d1, d2, nn2]
                show gk (11 + 1) _ = true
                simp
        · simp -dsimp [g15, g16, g10, g11, g12, g13, g14, g2, g8, g9, c1, wr, c3]
          refine ⟨(4294967296 - (r1 + N1)).toNat, by omega, IntKind.u64.wrap (q1 - 1), r1 + N1, a10, a11, a12, a13, a14, ?_⟩
          simp -dsimp [g15, g16, g10, g11, g12, g13, g14, g2, g8, g9]
          omega
      · by_cases c2 : IntKind.u64.wrap (IntKind.u64.wrap (4294967296 * r1) + a13) < IntKind.u64.wrap (q1 * a10)
        · by_cases c3 : 4294967296 ≤ r1 + N1
          · simp -dsimp [g15, g16, g10, g11, g12, g13, g14, g2, g8, g9, c1, c2, wr, c3]
            refine ⟨N0, ?_⟩
            refine xL_by (by kernel_rfl) (fun k e H => ∃ q0 r1 b10 b14 b15 b17 : Int, e 18 = .int .u64 q0 ∧ e 16 = .int .u64 r1 ∧ e 10 = .int .u64 b10 ∧ e 14 = .int .u64 b14 ∧ e 15 = .int .u64 b15 ∧ e 17 = .int .u64 b17 ∧ e 2 = .int .u64 Y ∧ e 8 = .int .u64 n ∧ e 9 = .int .u64 N1 ∧ H = [] ∧ (0 ≤ r1 ∧ r1 < 4294967296) ∧ (4294967296 - r1).toNat ≤ k) 4294967296 ?_ ?_
            · refine ⟨_, _, a10, a14, IntKind.u64.wrap (q1 - 1), _, rfl, rfl, ?_, ?_, ?_, rfl, ?_, ?_, ?_, rfl, rem_lt _ _ hN1.1 hN1.2, tl (rem_lt _ _ hN1.1 hN1.2).1⟩
              · simp -dsimp [g15, g16, g10, g11, g12, g13, g14, g2, g8, g9]
              · simp -dsimp [g15, g16, g10, g11, g12, g13, g14, g2, g8, g9]
              · simp -dsimp [g15, g16, g10, g11, g12, g13, g14, g2, g8, g9]
              · simp -dsimp [g15, g16, g10, g11, g12, g13, g14, g2, g8, g9]
              · simp -dsimp [g15, g16, g10, g11, g12, g13, g14, g2, g8, g9]
              · simp -dsimp [g15, g16, g10, g11, g12, g13, g14, g2, g8, g9]
            · clear hr hk
              rintro k e H ⟨q0, r2, b10, b14, b15, b17, h18, h16, h10, h14, h15, h17, h2', h8, h9, rfl, hr2, hk2⟩
              have ws : IntKind.u64.wrap (r2 + N1) = r2 + N1 := by rw [IntKind.wrap_u64]; omega
              have nn2 : (0 : Int) ≤ (n : Int) := by omega
              by_cases d1 : 4294967296 ≤ q0
              · by_cases d3 : 4294967296 ≤ r2 + N1
                · simp -dsimp [h18, h16, h10, h14, h15, h17, h2', h8, h9, d1, ws, d3, nn2]
                  show gk (11 + 1) _ = true
                  simp
                · simp -dsimp [h18, h16, h10, h14, h15, h17, h2', h8, h9, d1, ws, d3]
                  refine ⟨(4294967296 - (r2 + N1)).toNat, by omega, IntKind.u64.wrap (q0 - 1), r2 + N1, b10, b14, b15, b17, ?_⟩
                  simp -dsimp [h18, h16, h10, h14, h15, h17, h2', h8, h9]
                  omega
              · by_cases d2 : IntKind.u64.wrap (IntKind.u64.wrap (4294967296 * r2) + b14) < IntKind.u64.wrap (q0 * b10)
                · by_cases d3 : 4294967296 ≤ r2 + N1
                  · simp -dsimp [h18, h16, h10, h14, h15, h17, h2', h8, h9, d1, d2, ws, d3, nn2]
                    show gk (11 + 1) _ = true
                    simp
                  · simp -dsimp [h18, h16, h10, h14, h15, h17, h2', h8, h9, d1, d2, ws, d3]
                    refine ⟨(4294967296 - (r2 + N1)).toNat, by omega, IntKind.u64.wrap (q0 - 1), r2 + N1, b10, b14, b15, b17, ?_⟩
                    simp -dsimp [h18, h16, h10, h14, h15, h17, h2', h8, h9]
                    omega
                · simp -dsimp [h18, h16, h10, h14, h15, h17, h2', h8, h9, d1, d2, nn2]
                  show gk (11 + 1) _ = true
                  simp
          · simp -dsimp [g15, g16, g10, g11, g12, g13, g14, g2, g8, g9, c1, c2, wr, c3]
            refine ⟨(4294967296 - (r1 + N1)).toNat, by omega, IntKind.u64.wrap (q1 - 1), r1 + N1, a10, a11, a12, a13, a14, ?_⟩
            simp -dsimp [g15, g16, g10, g11, g12, g13, g14, g2, g8, g9]
            omega
        · simp -dsimp [g15, g16, g10, g11, g12, g13, g14, g2, g8, g9, c1, c2]
          refine ⟨N0, ?_⟩
          refine xL_by (by kernel_rfl) (fun k e H => ∃ q0 r1 b10 b14 b15 b17 : Int, e 18 = .int .u64 q0 ∧ e 16 = .int .u64 r1 ∧ e 10 = .int .u64 b10 ∧ e 14 = .int .u64 b14 ∧ e 15 = .int .u64 b15 ∧ e 17 = .int .u64 b17 ∧ e 2 = .int .u64 Y ∧ e 8 = .int .u64 n ∧ e 9 = .int .u64 N1 ∧ H = [] ∧ (0 ≤ r1 ∧ r1 < 4294967296) ∧ (4294967296 - r1).toNat ≤ k) 4294967296 ?_ ?_
          · refine ⟨_, _, a10, a14, q1, _, rfl, rfl, ?_, ?_, ?_, rfl, ?_, ?_, ?_, rfl, rem_lt _ _ hN1.1 hN1.2, tl (rem_lt _ _ hN1.1 hN1.2).1⟩
            · simp -dsimp [g15, g16, g10, g11, g12, g13, g14, g2, g8, g9]
            · simp -dsimp [g15, g16, g10, g11, g12, g13, g14, g2, g8, g9]
            · simp -dsimp [g15, g16, g10, g11, g12, g13, g14, g2, g8, g9]
            · simp -dsimp [g15, g16, g10, g11, g12, g13, g14, g2, g8, g9]
            · simp -dsimp [g15, g16, g10, g11, g12, g13, g14, g2, g8, g9]
            · simp -dsimp [g15, g16, g10, g11, g12, g13, g14, g2, g8, g9]
          · clear hr hk
            rintro k e H ⟨q0, r2, b10, b14, b15, b17, h18, h16, h10, h14, h15, h17, h2', h8, h9, rfl, hr2, hk2⟩
            have ws : IntKind.u64.wrap (r2 + N1) = r2 + N1 := by rw [IntKind.wrap_u64]; omega
            have nn2 : (0 : Int) ≤ (n : Int) := by omega
            by_cases d1 : 4294967296 ≤ q0
            · by_cases d3 : 4294967296 ≤ r2 + N1
              · simp -dsimp [h18, h16, h10, h14, h15, h17, h2', h8, h9, d1, ws, d3, nn2]
                show gk (11 + 1) _ = true
                simp
              · simp -dsimp [h18, h16, h10, h14, h15, h17, h2', h8, h9, d1, ws, d3]
                refine ⟨(4294967296 - (r2 + N1)).toNat, by omega, IntKind.u64.wrap (q0 - 1), r2 + N1, b10, b14, b15, b17, ?_⟩
                simp -dsimp [h18, h16, h10, h14, h15, h17, h2', h8, h9]
                omega
            · by_cases d2 : IntKind.u64.wrap (IntKind.u64.wrap (4294967296 * r2) + b14) < IntKind.u64.wrap (q0 * b10)
              · by_cases d3 : 4294967296 ≤ r2 + N1
                · simp -dsimp [h18, h16, h10, h14, h15, h17, h2', h8, h9, d1, d2, ws, d3, nn2]
                  show gk (11 + 1) _ = true
                  simp
                · simp -dsimp [h18, h16, h10, h14, h15, h17, h2', h8, h9, d1, d2, ws, d3]
                  refine ⟨(4294967296 - (r2 + N1)).toNat, by omega, IntKind.u64.wrap (q0 - 1), r2 + N1, b10, b14, b15, b17, ?_⟩
                  simp -dsimp [h18, h16, h10, h14, h15, h17, h2', h8, h9]
                  omega
              · simp -dsimp [h18, h16, h10, h14, h15, h17, h2', h8, h9, d1, d2, nn2]
                show gk (11 + 1) _ = true
                simp
end Fz.D
set_option maxRecDepth 100000
namespace Fz.D
open Go
def sizeF (a : Int) : Int := if a < 0 then IntKind.u64.wrap (-IntKind.u64.wrap a) else IntKind.u64.wrap a
theorem size_s (a : Int) : Comes p 311 [.int .i64 a] (.int .u64 (sizeF a)) := by
  refine Comes_of w311 rfl rfl k311 ?_ ?_ ?_ ?_
  · simp
  · simp
  · simp
  · by_cases h : a < 0 <;> simp -dsimp [w311, wFix_by, isInl, sizeF, h]
theorem sizeF_1 {c : Int} (hc : i64 c) (h : ¬ c = 0) : 1 ≤ sizeF c ∧ sizeF c < 18446744073709551616 := by
  unfold i64 at hc
  unfold sizeF
  split <;> simp only [IntKind.wrap_u64] <;> omega
def pairOf : Option V → Int × Int
  | some (.tuple [.int _ a, .int _ b]) => (a, b)
  | _ => (0, 0)
def mulF (x y : Int) : Int × Int := pairOf (madeF 310 [.int .u64 x, .int .u64 y])
theorem mul_s (x y : Int) : Comes p 310 [.int .u64 x, .int .u64 y] (.tuple [.int .u64 (mulF x y).1, .int .u64 (mulF x y).2]) := Comes_made (by kernel_rfl) (by simp) (by simp) (by simp) rfl
def scT3 : WC := (.seq (.reg [ao 75 (.makeFunc (.func 313) [] [(.t 14), (.t 12), (.t 11), (.t 10)]),
mv 15 75])
(.seq (.reg [mv 77 15,
ao 78 (.callv (.t 77) []),
mv 76 78,
ao 79 (.extract 0 (.t 76)),
ao 80 (.extract 1 (.t 76)),
ao 81 (.extract 2 (.t 76)),
mv 16 79,
mv 17 80,
mv 18 81])
(.seq (.block 0 (.seq (.reg [mv 83 18,
ao 84 (.un .not (.t 83)),
mv 85 84,
ag 86 (.load false 1 (.t 14)) 85 false,
ag 87 (.mov (.t 86)) 85 false,
ag 88 (.mov (.t 16)) 87 true,
ag 89 (.bin .gtr .no (.t 88) (.c (.int .u64 9223372036854775808))) 87 true,
ag 90 (.pick (.t 87) (.t 89) (.c (.bool false))) 85 false,
ao 91 (.pick (.t 85) (.c (.bool true)) (.t 90)),
mv 92 91,
ag 93 (.load false 1 (.t 14)) 92 false,
ag 94 (.un .not (.t 93)) 92 false,
ag 95 (.mov (.t 94)) 92 false,
ag 96 (.mov (.t 16)) 95 true,
ag 97 (.bin .geq .no (.t 96) (.c (.int .u64 9223372036854775808))) 95 true,
ag 98 (.pick (.t 95) (.t 97) (.c (.bool false))) 92 false,
ao 99 (.pick (.t 92) (.c (.bool true)) (.t 98)),
mv 82 99])
(.cond (.t 82)
(.seq (.reg [ao 6 (.mov (.c (.int .i64 0))),
ao 7 (.mov (.c (.int .i64 0))),
ao 8 (.mov (.c (.bool false)))])
.ret)
(.seq (.reg [ao 101 (.load false 1 (.t 14)),
mv 100 101])
(.cond (.t 100)
(.reg [mv 102 16,
ao 103 (.un .neg (.t 102)),
mv 16 103])
.skip)))))
(.seq (.seq (.reg [mv 104 2,
ao 105 (.bin .lss .no (.t 104) (.c (.int .i64 0)))])
(.cond (.t 105)
(.reg [mv 106 17,
ao 107 (.un .neg (.t 106)),
mv 17 107])
.skip))
(.seq (.reg [mv 108 16,
ao 109 (.conv (.int .i64) (.t 108)),
mv 110 17,
ao 111 (.conv (.int .i64) (.t 110)),
mv 6 109,
mv 7 111,
ao 8 (.mov (.c (.bool true)))])
.ret)))))
def scT2 : WC := (.seq (.reg [mv 63 13,
mv 64 2,
ao 65 (.bin .lss .no (.t 64) (.c (.int .i64 0))),
ao 66 (.bin .neq .bool (.t 63) (.t 65)),
mv 67 66,
ag 68 (.load false 1 (.t 11)) 67 true,
ag 69 (.bin .neq .no (.t 68) (.c (.int .u64 0))) 67 true,
ag 70 (.mov (.t 69)) 67 true,
ag 71 (.load false 1 (.t 12)) 70 false,
ag 72 (.bin .neq .no (.t 71) (.c (.int .u64 0))) 70 false,
ag 73 (.pick (.t 70) (.c (.bool true)) (.t 72)) 67 true,
ao 74 (.pick (.t 67) (.t 73) (.c (.bool false))),
ao 14 (.alloc [(.bool false)]),
an (.store 1 (.t 14) (.t 74))])
scT3)
def scT1 : WC := (.seq (.reg [mv 48 0,
ao 49 (.bin .lss .no (.t 48) (.c (.int .i64 0))),
mv 50 1,
ao 51 (.bin .lss .no (.t 50) (.c (.int .i64 0))),
ao 52 (.bin .neq .bool (.t 49) (.t 51)),
mv 53 52,
ag 54 (.indexPA 2 1 (.t 9) (.c (.int .i64 0))) 53 true,
ag 55 (.load false 1 (.t 54)) 53 true,
ag 56 (.bin .neq .no (.t 55) (.c (.int .u64 0))) 53 true,
ag 57 (.mov (.t 56)) 53 true,
ag 58 (.indexPA 2 1 (.t 9) (.c (.int .i64 1))) 57 false,
ag 59 (.load false 1 (.t 58)) 57 false,
ag 60 (.bin .neq .no (.t 59) (.c (.int .u64 0))) 57 false,
ag 61 (.pick (.t 57) (.c (.bool true)) (.t 60)) 53 true,
ao 62 (.pick (.t 53) (.t 61) (.c (.bool false))),
mv 13 62])
scT2)
def wScD : WF := { nt := 112, results := [(6, none), (7, none), (8, none)], code :=
(.seq (.reg [ao 6 (.mov (.c (.int .i64 0))),
ao 7 (.mov (.c (.int .i64 0))),
ao 8 (.mov (.c (.bool false)))])
(.seq (.reg [ao 9 (.alloc [(.int .u64 0), (.int .u64 0)])])
(.seq (.reg [mv 20 0,
ao 21 (.call 311 [(.t 20)]),
mv 22 1,
ao 23 (.call 311 [(.t 22)]),
ao 24 (.call 310 [(.t 21), (.t 23)]),
mv 19 24,
ao 25 (.extract 0 (.t 19)),
ao 26 (.extract 1 (.t 19)),
ao 27 (.indexPA 2 1 (.t 9) (.c (.int .i64 0))),
an (.store 1 (.t 27) (.t 25)),
ao 28 (.indexPA 2 1 (.t 9) (.c (.int .i64 1))),
an (.store 1 (.t 28) (.t 26))])
(.seq (.reg [mv 29 2,
ao 30 (.call 311 [(.t 29)]),
ao 10 (.alloc [(.int .u64 0)]),
an (.store 1 (.t 10) (.t 30))])
(.seq (.seq (.reg [mv 31 2,
ao 32 (.bin .eql .no (.t 31) (.c (.int .i64 0))),
mv 33 32,
ag 34 (.indexPA 2 1 (.t 9) (.c (.int .i64 0))) 33 false,
ag 35 (.load false 1 (.t 34)) 33 false,
ag 36 (.load false 1 (.t 10)) 33 false,
ag 37 (.bin .geq .no (.t 35) (.t 36)) 33 false,
ao 38 (.pick (.t 33) (.c (.bool true)) (.t 37))])
(.cond (.t 38)
(.seq (.reg [ao 6 (.mov (.c (.int .i64 0))),
ao 7 (.mov (.c (.int .i64 0))),
ao 8 (.mov (.c (.bool false)))])
.ret)
.skip))
(.seq (.reg [ao 40 (.indexPA 2 1 (.t 9) (.c (.int .i64 0))),
ao 41 (.load false 1 (.t 40)),
ao 42 (.indexPA 2 1 (.t 9) (.c (.int .i64 1))),
ao 43 (.load false 1 (.t 42)),
ao 44 (.load false 1 (.t 10)),
ao 45 (.call 312 [(.t 41), (.t 43), (.t 44)]),
mv 39 45,
ao 46 (.extract 0 (.t 39)),
ao 47 (.extract 1 (.t 39)),
ao 11 (.alloc [(.int .u64 0)]),
ao 12 (.alloc [(.int .u64 0)]),
an (.store 1 (.t 11) (.t 46)),
an (.store 1 (.t 12) (.t 47))])
scT1)))))) }
theorem kScD : okW wScD.code = true := by kernel_rfl
def QS : CR → List Ob → Prop := fun r _ => ∃ v, r = .ret v ∧ gk depthF v = true ∧ gr (nrm v) = true ∧ ∃ q r ok, nrm v = .tuple [.int .i64 q, .int .i64 r, .bool ok]
theorem QS_ok {q r : Int} {ok : Bool} {H : List Ob} : QS (.ret (.tuple [.int .i64 q, .int .i64 r, .bool ok])) H := ⟨_, rfl, by show gk (11 + 1) _ = true; simp, by simp, q, r, ok, by simp⟩
theorem round_s {hi lo y q r : Int} {B : Bool} {Q : CR → List Ob → Prop} (hq : ∀ n l k, Q (.ret (.tuple [.int .u64 n, .int .u64 l, .bool k])) [.live [.int .u64 hi, .int .u64 lo], .live [.int .u64 y], .live [.int .u64 q], .live [.int .u64 r], .live [.bool B]]) :
    xCall p 313 [.ptr 4 0, .ptr 3 0, .ptr 2 0, .ptr 1 0] [.live [.int .u64 hi, .int .u64 lo], .live [.int .u64 y], .live [.int .u64 q], .live [.int .u64 r], .live [.bool B]] Q := by
  refine WCall_inl (ids := [4, 3, 2, 1]) (by kernel_rfl) (by
    show reach _ (994 + 1 + 1 + 1 + 1 + 1 + 1) [4, 3, 2, 1] [] = _
    simp [reach, refsOb, refsL, refs]) ?_
  have i4 : List.idxOf 4 [4, 3, 2, 1] = 0 := rfl
  have i3 : List.idxOf 3 [4, 3, 2, 1] = 1 := rfl
  have i2 : List.idxOf 2 [4, 3, 2, 1] = 2 := rfl
  have i1 : List.idxOf 1 [4, 3, 2, 1] = 3 := rfl
  simp -dsimp [renL, ren, renOb, i4, i3, i2, i1]
  refine WFun_of w313 rfl rfl k313 ?_
  cases B with
  | false =>
    simp -dsimp [w313]
    simp -dsimp [backH, setAll, renR, renOb, crV, refs, refsL, renL, ren]
    simpa using hq q r true
  | true =>
    by_cases h : r = 0
    · simp -dsimp [w313, h]
      simp -dsimp [backH, setAll, renR, renOb, crV, refs, refsL, renL, ren]
      simpa [h] using hq q r true
    · simp -dsimp [w313, h]
      simp -dsimp [backH, setAll, renR, renOb, crV, refs, refsL, renL, ren]
      simpa using hq (IntKind.u64.wrap (q + 1)) (IntKind.u64.wrap (y - r)) _
theorem sc3 {e : Env} {c hi lo y q r : Int} {B : Bool} (h2 : e 2 = .int .i64 c) (h10 : e 10 = .ptr 1 0) (h11 : e 11 = .ptr 2 0) (h12 : e 12 = .ptr 3 0) (h14 : e 14 = .ptr 4 0) :
    wx p scT3 e [.live [.int .u64 hi, .int .u64 lo], .live [.int .u64 y], .live [.int .u64 q], .live [.int .u64 r], .live [.bool B]] (finQ [(6, none), (7, none), (8, none)] QS) := by
  simp -dsimp [scT3, h2, h10, h11, h12, h14]
  refine round_s fun n l k => ?_
  cases k with
  | false =>
    simp -dsimp [h2, h10, h11, h12, h14]
    exact QS_ok
  | true =>
    cases B with
    | false =>
      by_cases g1 : 9223372036854775808 ≤ n
      · simp -dsimp [h2, h10, h11, h12, h14, g1]
        exact QS_ok
      · by_cases g2 : c < 0
        · simp -dsimp [h2, h10, h11, h12, h14, g1, g2]
          exact QS_ok
        · simp -dsimp [h2, h10, h11, h12, h14, g1, g2]
          exact QS_ok
    | true =>
      by_cases g1 : 9223372036854775808 < n
      · simp -dsimp [h2, h10, h11, h12, h14, g1]
        exact QS_ok
      · by_cases g2 : c < 0
        · simp -dsimp [h2, h10, h11, h12, h14, g1, g2]
          exact QS_ok
        · simp -dsimp [h2, h10, h11, h12, h14, g1, g2]
          exact QS_ok
theorem sc2 {e : Env} {c hi lo y q r : Int} {M : Bool} (h2 : e 2 = .int .i64 c) (h10 : e 10 = .ptr 1 0) (h11 : e 11 = .ptr 2 0) (h12 : e 12 = .ptr 3 0) (h13 : e 13 = .bool M) :
    wx p scT2 e [.live [.int .u64 hi, .int .u64 lo], .live [.int .u64 y], .live [.int .u64 q], .live [.int .u64 r]] (finQ [(6, none), (7, none), (8, none)] QS) := by
  cases M with
  | false =>
    by_cases cc : c < 0
    · skip
      by_cases g1 : q = 0
      · by_cases g2 : r = 0
        · simp -dsimp [scT2, h2, h10, h11, h12, h13, cc, g1, g2]
          refine sc3 (c := c) (B := false) ?_ ?_ ?_ ?_ ?_ <;> simp -dsimp [h2, h10, h11, h12]
        · simp -dsimp [scT2, h2, h10, h11, h12, h13, cc, g1, g2]
          refine sc3 (c := c) (B := true) ?_ ?_ ?_ ?_ ?_ <;> simp -dsimp [h2, h10, h11, h12]
      · simp -dsimp [scT2, h2, h10, h11, h12, h13, cc, g1]
        refine sc3 (c := c) (B := true) ?_ ?_ ?_ ?_ ?_ <;> simp -dsimp [h2, h10, h11, h12]
    · skip
      simp -dsimp [scT2, h2, h10, h11, h12, h13, cc]
      refine sc3 (c := c) (B := false) ?_ ?_ ?_ ?_ ?_ <;> simp -dsimp [h2, h10, h11, h12]
  | true =>
    by_cases cc : c < 0
    · skip
      simp -dsimp [scT2, h2, h10, h11, h12, h13, cc]
      refine sc3 (c := c) (B := false) ?_ ?_ ?_ ?_ ?_ <;> simp -dsimp [h2, h10, h11, h12]
    · skip
      by_cases g1 : q = 0
      · by_cases g2 : r = 0
        · simp -dsimp [scT2, h2, h10, h11, h12, h13, cc, g1, g2]
          refine sc3 (c := c) (B := false) ?_ ?_ ?_ ?_ ?_ <;> simp -dsimp [h2, h10, h11, h12]
        · simp -dsimp [scT2, h2, h10, h11, h12, h13, cc, g1, g2]
          refine sc3 (c := c) (B := true) ?_ ?_ ?_ ?_ ?_ <;> simp -dsimp [h2, h10, h11, h12]
      · simp -dsimp [scT2, h2, h10, h11, h12, h13, cc, g1]
        refine sc3 (c := c) (B := true) ?_ ?_ ?_ ?_ ?_ <;> simp -dsimp [h2, h10, h11, h12]
theorem sc1 {e : Env} {a b c hi lo y q r : Int} (h0 : e 0 = .int .i64 a) (h1 : e 1 = .int .i64 b) (h2 : e 2 = .int .i64 c) (h9 : e 9 = .ptr 0 0) (h10 : e 10 = .ptr 1 0) (h11 : e 11 = .ptr 2 0) (h12 : e 12 = .ptr 3 0) :
    wx p scT1 e [.live [.int .u64 hi, .int .u64 lo], .live [.int .u64 y], .live [.int .u64 q], .live [.int .u64 r]] (finQ [(6, none), (7, none), (8, none)] QS) := by
  by_cases ca : a < 0
  · skip
    by_cases cb : b < 0
    · skip
      simp -dsimp [scT1, h0, h1, h2, h9, h10, h11, h12, ca, cb]
      refine sc2 (c := c) (M := false) ?_ ?_ ?_ ?_ ?_ <;> simp -dsimp [h2, h10, h11, h12]
    · skip
      by_cases g1 : hi = 0
      · by_cases g2 : lo = 0
        · simp -dsimp [scT1, h0, h1, h2, h9, h10, h11, h12, ca, cb, g1, g2]
          refine sc2 (c := c) (M := false) ?_ ?_ ?_ ?_ ?_ <;> simp -dsimp [h2, h10, h11, h12]
        · simp -dsimp [scT1, h0, h1, h2, h9, h10, h11, h12, ca, cb, g1, g2]
          refine sc2 (c := c) (M := true) ?_ ?_ ?_ ?_ ?_ <;> simp -dsimp [h2, h10, h11, h12]
      · simp -dsimp [scT1, h0, h1, h2, h9, h10, h11, h12, ca, cb, g1]
        refine sc2 (c := c) (M := true) ?_ ?_ ?_ ?_ ?_ <;> simp -dsimp [h2, h10, h11, h12]
  · skip
    by_cases cb : b < 0
    · skip
      by_cases g1 : hi = 0
      · by_cases g2 : lo = 0
        · simp -dsimp [scT1, h0, h1, h2, h9, h10, h11, h12, ca, cb, g1, g2]
          refine sc2 (c := c) (M := false) ?_ ?_ ?_ ?_ ?_ <;> simp -dsimp [h2, h10, h11, h12]
        · simp -dsimp [scT1, h0, h1, h2, h9, h10, h11, h12, ca, cb, g1, g2]
          refine sc2 (c := c) (M := true) ?_ ?_ ?_ ?_ ?_ <;> simp -dsimp [h2, h10, h11, h12]
      · simp -dsimp [scT1, h0, h1, h2, h9, h10, h11, h12, ca, cb, g1]
        refine sc2 (c := c) (M := true) ?_ ?_ ?_ ?_ ?_ <;> simp -dsimp [h2, h10, h11, h12]
    · skip
      simp -dsimp [scT1, h0, h1, h2, h9, h10, h11, h12, ca, cb]
      refine sc2 (c := c) (M := false) ?_ ?_ ?_ ?_ ?_ <;> simp -dsimp [h2, h10, h11, h12]
theorem scale_s {a b c : Int} (hc : i64 c) : ∃ v, (∃ q r ok, v = .tuple [.int .i64 q, .int .i64 r, .bool ok]) ∧ Comes p 174 [.int .i64 a, .int .i64 b, .int .i64 c] v := by
  refine comes_W (by simp) (by simp) rfl ?_
  show WFun p 174 [.int .i64 a, .int .i64 b, .int .i64 c] [] QS
  refine WFun_of wScD rfl rfl kScD ?_
  have m := mul_s (sizeF a) (sizeF b)
  generalize (mulF (sizeF a) (sizeF b)).1 = hi at m
  generalize (mulF (sizeF a) (sizeF b)).2 = lo at m
  by_cases c0 : c = 0
  · subst c0
    simp -dsimp [wScD, call_by (size_s _), call_by m, fillV, splice, chunk]
    exact QS_ok
  · obtain ⟨s1, s2⟩ := sizeF_1 hc c0
    by_cases c1 : sizeF c ≤ hi
    · simp -dsimp [wScD, call_by (size_s _), call_by m, fillV, splice, chunk, c0, c1]
      exact QS_ok
    · obtain ⟨v, ⟨q, r, rfl⟩, d⟩ := div64_s hi lo (sizeF c) s1 s2 (by omega)
      simp -dsimp [wScD, call_by (size_s _), call_by m, fillV, splice, chunk, c0, c1, call_by d]
      refine sc1 (a := a) (b := b) (c := c) ?_ ?_ ?_ ?_ ?_ ?_ ?_ <;> simp -dsimp []
end Fz.D
set_option maxRecDepth 100000
namespace Fz.D
open Go
theorem scale_1 (a b c : Int) : ∃ s : Int × Int × Bool, i64 c → Comes p 174 [.int .i64 a, .int .i64 b, .int .i64 c] (.tuple [.int .i64 s.1, .int .i64 s.2.1, .bool s.2.2]) := by
  by_cases hc : i64 c
  · obtain ⟨v, ⟨q, r, ok, rfl⟩, h⟩ := scale_s (a := a) (b := b) hc
    exact ⟨(q, r, ok), fun _ => h⟩
  · exact ⟨(0, 0, false), fun h => absurd h hc⟩
noncomputable def scF (a b c : Int) : Int × Int × Bool := Classical.choose (scale_1 a b c)
theorem scF_s {a b c : Int} (hc : i64 c) : Comes p 174 [.int .i64 a, .int .i64 b, .int .i64 c] (.tuple [.int .i64 (scF a b c).1, .int .i64 (scF a b c).2.1, .bool (scF a b c).2.2]) := Classical.choose_spec (scale_1 a b c) hc
theorem quot_rng {q r b : Int} {g : FuncId} (hb : b ≠ 0) {H : List Ob} {Q : CR → List Ob → Prop} (hq : Q (.panic (thrown (-11))) H) : xCall p 172 [.int .i64 q, .int .i64 r, .bool false, .int .i64 b, .fn (.func g) [] []] H Q := by
  refine WCall_inl (ids := []) (by kernel_rfl) rfl ?_
  refine WFun_of w172 rfl rfl k172 ?_
  simp -dsimp [w172, renL, ren, hb]
  refine aIs_t ?_
  simp -dsimp []
  refine aIs_f (by decide) ?_
  simp -dsimp [thrown]
  unfold thrown at hq
  simp [renR, ren, backH, setAll]
  exact hq
noncomputable def scaleR (w : Int → Int → List Int) (a b c : Int) : Rs := if c = 0 then .thr (-10) else if (scF a b c).2.2 = true then .ok (w (scF a b c).1 (scF a b c).2.1) else .thr (-11)
theorem box_scale {g : FuncId} {w : Int → Int → List Int} (hw : ∀ q r, Comes p g [.int .i64 q, .int .i64 r] (inV (w q r))) (hY : ¬ g = 4000000000) (a b c : Int) (hc : i64 c) :
    BoxIs 173 (.fn (.func g) [] []) [.int .i64 a, .int .i64 b, .int .i64 c] (scaleR w a b c) := by
  have d := scF_s (a := a) (b := b) hc
  unfold scaleR
  generalize scF a b c = s at *
  obtain ⟨q, r, ok⟩ := s
  have rb : ∀ g b, ren g (inV b) = inV b := fun g b => ground_ren g _ (inV.gd b)
  have r0 : ∀ b, refs (inV b) = [] := fun b => ground_refs _ (inV.gd b)
  have hre : ∀ {H : List Ob} {k : Nat}, H[k]? = some (.live [.fn (.func g) [] []]) → reach H 1000 (refsL [.int .i64 a, .int .i64 b, .int .i64 c, .ptr k 0]) [] = some [k] := by
    intro H k hk
    rw [show refsL [.int .i64 a, .int .i64 b, .int .i64 c, .ptr k 0] = [k] from by simp [refsL, refs]]
    exact reachQ hk rfl
  by_cases hb : c = 0
  · rw [if_pos hb]
    subst hb
    intro H k hk2 hk hq
    refine WCall_inl (by kernel_rfl) (hre hk) ?_
    have e1 : ([k] : List Nat).idxOf k = 0 := by simp
    have hi' : H[k]?.getD .dead = .live [.fn (.func g) [] []] := by rw [hk]; rfl
    simp -dsimp [renL, ren, renOb, e1, hi']
    refine WFun_of w173 rfl rfl k173 ?_
    simp -dsimp [w173, call_by d]
    refine quot_0 ?_
    simp -dsimp [thrown]
    unfold thrown at hq
    simp [renR, backH, setAll, renOb, renL, ren, crV, refsOb, refsL, refs, setQ hk]
    exact hq
  · rw [if_neg hb]
    cases ok with
    | true =>
      rw [if_pos rfl]
      intro H k hk2 hk hq
      refine WCall_inl (by kernel_rfl) (hre hk) ?_
      have e1 : ([k] : List Nat).idxOf k = 0 := by simp
      have hi' : H[k]?.getD .dead = .live [.fn (.func g) [] []] := by rw [hk]; rfl
      simp -dsimp [renL, ren, renOb, e1, hi']
      refine WFun_of w173 rfl rfl k173 ?_
      simp -dsimp [w173, call_by d]
      refine quot_ok hb (hw q r) hY ?_
      simp -dsimp []
      simp [renR, rb, r0, backH, setAll, renOb, renL, ren, crV, refsOb, refsL, refs, setQ hk]
      exact hq
    | false =>
      rw [if_neg (show ¬ (false = true) by decide)]
      intro H k hk2 hk hq
      refine WCall_inl (by kernel_rfl) (hre hk) ?_
      have e1 : ([k] : List Nat).idxOf k = 0 := by simp
      have hi' : H[k]?.getD .dead = .live [.fn (.func g) [] []] := by rw [hk]; rfl
      simp -dsimp [renL, ren, renOb, e1, hi']
      refine WFun_of w173 rfl rfl k173 ?_
      simp -dsimp [w173, call_by d]
      refine quot_rng hb ?_
      simp -dsimp [thrown]
      unfold thrown at hq
      simp [renR, backH, setAll, renOb, renL, ren, crV, refsOb, refsL, refs, setQ hk]
      exact hq
def nDEPTH : ByteArray := ⟨#[68, 69, 80, 84, 72]⟩
def nTRUE : ByteArray := ⟨#[84, 82, 85, 69]⟩
def nFALSE : ByteArray := ⟨#[70, 65, 76, 83, 69]⟩
def nPICK : ByteArray := ⟨#[80, 73, 67, 75]⟩
def nROLL : ByteArray := ⟨#[82, 79, 76, 76]⟩
inductive Gd : ByteArray → AW → Prop
  | none (nm : ByteArray) : Gd nm .none
  | fn {nm : ByteArray} {n : Nat} {f : List Int → Rs} (h1 : ∀ a, rsOk (f a)) (h2 : ∀ a e, f a = .thr e → e = -10 ∨ e = -11) (hn : 1 ≤ n) (h3 : decide (nm = nDEPTH) = false ∧ decide (nm = nTRUE) = false ∧ decide (nm = nFALSE) = false) : Gd nm (.fn n f)
  | zero {nm : ByteArray} {f : List Int → Rs} {x : Int} (h1 : ∀ a, f a = .ok [x]) (h3 : decide (nm = nDEPTH) = false ∧ (decide (nm = nTRUE) = true ∨ decide (nm = nTRUE) = false ∧ decide (nm = nFALSE) = true)) : Gd nm (.fn 0 f)
  | depth : Gd nDEPTH (.all fun l => .ok (l ++ [(l.length : Int)]))
  | pick : Gd nPICK (.all pickF)
  | roll : Gd nROLL (.all rollF)
def E (k : Nat) : Prop := ∃ w, AluS (k : Int) w ∧ Gd (nameF (k : Int)) w
theorem name_of {op : Int} {nm : ByteArray} (h : nameF op = nm) : Comes p 17 [.int .i64 op] (.str nm) := h ▸ name_s op
theorem E_of {op : Int} {k : Nat} {nm : ByteArray} {w : AW} (hk : (k : Int) = op) (h : nameF op = nm) (ht : AluS op w) (hg : Gd nm w) : E k := by
  subst hk
  subst h
  exact ⟨w, ht, hg⟩
theorem ok_ne {l : List Int} {e : Int} : ¬ Rs.ok l = Rs.thr e := fun h => by cases h
end Fz.D
set_option maxRecDepth 100000
namespace Fz.D
open Go
theorem n8 : nameF 8 = ⟨#[40, 86, 65, 82, 41]⟩ := by kernel_rfl
theorem E8 : E 8 := E_of (op := 8) (nm := ⟨#[40, 86, 65, 82, 41]⟩) rfl n8 (aluS_none (nm := ⟨#[40, 86, 65, 82, 41]⟩) (name_of n8) (fun d dep => by kernel_rfl)) (.none _)
theorem n16 : nameF 16 = ⟨#[79, 86, 69, 82]⟩ := by kernel_rfl
theorem T16 : AluS 16 (.fn 2 fun l => .ok ((fun a b : Int => ([a, b, a] : List Int)) (gA l 0) (gA l 1))) :=
  aluS2 (r := fun a b => [a, b, a]) (fun d dep => preG_name (nm := ⟨#[79, 86, 69, 82]⟩) (name_of n16) (by kernel_rfl)) fn_OVER (fun a b => by simp)
theorem E16 : E 16 := E_of (op := 16) (nm := ⟨#[79, 86, 69, 82]⟩) rfl n16 T16 (.fn (fun l => show rsOk (.ok _) from (fun a b : Int => (show ([a, b, a] : List Int).length ≤ 10 from by simp)) (gA l 0) (gA l 1)) (fun l e h => absurd h ok_ne) (by decide) ⟨by decide, by decide, by decide⟩)
theorem n24 : nameF 24 = ⟨#[50, 79, 86, 69, 82]⟩ := by kernel_rfl
theorem T24 : AluS 24 (.fn 4 fun l => .ok ((fun a b c d : Int => ([a, b, c, d, a, b] : List Int)) (gA l 0) (gA l 1) (gA l 2) (gA l 3))) :=
  aluS4 (r := fun a b c d => [a, b, c, d, a, b]) (fun d dep => preG_name (nm := ⟨#[50, 79, 86, 69, 82]⟩) (name_of n24) (by kernel_rfl)) fn_2OVER (fun a b c d => by simp)
theorem E24 : E 24 := E_of (op := 24) (nm := ⟨#[50, 79, 86, 69, 82]⟩) rfl n24 T24 (.fn (fun l => show rsOk (.ok _) from (fun a b c d : Int => (show ([a, b, c, d, a, b] : List Int).length ≤ 10 from by simp)) (gA l 0) (gA l 1) (gA l 2) (gA l 3)) (fun l e h => absurd h ok_ne) (by decide) ⟨by decide, by decide, by decide⟩)
theorem n32 : nameF 32 = ⟨#[77, 79, 68]⟩ := by kernel_rfl
theorem r32 (a b : Int) : rsOk (if b = 0 then Rs.thr (-10) else Rs.ok ((fun q r : Int => ([r] : List Int)) (divQ a b) (divR a b))) := by
  split
  · trivial
  · show List.length _ ≤ 10; simp
theorem q32 (a b e : Int) (h : (if b = 0 then Rs.thr (-10) else Rs.ok ((fun q r : Int => ([r] : List Int)) (divQ a b) (divR a b))) = .thr e) : e = -10 ∨ e = -11 := by
  split at h
  · cases h; exact .inl rfl
  · cases h
theorem T32 : AluS 32 (.fn 2 fun l => (fun a b : Int => (if b = 0 then Rs.thr (-10) else Rs.ok ((fun q r : Int => ([r] : List Int)) (divQ a b) (divR a b)))) (gA l 0) (gA l 1)) :=
  aluS2c (f := 170) (u := .fn (.func 86) [] []) (r := fun a b => (if b = 0 then Rs.thr (-10) else Rs.ok ((fun q r : Int => ([r] : List Int)) (divQ a b) (divR a b)))) (fun d dep => preG_name (nm := ⟨#[77, 79, 68]⟩) (name_of n32) (by kernel_rfl)) rfl (fun a b _ _ => box_div (w := fun q r => [r]) last_s (by decide) a b) r32
theorem E32 : E 32 := E_of (op := 32) (nm := ⟨#[77, 79, 68]⟩) rfl n32 T32 (.fn (fun l => r32 (gA l 0) (gA l 1)) (fun l e h => q32 (gA l 0) (gA l 1) e h) (by decide) ⟨by decide, by decide, by decide⟩)
theorem n40 : nameF 40 = ⟨#[78, 69, 71, 65, 84, 69]⟩ := by kernel_rfl
theorem T40 : AluS 40 (.fn 1 fun l => .ok ((fun a : Int => ([IntKind.i64.wrap (-a)] : List Int)) (gA l 0))) :=
  aluS1 (r := fun a => [IntKind.i64.wrap (-a)]) (fun d dep => preG_name (nm := ⟨#[78, 69, 71, 65, 84, 69]⟩) (name_of n40) (by kernel_rfl)) fn_NEGATE (fun a => by simp)
theorem E40 : E 40 := E_of (op := 40) (nm := ⟨#[78, 69, 71, 65, 84, 69]⟩) rfl n40 T40 (.fn (fun l => show rsOk (.ok _) from (fun a : Int => (show ([IntKind.i64.wrap (-a)] : List Int).length ≤ 10 from by simp)) (gA l 0)) (fun l e h => absurd h ok_ne) (by decide) ⟨by decide, by decide, by decide⟩)
theorem n48 : nameF 48 = ⟨#[76, 83, 72, 73, 70, 84]⟩ := by kernel_rfl
theorem T48 : AluS 48 (.fn 2 fun l => .ok ((fun a b : Int => ([IntKind.i64.wrap (IntKind.u64.wrap (IntKind.u64.wrap a * 2 ^ min (IntKind.u64.wrap b).toNat IntKind.u64.bits))] : List Int)) (gA l 0) (gA l 1))) :=
  aluS2 (r := fun a b => [IntKind.i64.wrap (IntKind.u64.wrap (IntKind.u64.wrap a * 2 ^ min (IntKind.u64.wrap b).toNat IntKind.u64.bits))]) (fun d dep => preG_name (nm := ⟨#[76, 83, 72, 73, 70, 84]⟩) (name_of n48) (by kernel_rfl)) fn_LSHIFT (fun a b => by simp)
theorem E48 : E 48 := E_of (op := 48) (nm := ⟨#[76, 83, 72, 73, 70, 84]⟩) rfl n48 T48 (.fn (fun l => show rsOk (.ok _) from (fun a b : Int => (show ([IntKind.i64.wrap (IntKind.u64.wrap (IntKind.u64.wrap a * 2 ^ min (IntKind.u64.wrap b).toNat IntKind.u64.bits))] : List Int).length ≤ 10 from by simp)) (gA l 0) (gA l 1)) (fun l e h => absurd h ok_ne) (by decide) ⟨by decide, by decide, by decide⟩)
theorem n56 : nameF 56 = ⟨#[48, 60]⟩ := by kernel_rfl
theorem T56 : AluS 56 (.fn 1 fun l => .ok ((fun a : Int => ([fgI (decide (a < 0))] : List Int)) (gA l 0))) :=
  aluS1 (r := fun a => [fgI (decide (a < 0))]) (fun d dep => preG_name (nm := ⟨#[48, 60]⟩) (name_of n56) (by kernel_rfl)) fn_ZLT (fun a => by simp)
theorem E56 : E 56 := E_of (op := 56) (nm := ⟨#[48, 60]⟩) rfl n56 T56 (.fn (fun l => show rsOk (.ok _) from (fun a : Int => (show ([fgI (decide (a < 0))] : List Int).length ≤ 10 from by simp)) (gA l 0)) (fun l e h => absurd h ok_ne) (by decide) ⟨by decide, by decide, by decide⟩)
theorem n64 : nameF 64 = ⟨#[70, 43]⟩ := by kernel_rfl
theorem T64 : AluS 64 (.fn 2 fun l => (fun a b : Int => (Rs.ok [(F.two 43 a b).1])) (gA l 0) (gA l 1)) :=
  aluS2c (f := 125) (u := .int .u8 43) (r := fun a b => (Rs.ok [(F.two 43 a b).1])) (fun d dep => preG_name (nm := ⟨#[70, 43]⟩) (name_of n64) (by kernel_rfl)) rfl (fun a b _ _ => box_two 43 a b) (fun a b => show List.length _ ≤ 10 by simp)
theorem E64 : E 64 := E_of (op := 64) (nm := ⟨#[70, 43]⟩) rfl n64 T64 (.fn (fun l => show List.length _ ≤ 10 by simp) (fun l e h => absurd h ok_ne) (by decide) ⟨by decide, by decide, by decide⟩)
theorem n72 : nameF 72 = ⟨#[70, 83, 81, 82, 84]⟩ := by kernel_rfl
theorem T72 : AluS 72 (.fn 1 fun l => (fun a : Int => (Rs.ok [(F.one 115 a).1])) (gA l 0)) :=
  aluS1c (f := 128) (u := .int .u8 115) (r := fun a => (Rs.ok [(F.one 115 a).1])) (fun d dep => preG_name (nm := ⟨#[70, 83, 81, 82, 84]⟩) (name_of n72) (by kernel_rfl)) rfl (fun a _ => box_lone 115 a) (fun a => show List.length _ ≤ 10 by simp)
theorem E72 : E 72 := E_of (op := 72) (nm := ⟨#[70, 83, 81, 82, 84]⟩) rfl n72 T72 (.fn (fun l => show List.length _ ≤ 10 by simp) (fun l e h => absurd h ok_ne) (by decide) ⟨by decide, by decide, by decide⟩)
theorem n80 : nameF 80 = ⟨#[43, 33]⟩ := by kernel_rfl
theorem E80 : E 80 := E_of (op := 80) (nm := ⟨#[43, 33]⟩) rfl n80 (aluS_none (nm := ⟨#[43, 33]⟩) (name_of n80) (fun d dep => by kernel_rfl)) (.none _)
theorem n88 : nameF 88 = ⟨#[66, 65, 83, 69]⟩ := by kernel_rfl
theorem E88 : E 88 := E_of (op := 88) (nm := ⟨#[66, 65, 83, 69]⟩) rfl n88 (aluS_none (nm := ⟨#[66, 65, 83, 69]⟩) (name_of n88) (fun d dep => by kernel_rfl)) (.none _)
theorem n96 : nameF 96 = ⟨#[85, 78, 76, 79, 79, 80]⟩ := by kernel_rfl
theorem E96 : E 96 := E_of (op := 96) (nm := ⟨#[85, 78, 76, 79, 79, 80]⟩) rfl n96 (aluS_none (nm := ⟨#[85, 78, 76, 79, 79, 80]⟩) (name_of n96) (fun d dep => by kernel_rfl)) (.none _)
theorem n104 : nameF 104 = ⟨#[87, 72, 73, 76, 69]⟩ := by kernel_rfl
theorem E104 : E 104 := E_of (op := 104) (nm := ⟨#[87, 72, 73, 76, 69]⟩) rfl n104 (aluS_none (nm := ⟨#[87, 72, 73, 76, 69]⟩) (name_of n104) (fun d dep => by kernel_rfl)) (.none _)
theorem n112 : nameF 112 = ⟨#[73, 77, 77, 69, 68, 73, 65, 84, 69]⟩ := by kernel_rfl
theorem E112 : E 112 := E_of (op := 112) (nm := ⟨#[73, 77, 77, 69, 68, 73, 65, 84, 69]⟩) rfl n112 (aluS_none (nm := ⟨#[73, 77, 77, 69, 68, 73, 65, 84, 69]⟩) (name_of n112) (fun d dep => by kernel_rfl)) (.none _)
theorem n120 : nameF 120 = ⟨#[76, 73, 84, 69, 82, 65, 76]⟩ := by kernel_rfl
theorem E120 : E 120 := E_of (op := 120) (nm := ⟨#[76, 73, 84, 69, 82, 65, 76]⟩) rfl n120 (aluS_none (nm := ⟨#[76, 73, 84, 69, 82, 65, 76]⟩) (name_of n120) (fun d dep => by kernel_rfl)) (.none _)
theorem n128 : nameF 128 = ⟨#[92]⟩ := by kernel_rfl
theorem E128 : E 128 := E_of (op := 128) (nm := ⟨#[92]⟩) rfl n128 (aluS_none (nm := ⟨#[92]⟩) (name_of n128) (fun d dep => by kernel_rfl)) (.none _)
theorem n136 : nameF 136 = ⟨#[84, 72, 82, 79, 87]⟩ := by kernel_rfl
theorem E136 : E 136 := E_of (op := 136) (nm := ⟨#[84, 72, 82, 79, 87]⟩) rfl n136 (aluS_none (nm := ⟨#[84, 72, 82, 79, 87]⟩) (name_of n136) (fun d dep => by kernel_rfl)) (.none _)
end Fz.D
set_option maxRecDepth 100000
namespace Fz.D
open Go
theorem n1 : nameF 1 = ⟨#[69, 88, 73, 84]⟩ := by kernel_rfl
theorem E1 : E 1 := E_of (op := 1) (nm := ⟨#[69, 88, 73, 84]⟩) rfl n1 (aluS_none (nm := ⟨#[69, 88, 73, 84]⟩) (name_of n1) (fun d dep => by kernel_rfl)) (.none _)
theorem n9 : nameF 9 = ⟨#[40, 68, 79, 69, 83, 41]⟩ := by kernel_rfl
theorem E9 : E 9 := E_of (op := 9) (nm := ⟨#[40, 68, 79, 69, 83, 41]⟩) rfl n9 (aluS_none (nm := ⟨#[40, 68, 79, 69, 83, 41]⟩) (name_of n9) (fun d dep => by kernel_rfl)) (.none _)
theorem n17 : nameF 17 = ⟨#[82, 79, 84]⟩ := by kernel_rfl
theorem T17 : AluS 17 (.fn 3 fun l => .ok ((fun a b c : Int => ([b, c, a] : List Int)) (gA l 0) (gA l 1) (gA l 2))) :=
  aluS3 (r := fun a b c => [b, c, a]) (fun d dep => preG_name (nm := ⟨#[82, 79, 84]⟩) (name_of n17) (by kernel_rfl)) fn_ROT (fun a b c => by simp)
theorem E17 : E 17 := E_of (op := 17) (nm := ⟨#[82, 79, 84]⟩) rfl n17 T17 (.fn (fun l => show rsOk (.ok _) from (fun a b c : Int => (show ([b, c, a] : List Int).length ≤ 10 from by simp)) (gA l 0) (gA l 1) (gA l 2)) (fun l e h => absurd h ok_ne) (by decide) ⟨by decide, by decide, by decide⟩)
theorem n25 : nameF 25 = ⟨#[80, 73, 67, 75]⟩ := by kernel_rfl
theorem E25 : E 25 := E_of (op := 25) (nm := ⟨#[80, 73, 67, 75]⟩) rfl n25 (pick_W (fun d dep => preG_name (nm := ⟨#[80, 73, 67, 75]⟩) (name_of n25) (by kernel_rfl))) .pick
theorem n33 : nameF 33 = ⟨#[47, 77, 79, 68]⟩ := by kernel_rfl
theorem r33 (a b : Int) : rsOk (if b = 0 then Rs.thr (-10) else Rs.ok ((fun q r : Int => ([r, q] : List Int)) (divQ a b) (divR a b))) := by
  split
  · trivial
  · show List.length _ ≤ 10; simp
theorem q33 (a b e : Int) (h : (if b = 0 then Rs.thr (-10) else Rs.ok ((fun q r : Int => ([r, q] : List Int)) (divQ a b) (divR a b))) = .thr e) : e = -10 ∨ e = -11 := by
  split at h
  · cases h; exact .inl rfl
  · cases h
theorem T33 : AluS 33 (.fn 2 fun l => (fun a b : Int => (if b = 0 then Rs.thr (-10) else Rs.ok ((fun q r : Int => ([r, q] : List Int)) (divQ a b) (divR a b)))) (gA l 0) (gA l 1)) :=
  aluS2c (f := 170) (u := .fn (.func 87) [] []) (r := fun a b => (if b = 0 then Rs.thr (-10) else Rs.ok ((fun q r : Int => ([r, q] : List Int)) (divQ a b) (divR a b)))) (fun d dep => preG_name (nm := ⟨#[47, 77, 79, 68]⟩) (name_of n33) (by kernel_rfl)) rfl (fun a b _ _ => box_div (w := fun q r => [r, q]) both_s (by decide) a b) r33
theorem E33 : E 33 := E_of (op := 33) (nm := ⟨#[47, 77, 79, 68]⟩) rfl n33 T33 (.fn (fun l => r33 (gA l 0) (gA l 1)) (fun l e h => q33 (gA l 0) (gA l 1) e h) (by decide) ⟨by decide, by decide, by decide⟩)
theorem n41 : nameF 41 = ⟨#[65, 66, 83]⟩ := by kernel_rfl
theorem T41 : AluS 41 (.fn 1 fun l => .ok ((fun a : Int => ([if a < IntKind.i64.wrap (-a) then IntKind.i64.wrap (-a) else a] : List Int)) (gA l 0))) :=
  aluS1 (r := fun a => [if a < IntKind.i64.wrap (-a) then IntKind.i64.wrap (-a) else a]) (fun d dep => preG_name (nm := ⟨#[65, 66, 83]⟩) (name_of n41) (by kernel_rfl)) fn_ABS (fun a => by simp)
theorem E41 : E 41 := E_of (op := 41) (nm := ⟨#[65, 66, 83]⟩) rfl n41 T41 (.fn (fun l => show rsOk (.ok _) from (fun a : Int => (show ([if a < IntKind.i64.wrap (-a) then IntKind.i64.wrap (-a) else a] : List Int).length ≤ 10 from by simp)) (gA l 0)) (fun l e h => absurd h ok_ne) (by decide) ⟨by decide, by decide, by decide⟩)
theorem n49 : nameF 49 = ⟨#[82, 83, 72, 73, 70, 84]⟩ := by kernel_rfl
theorem T49 : AluS 49 (.fn 2 fun l => .ok ((fun a b : Int => ([IntKind.i64.wrap ((IntKind.u64.wrap a).fdiv (2 ^ min (IntKind.u64.wrap b).toNat IntKind.u64.bits))] : List Int)) (gA l 0) (gA l 1))) :=
  aluS2 (r := fun a b => [IntKind.i64.wrap ((IntKind.u64.wrap a).fdiv (2 ^ min (IntKind.u64.wrap b).toNat IntKind.u64.bits))]) (fun d dep => preG_name (nm := ⟨#[82, 83, 72, 73, 70, 84]⟩) (name_of n49) (by kernel_rfl)) fn_RSHIFT (fun a b => by simp)
theorem E49 : E 49 := E_of (op := 49) (nm := ⟨#[82, 83, 72, 73, 70, 84]⟩) rfl n49 T49 (.fn (fun l => show rsOk (.ok _) from (fun a b : Int => (show ([IntKind.i64.wrap ((IntKind.u64.wrap a).fdiv (2 ^ min (IntKind.u64.wrap b).toNat IntKind.u64.bits))] : List Int).length ≤ 10 from by simp)) (gA l 0) (gA l 1)) (fun l e h => absurd h ok_ne) (by decide) ⟨by decide, by decide, by decide⟩)
theorem n57 : nameF 57 = ⟨#[48, 60, 62]⟩ := by kernel_rfl
theorem T57 : AluS 57 (.fn 1 fun l => .ok ((fun a : Int => ([fgI (!decide (a = 0))] : List Int)) (gA l 0))) :=
  aluS1 (r := fun a => [fgI (!decide (a = 0))]) (fun d dep => preG_name (nm := ⟨#[48, 60, 62]⟩) (name_of n57) (by kernel_rfl)) fn_ZNE (fun a => by simp)
theorem E57 : E 57 := E_of (op := 57) (nm := ⟨#[48, 60, 62]⟩) rfl n57 T57 (.fn (fun l => show rsOk (.ok _) from (fun a : Int => (show ([fgI (!decide (a = 0))] : List Int).length ≤ 10 from by simp)) (gA l 0)) (fun l e h => absurd h ok_ne) (by decide) ⟨by decide, by decide, by decide⟩)
theorem n65 : nameF 65 = ⟨#[70, 45]⟩ := by kernel_rfl
theorem T65 : AluS 65 (.fn 2 fun l => (fun a b : Int => (Rs.ok [(F.two 45 a b).1])) (gA l 0) (gA l 1)) :=
  aluS2c (f := 125) (u := .int .u8 45) (r := fun a b => (Rs.ok [(F.two 45 a b).1])) (fun d dep => preG_name (nm := ⟨#[70, 45]⟩) (name_of n65) (by kernel_rfl)) rfl (fun a b _ _ => box_two 45 a b) (fun a b => show List.length _ ≤ 10 by simp)
theorem E65 : E 65 := E_of (op := 65) (nm := ⟨#[70, 45]⟩) rfl n65 T65 (.fn (fun l => show List.length _ ≤ 10 by simp) (fun l e h => absurd h ok_ne) (by decide) ⟨by decide, by decide, by decide⟩)
theorem n73 : nameF 73 = ⟨#[70, 76, 79, 79, 82]⟩ := by kernel_rfl
theorem T73 : AluS 73 (.fn 1 fun l => (fun a : Int => (Rs.ok [(F.one 102 a).1])) (gA l 0)) :=
  aluS1c (f := 128) (u := .int .u8 102) (r := fun a => (Rs.ok [(F.one 102 a).1])) (fun d dep => preG_name (nm := ⟨#[70, 76, 79, 79, 82]⟩) (name_of n73) (by kernel_rfl)) rfl (fun a _ => box_lone 102 a) (fun a => show List.length _ ≤ 10 by simp)
theorem E73 : E 73 := E_of (op := 73) (nm := ⟨#[70, 76, 79, 79, 82]⟩) rfl n73 T73 (.fn (fun l => show List.length _ ≤ 10 by simp) (fun l e h => absurd h ok_ne) (by decide) ⟨by decide, by decide, by decide⟩)
theorem n81 : nameF 81 = ⟨#[67, 64]⟩ := by kernel_rfl
theorem E81 : E 81 := E_of (op := 81) (nm := ⟨#[67, 64]⟩) rfl n81 (aluS_none (nm := ⟨#[67, 64]⟩) (name_of n81) (fun d dep => by kernel_rfl)) (.none _)
theorem n89 : nameF 89 = ⟨#[68, 69, 67, 73, 77, 65, 76]⟩ := by kernel_rfl
theorem E89 : E 89 := E_of (op := 89) (nm := ⟨#[68, 69, 67, 73, 77, 65, 76]⟩) rfl n89 (aluS_none (nm := ⟨#[68, 69, 67, 73, 77, 65, 76]⟩) (name_of n89) (fun d dep => by kernel_rfl)) (.none _)
theorem n97 : nameF 97 = ⟨#[76, 69, 65, 86, 69]⟩ := by kernel_rfl
theorem E97 : E 97 := E_of (op := 97) (nm := ⟨#[76, 69, 65, 86, 69]⟩) rfl n97 (aluS_none (nm := ⟨#[76, 69, 65, 86, 69]⟩) (name_of n97) (fun d dep => by kernel_rfl)) (.none _)
theorem n105 : nameF 105 = ⟨#[82, 69, 80, 69, 65, 84]⟩ := by kernel_rfl
theorem E105 : E 105 := E_of (op := 105) (nm := ⟨#[82, 69, 80, 69, 65, 84]⟩) rfl n105 (aluS_none (nm := ⟨#[82, 69, 80, 69, 65, 84]⟩) (name_of n105) (fun d dep => by kernel_rfl)) (.none _)
theorem n113 : nameF 113 = ⟨#[67, 79, 78, 83, 84, 65, 78, 84]⟩ := by kernel_rfl
theorem E113 : E 113 := E_of (op := 113) (nm := ⟨#[67, 79, 78, 83, 84, 65, 78, 84]⟩) rfl n113 (aluS_none (nm := ⟨#[67, 79, 78, 83, 84, 65, 78, 84]⟩) (name_of n113) (fun d dep => by kernel_rfl)) (.none _)
theorem n121 : nameF 121 = ⟨#[80, 79, 83, 84, 80, 79, 78, 69]⟩ := by kernel_rfl
theorem E121 : E 121 := E_of (op := 121) (nm := ⟨#[80, 79, 83, 84, 80, 79, 78, 69]⟩) rfl n121 (aluS_none (nm := ⟨#[80, 79, 83, 84, 80, 79, 78, 69]⟩) (name_of n121) (fun d dep => by kernel_rfl)) (.none _)
theorem n129 : nameF 129 = ⟨#[46, 34]⟩ := by kernel_rfl
theorem E129 : E 129 := E_of (op := 129) (nm := ⟨#[46, 34]⟩) rfl n129 (aluS_none (nm := ⟨#[46, 34]⟩) (name_of n129) (fun d dep => by kernel_rfl)) (.none _)
theorem n137 : nameF 137 = ⟨#[65, 66, 79, 82, 84]⟩ := by kernel_rfl
theorem E137 : E 137 := E_of (op := 137) (nm := ⟨#[65, 66, 79, 82, 84]⟩) rfl n137 (aluS_none (nm := ⟨#[65, 66, 79, 82, 84]⟩) (name_of n137) (fun d dep => by kernel_rfl)) (.none _)
end Fz.D
set_option maxRecDepth 100000
namespace Fz.D
open Go
theorem n2 : nameF 2 = ⟨#[40, 76, 73, 84, 41]⟩ := by kernel_rfl
theorem E2 : E 2 := E_of (op := 2) (nm := ⟨#[40, 76, 73, 84, 41]⟩) rfl n2 (aluS_none (nm := ⟨#[40, 76, 73, 84, 41]⟩) (name_of n2) (fun d dep => by kernel_rfl)) (.none _)
theorem n10 : nameF 10 = ⟨#[40, 84, 69, 88, 84, 41]⟩ := by kernel_rfl
theorem E10 : E 10 := E_of (op := 10) (nm := ⟨#[40, 84, 69, 88, 84, 41]⟩) rfl n10 (aluS_none (nm := ⟨#[40, 84, 69, 88, 84, 41]⟩) (name_of n10) (fun d dep => by kernel_rfl)) (.none _)
theorem n18 : nameF 18 = ⟨#[78, 73, 80]⟩ := by kernel_rfl
theorem T18 : AluS 18 (.fn 2 fun l => .ok ((fun a b : Int => (outI 63 [.int .i64 a, .int .i64 b] : List Int)) (gA l 0) (gA l 1))) :=
  aluS2 (r := fun a b => outI 63 [.int .i64 a, .int .i64 b]) (fun d dep => preG_name (nm := ⟨#[78, 73, 80]⟩) (name_of n18) (by kernel_rfl)) fn_NIP (fun a b => by rw [fl_NIP]; decide)
theorem E18 : E 18 := E_of (op := 18) (nm := ⟨#[78, 73, 80]⟩) rfl n18 T18 (.fn (fun l => show rsOk (.ok _) from (fun a b : Int => (show (outI 63 [.int .i64 a, .int .i64 b] : List Int).length ≤ 10 from by rw [fl_NIP]; decide)) (gA l 0) (gA l 1)) (fun l e h => absurd h ok_ne) (by decide) ⟨by decide, by decide, by decide⟩)
theorem n26 : nameF 26 = ⟨#[82, 79, 76, 76]⟩ := by kernel_rfl
theorem E26 : E 26 := E_of (op := 26) (nm := ⟨#[82, 79, 76, 76]⟩) rfl n26 (roll_W (fun d dep => preG_name (nm := ⟨#[82, 79, 76, 76]⟩) (name_of n26) (by kernel_rfl))) .roll
theorem n34 : nameF 34 = ⟨#[42, 47]⟩ := by kernel_rfl
theorem r34 (a b c : Int) : rsOk (scaleR (fun q r => [q]) a b c) := by
  unfold scaleR; split
  · trivial
  · split; (show List.length _ ≤ 10; simp); trivial
theorem q34 (a b c e : Int) (h : (scaleR (fun q r => [q]) a b c) = .thr e) : e = -10 ∨ e = -11 := by
  unfold scaleR at h; split at h
  · cases h; exact .inl rfl
  · split at h; cases h; (cases h; exact .inr rfl)
theorem T34 : AluS 34 (.fn 3 fun l => (fun a b c : Int => (scaleR (fun q r => [q]) a b c)) (gA l 0) (gA l 1) (gA l 2)) :=
  aluS3c (f := 173) (u := .fn (.func 85) [] []) (r := fun a b c => (scaleR (fun q r => [q]) a b c)) (fun d dep => preG_name (nm := ⟨#[42, 47]⟩) (name_of n34) (by kernel_rfl)) rfl (fun a b c _ _ hc => box_scale (w := fun q r => [q]) first_s (by decide) a b c hc) r34
theorem E34 : E 34 := E_of (op := 34) (nm := ⟨#[42, 47]⟩) rfl n34 T34 (.fn (fun l => r34 (gA l 0) (gA l 1) (gA l 2)) (fun l e h => q34 (gA l 0) (gA l 1) (gA l 2) e h) (by decide) ⟨by decide, by decide, by decide⟩)
theorem n42 : nameF 42 = ⟨#[77, 73, 78]⟩ := by kernel_rfl
theorem T42 : AluS 42 (.fn 2 fun l => .ok ((fun a b : Int => ([if b < a then b else a] : List Int)) (gA l 0) (gA l 1))) :=
  aluS2 (r := fun a b => [if b < a then b else a]) (fun d dep => preG_name (nm := ⟨#[77, 73, 78]⟩) (name_of n42) (by kernel_rfl)) fn_MIN (fun a b => by simp)
theorem E42 : E 42 := E_of (op := 42) (nm := ⟨#[77, 73, 78]⟩) rfl n42 T42 (.fn (fun l => show rsOk (.ok _) from (fun a b : Int => (show ([if b < a then b else a] : List Int).length ≤ 10 from by simp)) (gA l 0) (gA l 1)) (fun l e h => absurd h ok_ne) (by decide) ⟨by decide, by decide, by decide⟩)
theorem n50 : nameF 50 = ⟨#[61]⟩ := by kernel_rfl
theorem T50 : AluS 50 (.fn 2 fun l => .ok ((fun a b : Int => ([flagI (a = b)] : List Int)) (gA l 0) (gA l 1))) :=
  aluS2 (r := fun a b => [flagI (a = b)]) (fun d dep => preG_name (nm := ⟨#[61]⟩) (name_of n50) (by kernel_rfl)) fn_eq (fun a b => by simp)
theorem E50 : E 50 := E_of (op := 50) (nm := ⟨#[61]⟩) rfl n50 T50 (.fn (fun l => show rsOk (.ok _) from (fun a b : Int => (show ([flagI (a = b)] : List Int).length ≤ 10 from by simp)) (gA l 0) (gA l 1)) (fun l e h => absurd h ok_ne) (by decide) ⟨by decide, by decide, by decide⟩)
theorem n58 : nameF 58 = ⟨#[48, 62]⟩ := by kernel_rfl
theorem T58 : AluS 58 (.fn 1 fun l => .ok ((fun a : Int => ([fgI (decide (0 < a))] : List Int)) (gA l 0))) :=
  aluS1 (r := fun a => [fgI (decide (0 < a))]) (fun d dep => preG_name (nm := ⟨#[48, 62]⟩) (name_of n58) (by kernel_rfl)) fn_ZGT (fun a => by simp)
theorem E58 : E 58 := E_of (op := 58) (nm := ⟨#[48, 62]⟩) rfl n58 T58 (.fn (fun l => show rsOk (.ok _) from (fun a : Int => (show ([fgI (decide (0 < a))] : List Int).length ≤ 10 from by simp)) (gA l 0)) (fun l e h => absurd h ok_ne) (by decide) ⟨by decide, by decide, by decide⟩)
theorem n66 : nameF 66 = ⟨#[70, 42]⟩ := by kernel_rfl
theorem T66 : AluS 66 (.fn 2 fun l => (fun a b : Int => (Rs.ok [(F.two 42 a b).1])) (gA l 0) (gA l 1)) :=
  aluS2c (f := 125) (u := .int .u8 42) (r := fun a b => (Rs.ok [(F.two 42 a b).1])) (fun d dep => preG_name (nm := ⟨#[70, 42]⟩) (name_of n66) (by kernel_rfl)) rfl (fun a b _ _ => box_two 42 a b) (fun a b => show List.length _ ≤ 10 by simp)
theorem E66 : E 66 := E_of (op := 66) (nm := ⟨#[70, 42]⟩) rfl n66 T66 (.fn (fun l => show List.length _ ≤ 10 by simp) (fun l e h => absurd h ok_ne) (by decide) ⟨by decide, by decide, by decide⟩)
theorem n74 : nameF 74 = ⟨#[70, 60]⟩ := by kernel_rfl
theorem T74 : AluS 74 (.fn 2 fun l => .ok ((fun a b : Int => ([fgI (F.less a b)] : List Int)) (gA l 0) (gA l 1))) :=
  aluS2 (r := fun a b => [fgI (F.less a b)]) (fun d dep => preG_name (nm := ⟨#[70, 60]⟩) (name_of n74) (by kernel_rfl)) fn_FLT (fun a b => by simp)
theorem E74 : E 74 := E_of (op := 74) (nm := ⟨#[70, 60]⟩) rfl n74 T74 (.fn (fun l => show rsOk (.ok _) from (fun a b : Int => (show ([fgI (F.less a b)] : List Int).length ≤ 10 from by simp)) (gA l 0) (gA l 1)) (fun l e h => absurd h ok_ne) (by decide) ⟨by decide, by decide, by decide⟩)
theorem n82 : nameF 82 = ⟨#[67, 33]⟩ := by kernel_rfl
theorem E82 : E 82 := E_of (op := 82) (nm := ⟨#[67, 33]⟩) rfl n82 (aluS_none (nm := ⟨#[67, 33]⟩) (name_of n82) (fun d dep => by kernel_rfl)) (.none _)
theorem n90 : nameF 90 = ⟨#[72, 69, 88]⟩ := by kernel_rfl
theorem E90 : E 90 := E_of (op := 90) (nm := ⟨#[72, 69, 88]⟩) rfl n90 (aluS_none (nm := ⟨#[72, 69, 88]⟩) (name_of n90) (fun d dep => by kernel_rfl)) (.none _)
theorem n98 : nameF 98 = ⟨#[73, 70]⟩ := by kernel_rfl
theorem E98 : E 98 := E_of (op := 98) (nm := ⟨#[73, 70]⟩) rfl n98 (aluS_none (nm := ⟨#[73, 70]⟩) (name_of n98) (fun d dep => by kernel_rfl)) (.none _)
theorem n106 : nameF 106 = ⟨#[68, 79]⟩ := by kernel_rfl
theorem E106 : E 106 := E_of (op := 106) (nm := ⟨#[68, 79]⟩) rfl n106 (aluS_none (nm := ⟨#[68, 79]⟩) (name_of n106) (fun d dep => by kernel_rfl)) (.none _)
theorem n114 : nameF 114 = ⟨#[86, 65, 82, 73, 65, 66, 76, 69]⟩ := by kernel_rfl
theorem E114 : E 114 := E_of (op := 114) (nm := ⟨#[86, 65, 82, 73, 65, 66, 76, 69]⟩) rfl n114 (aluS_none (nm := ⟨#[86, 65, 82, 73, 65, 66, 76, 69]⟩) (name_of n114) (fun d dep => by kernel_rfl)) (.none _)
theorem n122 : nameF 122 = ⟨#[91]⟩ := by kernel_rfl
theorem E122 : E 122 := E_of (op := 122) (nm := ⟨#[91]⟩) rfl n122 (aluS_none (nm := ⟨#[91]⟩) (name_of n122) (fun d dep => by kernel_rfl)) (.none _)
theorem n130 : nameF 130 = ⟨#[69, 77, 73, 84]⟩ := by kernel_rfl
theorem E130 : E 130 := E_of (op := 130) (nm := ⟨#[69, 77, 73, 84]⟩) rfl n130 (aluS_none (nm := ⟨#[69, 77, 73, 84]⟩) (name_of n130) (fun d dep => by kernel_rfl)) (.none _)
end Fz.D
set_option maxRecDepth 100000
namespace Fz.D
open Go
theorem n3 : nameF 3 = ⟨#[40, 66, 82, 65, 78, 67, 72, 41]⟩ := by kernel_rfl
theorem E3 : E 3 := E_of (op := 3) (nm := ⟨#[40, 66, 82, 65, 78, 67, 72, 41]⟩) rfl n3 (aluS_none (nm := ⟨#[40, 66, 82, 65, 78, 67, 72, 41]⟩) (name_of n3) (fun d dep => by kernel_rfl)) (.none _)
theorem n11 : nameF 11 = ⟨#[40, 77, 65, 82, 75, 41]⟩ := by kernel_rfl
theorem E11 : E 11 := E_of (op := 11) (nm := ⟨#[40, 77, 65, 82, 75, 41]⟩) rfl n11 (aluS_none (nm := ⟨#[40, 77, 65, 82, 75, 41]⟩) (name_of n11) (fun d dep => by kernel_rfl)) (.none _)
theorem n19 : nameF 19 = ⟨#[84, 85, 67, 75]⟩ := by kernel_rfl
theorem T19 : AluS 19 (.fn 2 fun l => .ok ((fun a b : Int => (outI 64 [.int .i64 a, .int .i64 b] : List Int)) (gA l 0) (gA l 1))) :=
  aluS2 (r := fun a b => outI 64 [.int .i64 a, .int .i64 b]) (fun d dep => preG_name (nm := ⟨#[84, 85, 67, 75]⟩) (name_of n19) (by kernel_rfl)) fn_TUCK (fun a b => by rw [fl_TUCK]; decide)
theorem E19 : E 19 := E_of (op := 19) (nm := ⟨#[84, 85, 67, 75]⟩) rfl n19 T19 (.fn (fun l => show rsOk (.ok _) from (fun a b : Int => (show (outI 64 [.int .i64 a, .int .i64 b] : List Int).length ≤ 10 from by rw [fl_TUCK]; decide)) (gA l 0) (gA l 1)) (fun l e h => absurd h ok_ne) (by decide) ⟨by decide, by decide, by decide⟩)
theorem n27 : nameF 27 = ⟨#[68, 69, 80, 84, 72]⟩ := by kernel_rfl
theorem E27 : E 27 := E_of (op := 27) (nm := ⟨#[68, 69, 80, 84, 72]⟩) rfl n27 (depth_W (fun d dep => preG_name (nm := ⟨#[68, 69, 80, 84, 72]⟩) (name_of n27) (by kernel_rfl))) .depth
theorem n35 : nameF 35 = ⟨#[42, 47, 77, 79, 68]⟩ := by kernel_rfl
theorem r35 (a b c : Int) : rsOk (scaleR (fun q r => [r, q]) a b c) := by
  unfold scaleR; split
  · trivial
  · split; (show List.length _ ≤ 10; simp); trivial
theorem q35 (a b c e : Int) (h : (scaleR (fun q r => [r, q]) a b c) = .thr e) : e = -10 ∨ e = -11 := by
  unfold scaleR at h; split at h
  · cases h; exact .inl rfl
  · split at h; cases h; (cases h; exact .inr rfl)
theorem T35 : AluS 35 (.fn 3 fun l => (fun a b c : Int => (scaleR (fun q r => [r, q]) a b c)) (gA l 0) (gA l 1) (gA l 2)) :=
  aluS3c (f := 173) (u := .fn (.func 87) [] []) (r := fun a b c => (scaleR (fun q r => [r, q]) a b c)) (fun d dep => preG_name (nm := ⟨#[42, 47, 77, 79, 68]⟩) (name_of n35) (by kernel_rfl)) rfl (fun a b c _ _ hc => box_scale (w := fun q r => [r, q]) both_s (by decide) a b c hc) r35
theorem E35 : E 35 := E_of (op := 35) (nm := ⟨#[42, 47, 77, 79, 68]⟩) rfl n35 T35 (.fn (fun l => r35 (gA l 0) (gA l 1) (gA l 2)) (fun l e h => q35 (gA l 0) (gA l 1) (gA l 2) e h) (by decide) ⟨by decide, by decide, by decide⟩)
theorem n43 : nameF 43 = ⟨#[77, 65, 88]⟩ := by kernel_rfl
theorem T43 : AluS 43 (.fn 2 fun l => .ok ((fun a b : Int => ([if a < b then b else a] : List Int)) (gA l 0) (gA l 1))) :=
  aluS2 (r := fun a b => [if a < b then b else a]) (fun d dep => preG_name (nm := ⟨#[77, 65, 88]⟩) (name_of n43) (by kernel_rfl)) fn_MAX (fun a b => by simp)
theorem E43 : E 43 := E_of (op := 43) (nm := ⟨#[77, 65, 88]⟩) rfl n43 T43 (.fn (fun l => show rsOk (.ok _) from (fun a b : Int => (show ([if a < b then b else a] : List Int).length ≤ 10 from by simp)) (gA l 0) (gA l 1)) (fun l e h => absurd h ok_ne) (by decide) ⟨by decide, by decide, by decide⟩)
theorem n51 : nameF 51 = ⟨#[60, 62]⟩ := by kernel_rfl
theorem T51 : AluS 51 (.fn 2 fun l => .ok ((fun a b : Int => ([flagI (a ≠ b)] : List Int)) (gA l 0) (gA l 1))) :=
  aluS2 (r := fun a b => [flagI (a ≠ b)]) (fun d dep => preG_name (nm := ⟨#[60, 62]⟩) (name_of n51) (by kernel_rfl)) fn_ne (fun a b => by simp)
theorem E51 : E 51 := E_of (op := 51) (nm := ⟨#[60, 62]⟩) rfl n51 T51 (.fn (fun l => show rsOk (.ok _) from (fun a b : Int => (show ([flagI (a ≠ b)] : List Int).length ≤ 10 from by simp)) (gA l 0) (gA l 1)) (fun l e h => absurd h ok_ne) (by decide) ⟨by decide, by decide, by decide⟩)
theorem n59 : nameF 59 = ⟨#[87, 73, 84, 72, 73, 78]⟩ := by kernel_rfl
theorem T59 : AluS 59 (.fn 3 fun l => .ok ((fun a b c : Int => ([fgI (decide (IntKind.u64.wrap (IntKind.i64.wrap (a - b)) < IntKind.u64.wrap (IntKind.i64.wrap (c - b))))] : List Int)) (gA l 0) (gA l 1) (gA l 2))) :=
  aluS3 (r := fun a b c => [fgI (decide (IntKind.u64.wrap (IntKind.i64.wrap (a - b)) < IntKind.u64.wrap (IntKind.i64.wrap (c - b))))]) (fun d dep => preG_name (nm := ⟨#[87, 73, 84, 72, 73, 78]⟩) (name_of n59) (by kernel_rfl)) fn_WITHIN (fun a b c => by simp)
theorem E59 : E 59 := E_of (op := 59) (nm := ⟨#[87, 73, 84, 72, 73, 78]⟩) rfl n59 T59 (.fn (fun l => show rsOk (.ok _) from (fun a b c : Int => (show ([fgI (decide (IntKind.u64.wrap (IntKind.i64.wrap (a - b)) < IntKind.u64.wrap (IntKind.i64.wrap (c - b))))] : List Int).length ≤ 10 from by simp)) (gA l 0) (gA l 1) (gA l 2)) (fun l e h => absurd h ok_ne) (by decide) ⟨by decide, by decide, by decide⟩)
theorem n67 : nameF 67 = ⟨#[70, 47]⟩ := by kernel_rfl
theorem T67 : AluS 67 (.fn 2 fun l => (fun a b : Int => (Rs.ok [(F.two 47 a b).1])) (gA l 0) (gA l 1)) :=
  aluS2c (f := 125) (u := .int .u8 47) (r := fun a b => (Rs.ok [(F.two 47 a b).1])) (fun d dep => preG_name (nm := ⟨#[70, 47]⟩) (name_of n67) (by kernel_rfl)) rfl (fun a b _ _ => box_two 47 a b) (fun a b => show List.length _ ≤ 10 by simp)
theorem E67 : E 67 := E_of (op := 67) (nm := ⟨#[70, 47]⟩) rfl n67 T67 (.fn (fun l => show List.length _ ≤ 10 by simp) (fun l e h => absurd h ok_ne) (by decide) ⟨by decide, by decide, by decide⟩)
theorem n75 : nameF 75 = ⟨#[70, 61]⟩ := by kernel_rfl
theorem T75 : AluS 75 (.fn 2 fun l => .ok ((fun a b : Int => ([fgI (F.same a b)] : List Int)) (gA l 0) (gA l 1))) :=
  aluS2 (r := fun a b => [fgI (F.same a b)]) (fun d dep => preG_name (nm := ⟨#[70, 61]⟩) (name_of n75) (by kernel_rfl)) fn_FEQ (fun a b => by simp)
theorem E75 : E 75 := E_of (op := 75) (nm := ⟨#[70, 61]⟩) rfl n75 T75 (.fn (fun l => show rsOk (.ok _) from (fun a b : Int => (show ([fgI (F.same a b)] : List Int).length ≤ 10 from by simp)) (gA l 0) (gA l 1)) (fun l e h => absurd h ok_ne) (by decide) ⟨by decide, by decide, by decide⟩)
theorem n83 : nameF 83 = ⟨#[72, 69, 82, 69]⟩ := by kernel_rfl
theorem E83 : E 83 := E_of (op := 83) (nm := ⟨#[72, 69, 82, 69]⟩) rfl n83 (aluS_none (nm := ⟨#[72, 69, 82, 69]⟩) (name_of n83) (fun d dep => by kernel_rfl)) (.none _)
theorem n91 : nameF 91 = ⟨#[62, 82]⟩ := by kernel_rfl
theorem E91 : E 91 := E_of (op := 91) (nm := ⟨#[62, 82]⟩) rfl n91 (aluS_none (nm := ⟨#[62, 82]⟩) (name_of n91) (fun d dep => by kernel_rfl)) (.none _)
theorem n99 : nameF 99 = ⟨#[69, 76, 83, 69]⟩ := by kernel_rfl
theorem E99 : E 99 := E_of (op := 99) (nm := ⟨#[69, 76, 83, 69]⟩) rfl n99 (aluS_none (nm := ⟨#[69, 76, 83, 69]⟩) (name_of n99) (fun d dep => by kernel_rfl)) (.none _)
theorem n107 : nameF 107 = ⟨#[76, 79, 79, 80]⟩ := by kernel_rfl
theorem E107 : E 107 := E_of (op := 107) (nm := ⟨#[76, 79, 79, 80]⟩) rfl n107 (aluS_none (nm := ⟨#[76, 79, 79, 80]⟩) (name_of n107) (fun d dep => by kernel_rfl)) (.none _)
theorem n115 : nameF 115 = ⟨#[67, 82, 69, 65, 84, 69]⟩ := by kernel_rfl
theorem E115 : E 115 := E_of (op := 115) (nm := ⟨#[67, 82, 69, 65, 84, 69]⟩) rfl n115 (aluS_none (nm := ⟨#[67, 82, 69, 65, 84, 69]⟩) (name_of n115) (fun d dep => by kernel_rfl)) (.none _)
theorem n123 : nameF 123 = ⟨#[93]⟩ := by kernel_rfl
theorem E123 : E 123 := E_of (op := 123) (nm := ⟨#[93]⟩) rfl n123 (aluS_none (nm := ⟨#[93]⟩) (name_of n123) (fun d dep => by kernel_rfl)) (.none _)
theorem n131 : nameF 131 = ⟨#[67, 82]⟩ := by kernel_rfl
theorem E131 : E 131 := E_of (op := 131) (nm := ⟨#[67, 82]⟩) rfl n131 (aluS_none (nm := ⟨#[67, 82]⟩) (name_of n131) (fun d dep => by kernel_rfl)) (.none _)
end Fz.D
set_option maxRecDepth 100000
namespace Fz.D
open Go
theorem n4 : nameF 4 = ⟨#[40, 48, 66, 82, 65, 78, 67, 72, 41]⟩ := by kernel_rfl
theorem E4 : E 4 := E_of (op := 4) (nm := ⟨#[40, 48, 66, 82, 65, 78, 67, 72, 41]⟩) rfl n4 (aluS_none (nm := ⟨#[40, 48, 66, 82, 65, 78, 67, 72, 41]⟩) (name_of n4) (fun d dep => by kernel_rfl)) (.none _)
theorem n12 : nameF 12 = ⟨#[67, 79, 77, 80, 73, 76, 69, 44]⟩ := by kernel_rfl
theorem E12 : E 12 := E_of (op := 12) (nm := ⟨#[67, 79, 77, 80, 73, 76, 69, 44]⟩) rfl n12 (aluS_none (nm := ⟨#[67, 79, 77, 80, 73, 76, 69, 44]⟩) (name_of n12) (fun d dep => by kernel_rfl)) (.none _)
theorem n20 : nameF 20 = ⟨#[63, 68, 85, 80]⟩ := by kernel_rfl
theorem T20 : AluS 20 (.fn 1 fun l => .ok ((fun a : Int => (if a = 0 then [0] else [a, a] : List Int)) (gA l 0))) :=
  aluS1 (r := fun a => if a = 0 then [0] else [a, a]) (fun d dep => preG_name (nm := ⟨#[63, 68, 85, 80]⟩) (name_of n20) (by kernel_rfl)) fn_QDUP (fun a => by split <;> simp)
theorem E20 : E 20 := E_of (op := 20) (nm := ⟨#[63, 68, 85, 80]⟩) rfl n20 T20 (.fn (fun l => show rsOk (.ok _) from (fun a : Int => (show (if a = 0 then [0] else [a, a] : List Int).length ≤ 10 from by split <;> simp)) (gA l 0)) (fun l e h => absurd h ok_ne) (by decide) ⟨by decide, by decide, by decide⟩)
theorem n28 : nameF 28 = ⟨#[43]⟩ := by kernel_rfl
theorem T28 : AluS 28 (.fn 2 fun l => .ok ((fun a b : Int => ([IntKind.i64.wrap (a + b)] : List Int)) (gA l 0) (gA l 1))) :=
  aluS2 (r := fun a b => [IntKind.i64.wrap (a + b)]) (fun d dep => preG_name (nm := ⟨#[43]⟩) (name_of n28) (by kernel_rfl)) fn_add (fun a b => by simp)
theorem E28 : E 28 := E_of (op := 28) (nm := ⟨#[43]⟩) rfl n28 T28 (.fn (fun l => show rsOk (.ok _) from (fun a b : Int => (show ([IntKind.i64.wrap (a + b)] : List Int).length ≤ 10 from by simp)) (gA l 0) (gA l 1)) (fun l e h => absurd h ok_ne) (by decide) ⟨by decide, by decide, by decide⟩)
theorem n36 : nameF 36 = ⟨#[49, 43]⟩ := by kernel_rfl
theorem T36 : AluS 36 (.fn 1 fun l => .ok ((fun a : Int => (outI 89 [.int .i64 a] : List Int)) (gA l 0))) :=
  aluS1 (r := fun a => outI 89 [.int .i64 a]) (fun d dep => preG_name (nm := ⟨#[49, 43]⟩) (name_of n36) (by kernel_rfl)) fn_inc (fun a => by rw [fl_inc]; decide)
theorem E36 : E 36 := E_of (op := 36) (nm := ⟨#[49, 43]⟩) rfl n36 T36 (.fn (fun l => show rsOk (.ok _) from (fun a : Int => (show (outI 89 [.int .i64 a] : List Int).length ≤ 10 from by rw [fl_inc]; decide)) (gA l 0)) (fun l e h => absurd h ok_ne) (by decide) ⟨by decide, by decide, by decide⟩)
theorem n44 : nameF 44 = ⟨#[65, 78, 68]⟩ := by kernel_rfl
theorem T44 : AluS 44 (.fn 2 fun l => .ok ((fun a b : Int => ([andI a b] : List Int)) (gA l 0) (gA l 1))) :=
  aluS2 (r := fun a b => [andI a b]) (fun d dep => preG_name (nm := ⟨#[65, 78, 68]⟩) (name_of n44) (by kernel_rfl)) fn_AND (fun a b => by simp)
theorem E44 : E 44 := E_of (op := 44) (nm := ⟨#[65, 78, 68]⟩) rfl n44 T44 (.fn (fun l => show rsOk (.ok _) from (fun a b : Int => (show ([andI a b] : List Int).length ≤ 10 from by simp)) (gA l 0) (gA l 1)) (fun l e h => absurd h ok_ne) (by decide) ⟨by decide, by decide, by decide⟩)
theorem n52 : nameF 52 = ⟨#[60]⟩ := by kernel_rfl
theorem T52 : AluS 52 (.fn 2 fun l => .ok ((fun a b : Int => ([flagI (a < b)] : List Int)) (gA l 0) (gA l 1))) :=
  aluS2 (r := fun a b => [flagI (a < b)]) (fun d dep => preG_name (nm := ⟨#[60]⟩) (name_of n52) (by kernel_rfl)) fn_lt (fun a b => by simp)
theorem E52 : E 52 := E_of (op := 52) (nm := ⟨#[60]⟩) rfl n52 T52 (.fn (fun l => show rsOk (.ok _) from (fun a b : Int => (show ([flagI (a < b)] : List Int).length ≤ 10 from by simp)) (gA l 0) (gA l 1)) (fun l e h => absurd h ok_ne) (by decide) ⟨by decide, by decide, by decide⟩)
theorem n60 : nameF 60 = ⟨#[84, 82, 85, 69]⟩ := by kernel_rfl
theorem E60 : E 60 := E_of (op := 60) (nm := ⟨#[84, 82, 85, 69]⟩) rfl n60 (const_W (n := -1) (f := 79) (.inl ⟨rfl, rfl⟩) (fun d dep => preG_name (nm := ⟨#[84, 82, 85, 69]⟩) (name_of n60) (by kernel_rfl))) (.zero (x := -1) (fun _ => rfl) ⟨by decide, .inl (by decide)⟩)
theorem n68 : nameF 68 = ⟨#[70, 77, 73, 78]⟩ := by kernel_rfl
theorem T68 : AluS 68 (.fn 2 fun l => (fun a b : Int => (Rs.ok [(F.two 109 a b).1])) (gA l 0) (gA l 1)) :=
  aluS2c (f := 125) (u := .int .u8 109) (r := fun a b => (Rs.ok [(F.two 109 a b).1])) (fun d dep => preG_name (nm := ⟨#[70, 77, 73, 78]⟩) (name_of n68) (by kernel_rfl)) rfl (fun a b _ _ => box_two 109 a b) (fun a b => show List.length _ ≤ 10 by simp)
theorem E68 : E 68 := E_of (op := 68) (nm := ⟨#[70, 77, 73, 78]⟩) rfl n68 T68 (.fn (fun l => show List.length _ ≤ 10 by simp) (fun l e h => absurd h ok_ne) (by decide) ⟨by decide, by decide, by decide⟩)
theorem n76 : nameF 76 = ⟨#[83, 62, 70]⟩ := by kernel_rfl
theorem T76 : AluS 76 (.fn 1 fun l => .ok ((fun a : Int => ([F.put a] : List Int)) (gA l 0))) :=
  aluS1 (r := fun a => [F.put a]) (fun d dep => preG_name (nm := ⟨#[83, 62, 70]⟩) (name_of n76) (by kernel_rfl)) fn_STOF (fun a => by simp)
theorem E76 : E 76 := E_of (op := 76) (nm := ⟨#[83, 62, 70]⟩) rfl n76 T76 (.fn (fun l => show rsOk (.ok _) from (fun a : Int => (show ([F.put a] : List Int).length ≤ 10 from by simp)) (gA l 0)) (fun l e h => absurd h ok_ne) (by decide) ⟨by decide, by decide, by decide⟩)
theorem n84 : nameF 84 = ⟨#[65, 76, 76, 79, 84]⟩ := by kernel_rfl
theorem E84 : E 84 := E_of (op := 84) (nm := ⟨#[65, 76, 76, 79, 84]⟩) rfl n84 (aluS_none (nm := ⟨#[65, 76, 76, 79, 84]⟩) (name_of n84) (fun d dep => by kernel_rfl)) (.none _)
theorem n92 : nameF 92 = ⟨#[82, 62]⟩ := by kernel_rfl
theorem E92 : E 92 := E_of (op := 92) (nm := ⟨#[82, 62]⟩) rfl n92 (aluS_none (nm := ⟨#[82, 62]⟩) (name_of n92) (fun d dep => by kernel_rfl)) (.none _)
theorem n100 : nameF 100 = ⟨#[84, 72, 69, 78]⟩ := by kernel_rfl
theorem E100 : E 100 := E_of (op := 100) (nm := ⟨#[84, 72, 69, 78]⟩) rfl n100 (aluS_none (nm := ⟨#[84, 72, 69, 78]⟩) (name_of n100) (fun d dep => by kernel_rfl)) (.none _)
theorem n108 : nameF 108 = ⟨#[43, 76, 79, 79, 80]⟩ := by kernel_rfl
theorem E108 : E 108 := E_of (op := 108) (nm := ⟨#[43, 76, 79, 79, 80]⟩) rfl n108 (aluS_none (nm := ⟨#[43, 76, 79, 79, 80]⟩) (name_of n108) (fun d dep => by kernel_rfl)) (.none _)
theorem n116 : nameF 116 = ⟨#[68, 79, 69, 83, 62]⟩ := by kernel_rfl
theorem E116 : E 116 := E_of (op := 116) (nm := ⟨#[68, 79, 69, 83, 62]⟩) rfl n116 (aluS_none (nm := ⟨#[68, 79, 69, 83, 62]⟩) (name_of n116) (fun d dep => by kernel_rfl)) (.none _)
theorem n124 : nameF 124 = ⟨#[69, 88, 69, 67, 85, 84, 69]⟩ := by kernel_rfl
theorem E124 : E 124 := E_of (op := 124) (nm := ⟨#[69, 88, 69, 67, 85, 84, 69]⟩) rfl n124 (aluS_none (nm := ⟨#[69, 88, 69, 67, 85, 84, 69]⟩) (name_of n124) (fun d dep => by kernel_rfl)) (.none _)
theorem n132 : nameF 132 = ⟨#[83, 80, 65, 67, 69]⟩ := by kernel_rfl
theorem E132 : E 132 := E_of (op := 132) (nm := ⟨#[83, 80, 65, 67, 69]⟩) rfl n132 (aluS_none (nm := ⟨#[83, 80, 65, 67, 69]⟩) (name_of n132) (fun d dep => by kernel_rfl)) (.none _)
end Fz.D
set_option maxRecDepth 100000
namespace Fz.D
open Go
theorem n5 : nameF 5 = ⟨#[40, 68, 79, 41]⟩ := by kernel_rfl
theorem E5 : E 5 := E_of (op := 5) (nm := ⟨#[40, 68, 79, 41]⟩) rfl n5 (aluS_none (nm := ⟨#[40, 68, 79, 41]⟩) (name_of n5) (fun d dep => by kernel_rfl)) (.none _)
theorem n13 : nameF 13 = ⟨#[68, 85, 80]⟩ := by kernel_rfl
theorem T13 : AluS 13 (.fn 1 fun l => .ok ((fun a : Int => ([a, a] : List Int)) (gA l 0))) :=
  aluS1 (r := fun a => [a, a]) (fun d dep => preG_name (nm := ⟨#[68, 85, 80]⟩) (name_of n13) (by kernel_rfl)) fn_DUP (fun a => by simp)
theorem E13 : E 13 := E_of (op := 13) (nm := ⟨#[68, 85, 80]⟩) rfl n13 T13 (.fn (fun l => show rsOk (.ok _) from (fun a : Int => (show ([a, a] : List Int).length ≤ 10 from by simp)) (gA l 0)) (fun l e h => absurd h ok_ne) (by decide) ⟨by decide, by decide, by decide⟩)
theorem n21 : nameF 21 = ⟨#[50, 68, 85, 80]⟩ := by kernel_rfl
theorem T21 : AluS 21 (.fn 2 fun l => .ok ((fun a b : Int => ([a, b, a, b] : List Int)) (gA l 0) (gA l 1))) :=
  aluS2 (r := fun a b => [a, b, a, b]) (fun d dep => preG_name (nm := ⟨#[50, 68, 85, 80]⟩) (name_of n21) (by kernel_rfl)) fn_2DUP (fun a b => by simp)
theorem E21 : E 21 := E_of (op := 21) (nm := ⟨#[50, 68, 85, 80]⟩) rfl n21 T21 (.fn (fun l => show rsOk (.ok _) from (fun a b : Int => (show ([a, b, a, b] : List Int).length ≤ 10 from by simp)) (gA l 0) (gA l 1)) (fun l e h => absurd h ok_ne) (by decide) ⟨by decide, by decide, by decide⟩)
theorem n29 : nameF 29 = ⟨#[45]⟩ := by kernel_rfl
theorem T29 : AluS 29 (.fn 2 fun l => .ok ((fun a b : Int => ([IntKind.i64.wrap (a - b)] : List Int)) (gA l 0) (gA l 1))) :=
  aluS2 (r := fun a b => [IntKind.i64.wrap (a - b)]) (fun d dep => preG_name (nm := ⟨#[45]⟩) (name_of n29) (by kernel_rfl)) fn_sub (fun a b => by simp)
theorem E29 : E 29 := E_of (op := 29) (nm := ⟨#[45]⟩) rfl n29 T29 (.fn (fun l => show rsOk (.ok _) from (fun a b : Int => (show ([IntKind.i64.wrap (a - b)] : List Int).length ≤ 10 from by simp)) (gA l 0) (gA l 1)) (fun l e h => absurd h ok_ne) (by decide) ⟨by decide, by decide, by decide⟩)
theorem n37 : nameF 37 = ⟨#[49, 45]⟩ := by kernel_rfl
theorem T37 : AluS 37 (.fn 1 fun l => .ok ((fun a : Int => (outI 90 [.int .i64 a] : List Int)) (gA l 0))) :=
  aluS1 (r := fun a => outI 90 [.int .i64 a]) (fun d dep => preG_name (nm := ⟨#[49, 45]⟩) (name_of n37) (by kernel_rfl)) fn_dec (fun a => by rw [fl_dec]; decide)
theorem E37 : E 37 := E_of (op := 37) (nm := ⟨#[49, 45]⟩) rfl n37 T37 (.fn (fun l => show rsOk (.ok _) from (fun a : Int => (show (outI 90 [.int .i64 a] : List Int).length ≤ 10 from by rw [fl_dec]; decide)) (gA l 0)) (fun l e h => absurd h ok_ne) (by decide) ⟨by decide, by decide, by decide⟩)
theorem n45 : nameF 45 = ⟨#[79, 82]⟩ := by kernel_rfl
theorem T45 : AluS 45 (.fn 2 fun l => .ok ((fun a b : Int => ([orI a b] : List Int)) (gA l 0) (gA l 1))) :=
  aluS2 (r := fun a b => [orI a b]) (fun d dep => preG_name (nm := ⟨#[79, 82]⟩) (name_of n45) (by kernel_rfl)) fn_OR (fun a b => by simp)
theorem E45 : E 45 := E_of (op := 45) (nm := ⟨#[79, 82]⟩) rfl n45 T45 (.fn (fun l => show rsOk (.ok _) from (fun a b : Int => (show ([orI a b] : List Int).length ≤ 10 from by simp)) (gA l 0) (gA l 1)) (fun l e h => absurd h ok_ne) (by decide) ⟨by decide, by decide, by decide⟩)
theorem n53 : nameF 53 = ⟨#[62]⟩ := by kernel_rfl
theorem T53 : AluS 53 (.fn 2 fun l => .ok ((fun a b : Int => ([flagI (b < a)] : List Int)) (gA l 0) (gA l 1))) :=
  aluS2 (r := fun a b => [flagI (b < a)]) (fun d dep => preG_name (nm := ⟨#[62]⟩) (name_of n53) (by kernel_rfl)) fn_gt (fun a b => by simp)
theorem E53 : E 53 := E_of (op := 53) (nm := ⟨#[62]⟩) rfl n53 T53 (.fn (fun l => show rsOk (.ok _) from (fun a b : Int => (show ([flagI (b < a)] : List Int).length ≤ 10 from by simp)) (gA l 0) (gA l 1)) (fun l e h => absurd h ok_ne) (by decide) ⟨by decide, by decide, by decide⟩)
theorem n61 : nameF 61 = ⟨#[70, 65, 76, 83, 69]⟩ := by kernel_rfl
theorem E61 : E 61 := E_of (op := 61) (nm := ⟨#[70, 65, 76, 83, 69]⟩) rfl n61 (const_W (n := 0) (f := 80) (.inr ⟨rfl, rfl⟩) (fun d dep => preG_name (nm := ⟨#[70, 65, 76, 83, 69]⟩) (name_of n61) (by kernel_rfl))) (.zero (x := 0) (fun _ => rfl) ⟨by decide, .inr ⟨by decide, by decide⟩⟩)
theorem n69 : nameF 69 = ⟨#[70, 77, 65, 88]⟩ := by kernel_rfl
theorem T69 : AluS 69 (.fn 2 fun l => (fun a b : Int => (Rs.ok [(F.two 77 a b).1])) (gA l 0) (gA l 1)) :=
  aluS2c (f := 125) (u := .int .u8 77) (r := fun a b => (Rs.ok [(F.two 77 a b).1])) (fun d dep => preG_name (nm := ⟨#[70, 77, 65, 88]⟩) (name_of n69) (by kernel_rfl)) rfl (fun a b _ _ => box_two 77 a b) (fun a b => show List.length _ ≤ 10 by simp)
theorem E69 : E 69 := E_of (op := 69) (nm := ⟨#[70, 77, 65, 88]⟩) rfl n69 T69 (.fn (fun l => show List.length _ ≤ 10 by simp) (fun l e h => absurd h ok_ne) (by decide) ⟨by decide, by decide, by decide⟩)
theorem n77 : nameF 77 = ⟨#[70, 62, 83]⟩ := by kernel_rfl
theorem T77 : AluS 77 (.fn 1 fun a => ftosF (gA a 0)) := aluS_FTOS (fun d dep => preG_name (nm := ⟨#[70, 62, 83]⟩) (name_of n77) (by kernel_rfl))
theorem E77 : E 77 := E_of (op := 77) (nm := ⟨#[70, 62, 83]⟩) rfl n77 T77 (.fn (fun l => by unfold ftosF; split; (show List.length _ ≤ 10; simp); trivial) (fun l e h => by unfold ftosF at h; split at h; cases h; (cases h; exact .inr rfl)) (by decide) ⟨by decide, by decide, by decide⟩)
theorem n85 : nameF 85 = ⟨#[44]⟩ := by kernel_rfl
theorem E85 : E 85 := E_of (op := 85) (nm := ⟨#[44]⟩) rfl n85 (aluS_none (nm := ⟨#[44]⟩) (name_of n85) (fun d dep => by kernel_rfl)) (.none _)
theorem n93 : nameF 93 = ⟨#[82, 64]⟩ := by kernel_rfl
theorem E93 : E 93 := E_of (op := 93) (nm := ⟨#[82, 64]⟩) rfl n93 (aluS_none (nm := ⟨#[82, 64]⟩) (name_of n93) (fun d dep => by kernel_rfl)) (.none _)
theorem n101 : nameF 101 = ⟨#[66, 69, 71, 73, 78]⟩ := by kernel_rfl
theorem E101 : E 101 := E_of (op := 101) (nm := ⟨#[66, 69, 71, 73, 78]⟩) rfl n101 (aluS_none (nm := ⟨#[66, 69, 71, 73, 78]⟩) (name_of n101) (fun d dep => by kernel_rfl)) (.none _)
theorem n109 : nameF 109 = ⟨#[82, 69, 67, 85, 82, 83, 69]⟩ := by kernel_rfl
theorem E109 : E 109 := E_of (op := 109) (nm := ⟨#[82, 69, 67, 85, 82, 83, 69]⟩) rfl n109 (aluS_none (nm := ⟨#[82, 69, 67, 85, 82, 83, 69]⟩) (name_of n109) (fun d dep => by kernel_rfl)) (.none _)
theorem n117 : nameF 117 = ⟨#[77, 65, 82, 75, 69, 82]⟩ := by kernel_rfl
theorem E117 : E 117 := E_of (op := 117) (nm := ⟨#[77, 65, 82, 75, 69, 82]⟩) rfl n117 (aluS_none (nm := ⟨#[77, 65, 82, 75, 69, 82]⟩) (name_of n117) (fun d dep => by kernel_rfl)) (.none _)
theorem n125 : nameF 125 = ⟨#[67, 72, 65, 82]⟩ := by kernel_rfl
theorem E125 : E 125 := E_of (op := 125) (nm := ⟨#[67, 72, 65, 82]⟩) rfl n125 (aluS_none (nm := ⟨#[67, 72, 65, 82]⟩) (name_of n125) (fun d dep => by kernel_rfl)) (.none _)
theorem n133 : nameF 133 = ⟨#[46]⟩ := by kernel_rfl
theorem E133 : E 133 := E_of (op := 133) (nm := ⟨#[46]⟩) rfl n133 (aluS_none (nm := ⟨#[46]⟩) (name_of n133) (fun d dep => by kernel_rfl)) (.none _)
end Fz.D
set_option maxRecDepth 100000
namespace Fz.D
open Go
theorem n6 : nameF 6 = ⟨#[40, 76, 79, 79, 80, 41]⟩ := by kernel_rfl
theorem E6 : E 6 := E_of (op := 6) (nm := ⟨#[40, 76, 79, 79, 80, 41]⟩) rfl n6 (aluS_none (nm := ⟨#[40, 76, 79, 79, 80, 41]⟩) (name_of n6) (fun d dep => by kernel_rfl)) (.none _)
theorem n14 : nameF 14 = ⟨#[68, 82, 79, 80]⟩ := by kernel_rfl
theorem T14 : AluS 14 (.fn 1 fun l => .ok ((fun a : Int => ([] : List Int)) (gA l 0))) :=
  aluS1 (r := fun a => []) (fun d dep => preG_name (nm := ⟨#[68, 82, 79, 80]⟩) (name_of n14) (by kernel_rfl)) fn_DROP (fun a => by simp)
theorem E14 : E 14 := E_of (op := 14) (nm := ⟨#[68, 82, 79, 80]⟩) rfl n14 T14 (.fn (fun l => show rsOk (.ok _) from (fun a : Int => (show ([] : List Int).length ≤ 10 from by simp)) (gA l 0)) (fun l e h => absurd h ok_ne) (by decide) ⟨by decide, by decide, by decide⟩)
theorem n22 : nameF 22 = ⟨#[50, 68, 82, 79, 80]⟩ := by kernel_rfl
theorem T22 : AluS 22 (.fn 2 fun l => .ok ((fun a b : Int => ([] : List Int)) (gA l 0) (gA l 1))) :=
  aluS2 (r := fun a b => []) (fun d dep => preG_name (nm := ⟨#[50, 68, 82, 79, 80]⟩) (name_of n22) (by kernel_rfl)) fn_2DROP (fun a b => by simp)
theorem E22 : E 22 := E_of (op := 22) (nm := ⟨#[50, 68, 82, 79, 80]⟩) rfl n22 T22 (.fn (fun l => show rsOk (.ok _) from (fun a b : Int => (show ([] : List Int).length ≤ 10 from by simp)) (gA l 0) (gA l 1)) (fun l e h => absurd h ok_ne) (by decide) ⟨by decide, by decide, by decide⟩)
theorem n30 : nameF 30 = ⟨#[42]⟩ := by kernel_rfl
theorem T30 : AluS 30 (.fn 2 fun l => .ok ((fun a b : Int => (outI 83 [.int .i64 a, .int .i64 b] : List Int)) (gA l 0) (gA l 1))) :=
  aluS2 (r := fun a b => outI 83 [.int .i64 a, .int .i64 b]) (fun d dep => preG_name (nm := ⟨#[42]⟩) (name_of n30) (by kernel_rfl)) fn_mul (fun a b => by rw [fl_mul]; decide)
theorem E30 : E 30 := E_of (op := 30) (nm := ⟨#[42]⟩) rfl n30 T30 (.fn (fun l => show rsOk (.ok _) from (fun a b : Int => (show (outI 83 [.int .i64 a, .int .i64 b] : List Int).length ≤ 10 from by rw [fl_mul]; decide)) (gA l 0) (gA l 1)) (fun l e h => absurd h ok_ne) (by decide) ⟨by decide, by decide, by decide⟩)
theorem n38 : nameF 38 = ⟨#[50, 42]⟩ := by kernel_rfl
theorem T38 : AluS 38 (.fn 1 fun l => .ok ((fun a : Int => (outI 91 [.int .i64 a] : List Int)) (gA l 0))) :=
  aluS1 (r := fun a => outI 91 [.int .i64 a]) (fun d dep => preG_name (nm := ⟨#[50, 42]⟩) (name_of n38) (by kernel_rfl)) fn_dbl (fun a => by rw [fl_dbl]; decide)
theorem E38 : E 38 := E_of (op := 38) (nm := ⟨#[50, 42]⟩) rfl n38 T38 (.fn (fun l => show rsOk (.ok _) from (fun a : Int => (show (outI 91 [.int .i64 a] : List Int).length ≤ 10 from by rw [fl_dbl]; decide)) (gA l 0)) (fun l e h => absurd h ok_ne) (by decide) ⟨by decide, by decide, by decide⟩)
theorem n46 : nameF 46 = ⟨#[88, 79, 82]⟩ := by kernel_rfl
theorem T46 : AluS 46 (.fn 2 fun l => .ok ((fun a b : Int => ([xorI a b] : List Int)) (gA l 0) (gA l 1))) :=
  aluS2 (r := fun a b => [xorI a b]) (fun d dep => preG_name (nm := ⟨#[88, 79, 82]⟩) (name_of n46) (by kernel_rfl)) fn_XOR (fun a b => by simp)
theorem E46 : E 46 := E_of (op := 46) (nm := ⟨#[88, 79, 82]⟩) rfl n46 T46 (.fn (fun l => show rsOk (.ok _) from (fun a b : Int => (show ([xorI a b] : List Int).length ≤ 10 from by simp)) (gA l 0) (gA l 1)) (fun l e h => absurd h ok_ne) (by decide) ⟨by decide, by decide, by decide⟩)
theorem n54 : nameF 54 = ⟨#[85, 60]⟩ := by kernel_rfl
theorem T54 : AluS 54 (.fn 2 fun l => .ok ((fun a b : Int => ([fgI (decide (IntKind.u64.wrap a < IntKind.u64.wrap b))] : List Int)) (gA l 0) (gA l 1))) :=
  aluS2 (r := fun a b => [fgI (decide (IntKind.u64.wrap a < IntKind.u64.wrap b))]) (fun d dep => preG_name (nm := ⟨#[85, 60]⟩) (name_of n54) (by kernel_rfl)) fn_ULT (fun a b => by simp)
theorem E54 : E 54 := E_of (op := 54) (nm := ⟨#[85, 60]⟩) rfl n54 T54 (.fn (fun l => show rsOk (.ok _) from (fun a b : Int => (show ([fgI (decide (IntKind.u64.wrap a < IntKind.u64.wrap b))] : List Int).length ≤ 10 from by simp)) (gA l 0) (gA l 1)) (fun l e h => absurd h ok_ne) (by decide) ⟨by decide, by decide, by decide⟩)
theorem n62 : nameF 62 = ⟨#[67, 69, 76, 76, 83]⟩ := by kernel_rfl
theorem T62 : AluS 62 (.fn 1 fun l => .ok ((fun a : Int => (outI 105 [.int .i64 a] : List Int)) (gA l 0))) :=
  aluS1 (r := fun a => outI 105 [.int .i64 a]) (fun d dep => preG_name (nm := ⟨#[67, 69, 76, 76, 83]⟩) (name_of n62) (by kernel_rfl)) fn_CELLS (fun a => by rw [fl_CELLS]; decide)
theorem E62 : E 62 := E_of (op := 62) (nm := ⟨#[67, 69, 76, 76, 83]⟩) rfl n62 T62 (.fn (fun l => show rsOk (.ok _) from (fun a : Int => (show (outI 105 [.int .i64 a] : List Int).length ≤ 10 from by rw [fl_CELLS]; decide)) (gA l 0)) (fun l e h => absurd h ok_ne) (by decide) ⟨by decide, by decide, by decide⟩)
theorem n70 : nameF 70 = ⟨#[70, 78, 69, 71, 65, 84, 69]⟩ := by kernel_rfl
theorem T70 : AluS 70 (.fn 1 fun l => (fun a : Int => (Rs.ok [(F.one 110 a).1])) (gA l 0)) :=
  aluS1c (f := 128) (u := .int .u8 110) (r := fun a => (Rs.ok [(F.one 110 a).1])) (fun d dep => preG_name (nm := ⟨#[70, 78, 69, 71, 65, 84, 69]⟩) (name_of n70) (by kernel_rfl)) rfl (fun a _ => box_lone 110 a) (fun a => show List.length _ ≤ 10 by simp)
theorem E70 : E 70 := E_of (op := 70) (nm := ⟨#[70, 78, 69, 71, 65, 84, 69]⟩) rfl n70 T70 (.fn (fun l => show List.length _ ≤ 10 by simp) (fun l e h => absurd h ok_ne) (by decide) ⟨by decide, by decide, by decide⟩)
theorem n78 : nameF 78 = ⟨#[64]⟩ := by kernel_rfl
theorem E78 : E 78 := E_of (op := 78) (nm := ⟨#[64]⟩) rfl n78 (aluS_none (nm := ⟨#[64]⟩) (name_of n78) (fun d dep => by kernel_rfl)) (.none _)
theorem n86 : nameF 86 = ⟨#[67, 44]⟩ := by kernel_rfl
theorem E86 : E 86 := E_of (op := 86) (nm := ⟨#[67, 44]⟩) rfl n86 (aluS_none (nm := ⟨#[67, 44]⟩) (name_of n86) (fun d dep => by kernel_rfl)) (.none _)
theorem n94 : nameF 94 = ⟨#[73]⟩ := by kernel_rfl
theorem E94 : E 94 := E_of (op := 94) (nm := ⟨#[73]⟩) rfl n94 (aluS_none (nm := ⟨#[73]⟩) (name_of n94) (fun d dep => by kernel_rfl)) (.none _)
theorem n102 : nameF 102 = ⟨#[65, 71, 65, 73, 78]⟩ := by kernel_rfl
theorem E102 : E 102 := E_of (op := 102) (nm := ⟨#[65, 71, 65, 73, 78]⟩) rfl n102 (aluS_none (nm := ⟨#[65, 71, 65, 73, 78]⟩) (name_of n102) (fun d dep => by kernel_rfl)) (.none _)
theorem n110 : nameF 110 = ⟨#[58]⟩ := by kernel_rfl
theorem E110 : E 110 := E_of (op := 110) (nm := ⟨#[58]⟩) rfl n110 (aluS_none (nm := ⟨#[58]⟩) (name_of n110) (fun d dep => by kernel_rfl)) (.none _)
theorem n118 : nameF 118 = ⟨#[39]⟩ := by kernel_rfl
theorem E118 : E 118 := E_of (op := 118) (nm := ⟨#[39]⟩) rfl n118 (aluS_none (nm := ⟨#[39]⟩) (name_of n118) (fun d dep => by kernel_rfl)) (.none _)
theorem n126 : nameF 126 = ⟨#[91, 67, 72, 65, 82, 93]⟩ := by kernel_rfl
theorem E126 : E 126 := E_of (op := 126) (nm := ⟨#[91, 67, 72, 65, 82, 93]⟩) rfl n126 (aluS_none (nm := ⟨#[91, 67, 72, 65, 82, 93]⟩) (name_of n126) (fun d dep => by kernel_rfl)) (.none _)
theorem n134 : nameF 134 = ⟨#[84, 89, 80, 69]⟩ := by kernel_rfl
theorem E134 : E 134 := E_of (op := 134) (nm := ⟨#[84, 89, 80, 69]⟩) rfl n134 (aluS_none (nm := ⟨#[84, 89, 80, 69]⟩) (name_of n134) (fun d dep => by kernel_rfl)) (.none _)
end Fz.D
set_option maxRecDepth 100000
namespace Fz.D
open Go
theorem n7 : nameF 7 = ⟨#[40, 43, 76, 79, 79, 80, 41]⟩ := by kernel_rfl
theorem E7 : E 7 := E_of (op := 7) (nm := ⟨#[40, 43, 76, 79, 79, 80, 41]⟩) rfl n7 (aluS_none (nm := ⟨#[40, 43, 76, 79, 79, 80, 41]⟩) (name_of n7) (fun d dep => by kernel_rfl)) (.none _)
theorem n15 : nameF 15 = ⟨#[83, 87, 65, 80]⟩ := by kernel_rfl
theorem T15 : AluS 15 (.fn 2 fun l => .ok ((fun a b : Int => ([b, a] : List Int)) (gA l 0) (gA l 1))) :=
  aluS2 (r := fun a b => [b, a]) (fun d dep => preG_name (nm := ⟨#[83, 87, 65, 80]⟩) (name_of n15) (by kernel_rfl)) fn_SWAP (fun a b => by simp)
theorem E15 : E 15 := E_of (op := 15) (nm := ⟨#[83, 87, 65, 80]⟩) rfl n15 T15 (.fn (fun l => show rsOk (.ok _) from (fun a b : Int => (show ([b, a] : List Int).length ≤ 10 from by simp)) (gA l 0) (gA l 1)) (fun l e h => absurd h ok_ne) (by decide) ⟨by decide, by decide, by decide⟩)
theorem n23 : nameF 23 = ⟨#[50, 83, 87, 65, 80]⟩ := by kernel_rfl
theorem T23 : AluS 23 (.fn 4 fun l => .ok ((fun a b c d : Int => ([c, d, a, b] : List Int)) (gA l 0) (gA l 1) (gA l 2) (gA l 3))) :=
  aluS4 (r := fun a b c d => [c, d, a, b]) (fun d dep => preG_name (nm := ⟨#[50, 83, 87, 65, 80]⟩) (name_of n23) (by kernel_rfl)) fn_2SWAP (fun a b c d => by simp)
theorem E23 : E 23 := E_of (op := 23) (nm := ⟨#[50, 83, 87, 65, 80]⟩) rfl n23 T23 (.fn (fun l => show rsOk (.ok _) from (fun a b c d : Int => (show ([c, d, a, b] : List Int).length ≤ 10 from by simp)) (gA l 0) (gA l 1) (gA l 2) (gA l 3)) (fun l e h => absurd h ok_ne) (by decide) ⟨by decide, by decide, by decide⟩)
theorem n31 : nameF 31 = ⟨#[47]⟩ := by kernel_rfl
theorem r31 (a b : Int) : rsOk (if b = 0 then Rs.thr (-10) else Rs.ok ((fun q r : Int => ([q] : List Int)) (divQ a b) (divR a b))) := by
  split
  · trivial
  · show List.length _ ≤ 10; simp
theorem q31 (a b e : Int) (h : (if b = 0 then Rs.thr (-10) else Rs.ok ((fun q r : Int => ([q] : List Int)) (divQ a b) (divR a b))) = .thr e) : e = -10 ∨ e = -11 := by
  split at h
  · cases h; exact .inl rfl
  · cases h
theorem T31 : AluS 31 (.fn 2 fun l => (fun a b : Int => (if b = 0 then Rs.thr (-10) else Rs.ok ((fun q r : Int => ([q] : List Int)) (divQ a b) (divR a b)))) (gA l 0) (gA l 1)) :=
  aluS2c (f := 170) (u := .fn (.func 85) [] []) (r := fun a b => (if b = 0 then Rs.thr (-10) else Rs.ok ((fun q r : Int => ([q] : List Int)) (divQ a b) (divR a b)))) (fun d dep => preG_name (nm := ⟨#[47]⟩) (name_of n31) (by kernel_rfl)) rfl (fun a b _ _ => box_div (w := fun q r => [q]) first_s (by decide) a b) r31
theorem E31 : E 31 := E_of (op := 31) (nm := ⟨#[47]⟩) rfl n31 T31 (.fn (fun l => r31 (gA l 0) (gA l 1)) (fun l e h => q31 (gA l 0) (gA l 1) e h) (by decide) ⟨by decide, by decide, by decide⟩)
theorem n39 : nameF 39 = ⟨#[50, 47]⟩ := by kernel_rfl
theorem T39 : AluS 39 (.fn 1 fun l => .ok ((fun a : Int => (outI 92 [.int .i64 a] : List Int)) (gA l 0))) :=
  aluS1 (r := fun a => outI 92 [.int .i64 a]) (fun d dep => preG_name (nm := ⟨#[50, 47]⟩) (name_of n39) (by kernel_rfl)) fn_hlf (fun a => by rw [fl_hlf]; decide)
theorem E39 : E 39 := E_of (op := 39) (nm := ⟨#[50, 47]⟩) rfl n39 T39 (.fn (fun l => show rsOk (.ok _) from (fun a : Int => (show (outI 92 [.int .i64 a] : List Int).length ≤ 10 from by rw [fl_hlf]; decide)) (gA l 0)) (fun l e h => absurd h ok_ne) (by decide) ⟨by decide, by decide, by decide⟩)
theorem n47 : nameF 47 = ⟨#[73, 78, 86, 69, 82, 84]⟩ := by kernel_rfl
theorem T47 : AluS 47 (.fn 1 fun l => .ok ((fun a : Int => ([invI a] : List Int)) (gA l 0))) :=
  aluS1 (r := fun a => [invI a]) (fun d dep => preG_name (nm := ⟨#[73, 78, 86, 69, 82, 84]⟩) (name_of n47) (by kernel_rfl)) fn_INVERT (fun a => by simp)
theorem E47 : E 47 := E_of (op := 47) (nm := ⟨#[73, 78, 86, 69, 82, 84]⟩) rfl n47 T47 (.fn (fun l => show rsOk (.ok _) from (fun a : Int => (show ([invI a] : List Int).length ≤ 10 from by simp)) (gA l 0)) (fun l e h => absurd h ok_ne) (by decide) ⟨by decide, by decide, by decide⟩)
theorem n55 : nameF 55 = ⟨#[48, 61]⟩ := by kernel_rfl
theorem T55 : AluS 55 (.fn 1 fun l => .ok ((fun a : Int => ([fgI (decide (a = 0))] : List Int)) (gA l 0))) :=
  aluS1 (r := fun a => [fgI (decide (a = 0))]) (fun d dep => preG_name (nm := ⟨#[48, 61]⟩) (name_of n55) (by kernel_rfl)) fn_ZEQ (fun a => by simp)
theorem E55 : E 55 := E_of (op := 55) (nm := ⟨#[48, 61]⟩) rfl n55 T55 (.fn (fun l => show rsOk (.ok _) from (fun a : Int => (show ([fgI (decide (a = 0))] : List Int).length ≤ 10 from by simp)) (gA l 0)) (fun l e h => absurd h ok_ne) (by decide) ⟨by decide, by decide, by decide⟩)
theorem n63 : nameF 63 = ⟨#[67, 69, 76, 76, 43]⟩ := by kernel_rfl
theorem T63 : AluS 63 (.fn 1 fun l => .ok ((fun a : Int => (outI 106 [.int .i64 a] : List Int)) (gA l 0))) :=
  aluS1 (r := fun a => outI 106 [.int .i64 a]) (fun d dep => preG_name (nm := ⟨#[67, 69, 76, 76, 43]⟩) (name_of n63) (by kernel_rfl)) fn_CELLP (fun a => by rw [fl_CELLP]; decide)
theorem E63 : E 63 := E_of (op := 63) (nm := ⟨#[67, 69, 76, 76, 43]⟩) rfl n63 T63 (.fn (fun l => show rsOk (.ok _) from (fun a : Int => (show (outI 106 [.int .i64 a] : List Int).length ≤ 10 from by rw [fl_CELLP]; decide)) (gA l 0)) (fun l e h => absurd h ok_ne) (by decide) ⟨by decide, by decide, by decide⟩)
theorem n71 : nameF 71 = ⟨#[70, 65, 66, 83]⟩ := by kernel_rfl
theorem T71 : AluS 71 (.fn 1 fun l => (fun a : Int => (Rs.ok [(F.one 97 a).1])) (gA l 0)) :=
  aluS1c (f := 128) (u := .int .u8 97) (r := fun a => (Rs.ok [(F.one 97 a).1])) (fun d dep => preG_name (nm := ⟨#[70, 65, 66, 83]⟩) (name_of n71) (by kernel_rfl)) rfl (fun a _ => box_lone 97 a) (fun a => show List.length _ ≤ 10 by simp)
theorem E71 : E 71 := E_of (op := 71) (nm := ⟨#[70, 65, 66, 83]⟩) rfl n71 T71 (.fn (fun l => show List.length _ ≤ 10 by simp) (fun l e h => absurd h ok_ne) (by decide) ⟨by decide, by decide, by decide⟩)
theorem n79 : nameF 79 = ⟨#[33]⟩ := by kernel_rfl
theorem E79 : E 79 := E_of (op := 79) (nm := ⟨#[33]⟩) rfl n79 (aluS_none (nm := ⟨#[33]⟩) (name_of n79) (fun d dep => by kernel_rfl)) (.none _)
theorem n87 : nameF 87 = ⟨#[65, 76, 73, 71, 78]⟩ := by kernel_rfl
theorem E87 : E 87 := E_of (op := 87) (nm := ⟨#[65, 76, 73, 71, 78]⟩) rfl n87 (aluS_none (nm := ⟨#[65, 76, 73, 71, 78]⟩) (name_of n87) (fun d dep => by kernel_rfl)) (.none _)
theorem n95 : nameF 95 = ⟨#[74]⟩ := by kernel_rfl
theorem E95 : E 95 := E_of (op := 95) (nm := ⟨#[74]⟩) rfl n95 (aluS_none (nm := ⟨#[74]⟩) (name_of n95) (fun d dep => by kernel_rfl)) (.none _)
theorem n103 : nameF 103 = ⟨#[85, 78, 84, 73, 76]⟩ := by kernel_rfl
theorem E103 : E 103 := E_of (op := 103) (nm := ⟨#[85, 78, 84, 73, 76]⟩) rfl n103 (aluS_none (nm := ⟨#[85, 78, 84, 73, 76]⟩) (name_of n103) (fun d dep => by kernel_rfl)) (.none _)
theorem n111 : nameF 111 = ⟨#[59]⟩ := by kernel_rfl
theorem E111 : E 111 := E_of (op := 111) (nm := ⟨#[59]⟩) rfl n111 (aluS_none (nm := ⟨#[59]⟩) (name_of n111) (fun d dep => by kernel_rfl)) (.none _)
theorem n119 : nameF 119 = ⟨#[91, 39, 93]⟩ := by kernel_rfl
theorem E119 : E 119 := E_of (op := 119) (nm := ⟨#[91, 39, 93]⟩) rfl n119 (aluS_none (nm := ⟨#[91, 39, 93]⟩) (name_of n119) (fun d dep => by kernel_rfl)) (.none _)
theorem n127 : nameF 127 = ⟨#[40]⟩ := by kernel_rfl
theorem E127 : E 127 := E_of (op := 127) (nm := ⟨#[40]⟩) rfl n127 (aluS_none (nm := ⟨#[40]⟩) (name_of n127) (fun d dep => by kernel_rfl)) (.none _)
theorem n135 : nameF 135 = ⟨#[75, 69, 89]⟩ := by kernel_rfl
theorem E135 : E 135 := E_of (op := 135) (nm := ⟨#[75, 69, 89]⟩) rfl n135 (aluS_none (nm := ⟨#[75, 69, 89]⟩) (name_of n135) (fun d dep => by kernel_rfl)) (.none _)
end Fz.D
set_option maxRecDepth 100000
namespace Fz.D
open Go
theorem E_zero : ∀ k : Nat, 1 ≤ k → k ≤ 0 → E k := fun k h1 h2 => absurd h1 (by omega)
theorem E_succ {n : Nat} (h : ∀ k : Nat, 1 ≤ k → k ≤ n → E k) (e : E (n + 1)) : ∀ k : Nat, 1 ≤ k → k ≤ n + 1 → E k := fun k h1 h2 => by
  by_cases hk : k = n + 1
  · subst hk; exact e
  · exact h k h1 (by omega)
theorem E_all : ∀ k : Nat, 1 ≤ k → k ≤ 137 → E k :=
  E_succ (E_succ (E_succ (E_succ (E_succ (E_succ (E_succ (E_succ (E_succ (E_succ (E_succ (E_succ (E_succ (E_succ (E_succ (E_succ (E_succ (E_succ (E_succ (E_succ (E_succ (E_succ (E_succ (E_succ (E_succ (E_succ (E_succ (E_succ (E_succ (E_succ (E_succ (E_succ (E_succ (E_succ (E_succ (E_succ (E_succ (E_succ (E_succ (E_succ (E_succ (E_succ (E_succ (E_succ (E_succ (E_succ (E_succ (E_succ (E_succ (E_succ (E_succ (E_succ (E_succ (E_succ (E_succ (E_succ (E_succ (E_succ (E_succ (E_succ (E_succ (E_succ (E_succ (E_succ (E_succ (E_succ (E_succ (E_succ (E_succ (E_succ (E_succ (E_succ (E_succ (E_succ (E_succ (E_succ (E_succ (E_succ (E_succ (E_succ (E_succ (E_succ (E_succ (E_succ (E_succ (E_succ (E_succ (E_succ (E_succ (E_succ (E_succ (E_succ (E_succ (E_succ (E_succ (E_succ (E_succ (E_succ (E_succ (E_succ (E_succ (E_succ (E_succ (E_succ (E_succ (E_succ (E_succ (E_succ (E_succ (E_succ (E_succ (E_succ (E_succ (E_succ (E_succ (E_succ (E_succ (E_succ (E_succ (E_succ (E_succ (E_succ (E_succ (E_succ (E_succ (E_succ (E_succ (E_succ (E_succ (E_succ (E_succ (E_succ (E_succ (E_succ (E_succ (E_succ (E_succ (E_zero) E1) E2) E3) E4) E5) E6) E7) E8) E9) E10) E11) E12) E13) E14) E15) E16) E17) E18) E19) E20) E21) E22) E23) E24) E25) E26) E27) E28) E29) E30) E31) E32) E33) E34) E35) E36) E37) E38) E39) E40) E41) E42) E43) E44) E45) E46) E47) E48) E49) E50) E51) E52) E53) E54) E55) E56) E57) E58) E59) E60) E61) E62) E63) E64) E65) E66) E67) E68) E69) E70) E71) E72) E73) E74) E75) E76) E77) E78) E79) E80) E81) E82) E83) E84) E85) E86) E87) E88) E89) E90) E91) E92) E93) E94) E95) E96) E97) E98) E99) E100) E101) E102) E103) E104) E105) E106) E107) E108) E109) E110) E111) E112) E113) E114) E115) E116) E117) E118) E119) E120) E121) E122) E123) E124) E125) E126) E127) E128) E129) E130) E131) E132) E133) E134) E135) E136) E137
theorem alu_byte {op : Int} : ∃ w, AluS op w ∧ Gd (nameF op) w := by
  by_cases h : 1 ≤ op ∧ op ≤ 137
  · obtain ⟨k, rfl⟩ : ∃ k : Nat, op = k := ⟨op.toNat, by omega⟩
    exact E_all k (by omega) (by omega)
  · have hn : nameF op = ⟨#[]⟩ := by unfold nameF; rw [if_neg h]
    exact ⟨.none, aluS_none (nm := ⟨#[]⟩) (name_of hn) (fun d dep => by kernel_rfl), .none _⟩
end Fz.D
set_option maxRecDepth 100000
namespace Fz.D
open Go
def spec0 (nm : ByteArray) : Bool := decide (nm = nDEPTH) || (decide (nm = nTRUE) || decide (nm = nFALSE))
end Fz.D
set_option maxRecDepth 100000
namespace Fz.D
open Go
theorem gd_fn {nm : ByteArray} {w : AW} (hg : Gd nm w) (e1 : ¬ nm = nPICK) (e2 : ¬ nm = nROLL) (e3 : ¬ nm = nDEPTH) : w = .none ∨ ∃ n f, w = .fn n f ∧ (∀ a, rsOk (f a)) ∧ (∀ a e, f a = .thr e → e = -10 ∨ e = -11) := by
  cases hg with
  | none => exact .inl rfl
  | @fn _ n f h1 h2 hn h3 => exact .inr ⟨n, f, rfl, h1, h2⟩
  | @zero _ f x h1 h3 => exact .inr ⟨0, f, rfl, fun a => by rw [h1]; show List.length _ ≤ 10; simp, fun a e h => by rw [h1] at h; exact (ok_ne h).elim⟩
  | depth => exact absurd rfl e3
  | pick => exact absurd rfl e1
  | roll => exact absurd rfl e2
theorem resV_any (r : Rs) (d : Int) : ∃ x e, resV (some r) d = .tuple [inV x, .int .i64 e, .bool true] := by
  cases r with
  | thr e => exact ⟨[], e, rfl⟩
  | ok x =>
    by_cases h : (x.length : Int) ≤ d
    · exact ⟨x, 0, by show (if _ then _ else _) = _; rw [if_pos h]⟩
    · exact ⟨[], -3, by show (if _ then _ else _) = _; rw [if_neg h]⟩
theorem outc {nm : ByteArray} {w : AW} (hg : Gd nm w) (e1 : ¬ nm = nPICK) (e2 : ¬ nm = nROLL) (e3 : ¬ nm = nDEPTH) {l m : List Int} (hl : l.length ≤ 40) (hm : m.length ≤ 40) :
    (resV (aluR w l) 1000 = .tuple [inV [], .int .i64 0, .bool false] ∧ resV (aluR w (m ++ l)) 1000 = .tuple [inV [], .int .i64 0, .bool false]) ∨
    (∃ x e, resV (aluR w l) 1000 = .tuple [inV [], .int .i64 (-4), .bool true] ∧ resV (aluR w (m ++ l)) 1000 = .tuple [inV x, .int .i64 e, .bool true]) ∨
    (∃ e, ¬ e = 0 ∧ resV (aluR w l) 1000 = .tuple [inV [], .int .i64 e, .bool true] ∧ resV (aluR w (m ++ l)) 1000 = .tuple [inV [], .int .i64 e, .bool true]) ∨
    (∃ y : List Int, y.length ≤ 100 ∧ resV (aluR w l) 1000 = .tuple [inV y, .int .i64 0, .bool true] ∧ resV (aluR w (m ++ l)) 1000 = .tuple [inV (m ++ y), .int .i64 0, .bool true]) := by
  rcases gd_fn hg e1 e2 e3 with rfl | ⟨n, f, rfl, h1, h2⟩
  · exact .inl ⟨rfl, rfl⟩
  · by_cases hn : l.length < n
    · obtain ⟨x, e, h⟩ := resV_any (if (m ++ l).length < n then .thr (-4) else match f ((m ++ l).drop ((m ++ l).length - n)) with | .ok r => .ok ((m ++ l).take ((m ++ l).length - n) ++ r) | .thr e => .thr e) 1000
      refine .inr (.inl ⟨x, e, ?_, h⟩)
      show resV (some (if l.length < n then .thr (-4) else _)) 1000 = _
      rw [if_pos hn]
      rfl
    · have d1 : (m ++ l).drop ((m ++ l).length - n) = l.drop (l.length - n) := by
        rw [List.length_append, show m.length + l.length - n = m.length + (l.length - n) from by omega, List.drop_append, List.drop_of_length_le (by omega), List.nil_append]
        first | done | (congr 1 <;> omega)
      have d2 : (m ++ l).take ((m ++ l).length - n) = m ++ l.take (l.length - n) := by
        rw [List.length_append, show m.length + l.length - n = m.length + (l.length - n) from by omega, List.take_append, List.take_of_length_le (by omega)]
        first | done | (congr 2 <;> omega)
      have r1 : aluR (.fn n f) l = some (match f (l.drop (l.length - n)) with | .ok r => .ok (l.take (l.length - n) ++ r) | .thr e => .thr e) := by
        show some (if l.length < n then Rs.thr (-4) else _) = _
        rw [if_neg hn]
        first | done | rfl
      have r2 : aluR (.fn n f) (m ++ l) = some (match f (l.drop (l.length - n)) with | .ok r => .ok (m ++ l.take (l.length - n) ++ r) | .thr e => .thr e) := by
        show some (if (m ++ l).length < n then Rs.thr (-4) else _) = _
        rw [if_neg (by simp; omega), d1, d2]
        first | done | rfl
      rw [r1, r2]
      have hr := h1 (l.drop (l.length - n))
      have he := h2 (l.drop (l.length - n))
      cases hf : f (l.drop (l.length - n)) with
      | thr e =>
        have := he e hf
        exact .inr (.inr (.inl ⟨e, by omega, rfl, rfl⟩))
      | ok r =>
        rw [hf] at hr
        have hr : r.length ≤ 10 := hr
        refine .inr (.inr (.inr ⟨l.take (l.length - n) ++ r, by simp; omega, ?_, ?_⟩))
        · show (if ((l.take (l.length - n) ++ r).length : Int) ≤ 1000 then _ else _) = _
          rw [if_pos (by simp; omega)]
        · show (if ((m ++ l.take (l.length - n) ++ r).length : Int) ≤ 1000 then _ else _) = _
          rw [if_pos (by simp; omega), List.append_assoc]
theorem lawBelow {op : Int} {l m : List Int} (h0 : 0 ≤ op ∧ op < 256) (h8 : ∀ n ∈ l, i64 n) (h9 : ∀ n ∈ m, i64 n) : Comes p 4 [.int .u8 op, inV l, inV m] (.bool true) := by
  have a := awake09_s
  have wop : IntKind.i64.wrap op = op := Fz.w64 (by omega) (by omega)
  obtain ⟨w, hw, hg⟩ := alu_byte (op := op)
  have hn := name_s op
  generalize nameF op = nm at *
  refine Comes_of w4 rfl rfl k4 ?_ ?_ ?_ ?_
  · simp
  · simp
  · simp
  · by_cases c1 : (40 : Int) < l.length
    · simp -dsimp [w4, wFix_by, isInl, call_by a, c1]
    · by_cases c2 : (40 : Int) < m.length
      · simp -dsimp [w4, wFix_by, isInl, call_by a, c1, c2]
      · by_cases e1 : nm = (⟨#[80, 73, 67, 75]⟩ : ByteArray)
        · simp -dsimp [w4, wFix_by, isInl, call_by a, c1, c2, wop, call_by hn, eq_true e1]
        · by_cases e2 : nm = (⟨#[82, 79, 76, 76]⟩ : ByteArray)
          · simp -dsimp [w4, wFix_by, isInl, call_by a, c1, c2, wop, call_by hn, eq_false e1, eq_true e2]
          · by_cases e3 : nm = (⟨#[68, 69, 80, 84, 72]⟩ : ByteArray)
            · simp -dsimp [w4, wFix_by, isInl, call_by a, c1, c2, wop, call_by hn, eq_false e1, eq_false e2, eq_true e3]
            · have A := hw l 1000 (by omega) h8
              have B := hw (m ++ l) 1000 (by simp; omega) (fun n hn => (List.mem_append.1 hn).elim (h9 n) (h8 n))
              have calls : ∀ {v2 : V} {v : V} {J : List Ob} {Q : CR → List Ob → Prop}, Comes p 14 [.int .i64 op, inV (m ++ l), .int .i64 1000] v2 → Ac 1 0 J v ((m ++ l).map (V.int .i64)) → (∀ H', Q (.ret v2) H') → xCall p 14 [.int .i64 op, v, .int .i64 1000] J Q := by
                intro v2 v J Q B ha hq
                refine call_frz rfl ?_
                rw [frzL_cons, frz_gk (by simp), frzL_cons]
                refine frz_acgQ 0 (n := 1) (l := (m ++ l).map (V.int .i64)) (k := 11) (by rw [List.drop_zero]; exact ha) (by simp) (.inl ⟨rfl, by simp⟩) fun H' _ _ => ?_
                rw [frzL_cons, frz_gk (by simp), frzL_nil]
                refine Eq.mpr (callN_by (show Comes p 14 [nrm (.int .i64 op), .list (((m ++ l).map (V.int .i64)).map nrm) false, nrm (.int .i64 1000)] v2 from by simpa [inV] using B)) ?_
                exact hq _
              rcases outc hg e1 e2 e3 (l := l) (m := m) (by omega) (by omega) with ⟨o1, o2⟩ | ⟨x, e, o1, o2⟩ | ⟨e, he, o1, o2⟩ | ⟨y, hy, o1, o2⟩
              · rw [o1] at A
                rw [o2] at B
                by_cases hm : m = []
                · by_cases hl : l = []
                  · subst hm hl
                    simp -dsimp [w4, call_by a, c1, c2, wop, call_by hn, eq_false e1, eq_false e2, eq_false e3, call_by A]
                    have B : Comes p 14 [.int .i64 op, inV [], .int .i64 1000] _ := B
                    rw [call_nrm (args := [.int .i64 op, .list [] true, .int .i64 1000]) rfl (by simp) (by simp [inV]) B]
                    simp -dsimp [wFix_by, isInl]
                  · subst hm
                    simp -dsimp [w4, call_by a, c1, c2, wop, call_by hn, eq_false e1, eq_false e2, eq_false e3, call_by A, hl]
                    refine ⟨by simp [capOk]; omega, ?_⟩
                    refine calls B ⟨by simp, by decide, .inr ⟨0, l.map (V.int .i64), by simp, by simp, by simp, by simp⟩⟩ fun H' => ?_
                    simp -dsimp [wFix_by, isInl]
                · by_cases hl : l = []
                  · subst hl
                    simp -dsimp [w4, call_by a, c1, c2, wop, call_by hn, eq_false e1, eq_false e2, eq_false e3, call_by A, hm]
                    refine ⟨by simp [capOk]; omega, ?_⟩
                    refine calls B ⟨by simp, by decide, .inr ⟨0, m.map (V.int .i64), by simp, by simp, by simp, by simp⟩⟩ fun H' => ?_
                    simp -dsimp [wFix_by, isInl]
                  · simp -dsimp [w4, call_by a, c1, c2, wop, call_by hn, eq_false e1, eq_false e2, eq_false e3, call_by A, hm, hl]
                    refine ⟨by simp [capOk]; omega, by simp [capOk]; omega, ?_⟩
                    refine calls B ⟨by simp, by decide, .inr ⟨1, (m ++ l).map (V.int .i64), by simp, by simp, by simp, by exact (List.take_of_length_le (by simp)).trans (by simp)⟩⟩ fun H' => ?_
                    simp -dsimp [wFix_by, isInl]
              · rw [o1] at A
                rw [o2] at B
                by_cases hm : m = []
                · by_cases hl : l = []
                  · subst hm hl
                    simp -dsimp [w4, call_by a, c1, c2, wop, call_by hn, eq_false e1, eq_false e2, eq_false e3, call_by A]
                    have B : Comes p 14 [.int .i64 op, inV [], .int .i64 1000] _ := B
                    rw [call_nrm (args := [.int .i64 op, .list [] true, .int .i64 1000]) rfl (by simp) (by simp [inV]) B]
                    simp -dsimp [wFix_by, isInl]
                  · subst hm
                    simp -dsimp [w4, call_by a, c1, c2, wop, call_by hn, eq_false e1, eq_false e2, eq_false e3, call_by A, hl]
                    refine ⟨by simp [capOk]; omega, ?_⟩
                    refine calls B ⟨by simp, by decide, .inr ⟨0, l.map (V.int .i64), by simp, by simp, by simp, by simp⟩⟩ fun H' => ?_
                    simp -dsimp [wFix_by, isInl]
                · by_cases hl : l = []
                  · subst hl
                    simp -dsimp [w4, call_by a, c1, c2, wop, call_by hn, eq_false e1, eq_false e2, eq_false e3, call_by A, hm]
                    refine ⟨by simp [capOk]; omega, ?_⟩
                    refine calls B ⟨by simp, by decide, .inr ⟨0, m.map (V.int .i64), by simp, by simp, by simp, by simp⟩⟩ fun H' => ?_
                    simp -dsimp [wFix_by, isInl]
                  · simp -dsimp [w4, call_by a, c1, c2, wop, call_by hn, eq_false e1, eq_false e2, eq_false e3, call_by A, hm, hl]
                    refine ⟨by simp [capOk]; omega, by simp [capOk]; omega, ?_⟩
                    refine calls B ⟨by simp, by decide, .inr ⟨1, (m ++ l).map (V.int .i64), by simp, by simp, by simp, by exact (List.take_of_length_le (by simp)).trans (by simp)⟩⟩ fun H' => ?_
                    simp -dsimp [wFix_by, isInl]
              · rw [o1] at A
                rw [o2] at B
                by_cases hm : m = []
                · by_cases hl : l = []
                  · subst hm hl
                    simp -dsimp [w4, call_by a, c1, c2, wop, call_by hn, eq_false e1, eq_false e2, eq_false e3, call_by A]
                    have B : Comes p 14 [.int .i64 op, inV [], .int .i64 1000] _ := B
                    rw [call_nrm (args := [.int .i64 op, .list [] true, .int .i64 1000]) rfl (by simp) (by simp [inV]) B]
                    (by_cases e4 : e = -4) <;> simp -dsimp [wFix_by, isInl, he, e4]
                  · subst hm
                    simp -dsimp [w4, call_by a, c1, c2, wop, call_by hn, eq_false e1, eq_false e2, eq_false e3, call_by A, hl]
                    refine ⟨by simp [capOk]; omega, ?_⟩
                    refine calls B ⟨by simp, by decide, .inr ⟨0, l.map (V.int .i64), by simp, by simp, by simp, by simp⟩⟩ fun H' => ?_
                    (by_cases e4 : e = -4) <;> simp -dsimp [wFix_by, isInl, he, e4]
                · by_cases hl : l = []
                  · subst hl
                    simp -dsimp [w4, call_by a, c1, c2, wop, call_by hn, eq_false e1, eq_false e2, eq_false e3, call_by A, hm]
                    refine ⟨by simp [capOk]; omega, ?_⟩
                    refine calls B ⟨by simp, by decide, .inr ⟨0, m.map (V.int .i64), by simp, by simp, by simp, by simp⟩⟩ fun H' => ?_
                    (by_cases e4 : e = -4) <;> simp -dsimp [wFix_by, isInl, he, e4]
                  · simp -dsimp [w4, call_by a, c1, c2, wop, call_by hn, eq_false e1, eq_false e2, eq_false e3, call_by A, hm, hl]
                    refine ⟨by simp [capOk]; omega, by simp [capOk]; omega, ?_⟩
                    refine calls B ⟨by simp, by decide, .inr ⟨1, (m ++ l).map (V.int .i64), by simp, by simp, by simp, by exact (List.take_of_length_le (by simp)).trans (by simp)⟩⟩ fun H' => ?_
                    (by_cases e4 : e = -4) <;> simp -dsimp [wFix_by, isInl, he, e4]
              · rw [o1] at A
                rw [o2] at B
                have w1 : IntKind.i64.wrap ((y.length : Int) + m.length) = (y.length : Int) + m.length := Fz.w64 (by omega) (by omega)
                have w2 : IntKind.i64.wrap (y.length : Int) = (y.length : Int) := Fz.w64 (by omega) (by omega)
                have w3 : (m.length : Int) + y.length = (y.length : Int) + m.length := by omega
                have sm : Comes p 16 [.list (m.map (V.int .i64)) false, inV m] (.bool true) := same04_s (l := m) (by omega)
                have sy : Comes p 16 [.list (y.map (V.int .i64)) false, inV y] (.bool true) := same04_s (l := y) (by omega)
                have sz : Comes p 16 [.list [] false, inV []] (.bool true) := same04_s (l := []) (by simp)
                have tk : List.take m.length (List.map (V.int .i64) m ++ List.map (V.int .i64) y) = List.map (V.int .i64) m := List.take_left' (by simp)
                have dr : List.drop m.length (List.map (V.int .i64) m ++ List.map (V.int .i64) y) = List.map (V.int .i64) y := List.drop_left' (by simp)
                by_cases hm : m = []
                · by_cases hl : l = []
                  · subst hm hl
                    simp -dsimp [w4, call_by a, c1, c2, wop, call_by hn, eq_false e1, eq_false e2, eq_false e3, call_by A]
                    have B : Comes p 14 [.int .i64 op, inV [], .int .i64 1000] _ := B
                    rw [call_nrm (args := [.int .i64 op, .list [] true, .int .i64 1000]) rfl (by simp) (by simp [inV]) B]
                    simp -dsimp [wFix_by, isInl, w1, w2, w3, call_by sm, call_by sy, call_by sz, tk, dr]
                  · subst hm
                    simp -dsimp [w4, call_by a, c1, c2, wop, call_by hn, eq_false e1, eq_false e2, eq_false e3, call_by A, hl]
                    refine ⟨by simp [capOk]; omega, ?_⟩
                    refine calls B ⟨by simp, by decide, .inr ⟨0, l.map (V.int .i64), by simp, by simp, by simp, by simp⟩⟩ fun H' => ?_
                    simp -dsimp [wFix_by, isInl, w1, w2, w3, call_by sm, call_by sy, call_by sz, tk, dr]
                · by_cases hl : l = []
                  · subst hl
                    simp -dsimp [w4, call_by a, c1, c2, wop, call_by hn, eq_false e1, eq_false e2, eq_false e3, call_by A, hm]
                    refine ⟨by simp [capOk]; omega, ?_⟩
                    refine calls B ⟨by simp, by decide, .inr ⟨0, m.map (V.int .i64), by simp, by simp, by simp, by simp⟩⟩ fun H' => ?_
                    simp -dsimp [wFix_by, isInl, w1, w2, w3, call_by sm, call_by sy, call_by sz, tk, dr]
                  · simp -dsimp [w4, call_by a, c1, c2, wop, call_by hn, eq_false e1, eq_false e2, eq_false e3, call_by A, hm, hl]
                    refine ⟨by simp [capOk]; omega, by simp [capOk]; omega, ?_⟩
                    refine calls B ⟨by simp, by decide, .inr ⟨1, (m ++ l).map (V.int .i64), by simp, by simp, by simp, by exact (List.take_of_length_le (by simp)).trans (by simp)⟩⟩ fun H' => ?_
                    simp -dsimp [wFix_by, isInl, w1, w2, w3, call_by sm, call_by sy, call_by sz, tk, dr]
end Fz.D
