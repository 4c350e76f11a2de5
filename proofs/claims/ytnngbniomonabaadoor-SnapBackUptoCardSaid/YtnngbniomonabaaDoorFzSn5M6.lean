import Derived.Test.YtnngbniomonabaaDoorFzSn5M5
set_option linter.all false
set_option linter.unusedVariables false
set_option linter.unusedSimpArgs false
set_option linter.unnecessarySimpa false
set_option maxRecDepth 100000
namespace Fz.D
open Go
def Acb (b : Nat) (J : List Ob) (v : V) (l : List Int) : Prop :=
  (l = [] ∧ v = .list [] true) ∨ ∃ (j : Nat) (bs : List Int), v = .own (b + j) 0 l.length 1 ∧ J[j]? = some (.live (bs.map (V.int .u8))) ∧ l.length ≤ bs.length ∧ bs.take l.length = l
theorem acb_nil {b : Nat} {J : List Ob} : Acb b J (.list [] true) [] := .inl ⟨rfl, rfl⟩
theorem acb_ac {b : Nat} {J : List Ob} {v : V} {l : List Int} (h : Acb b J v l) : Ac 1 b J v (l.map (V.int .u8)) := by
  refine ⟨by simp, by decide, ?_⟩
  rcases h with ⟨rfl, h⟩ | ⟨j, bs, rfl, h1, h2, h3⟩
  · exact .inl ⟨rfl, h⟩
  · exact .inr ⟨j, _, by simp, h1, by simpa using h2, by rw [flat_int, ← List.map_take]; simp [h3]⟩
theorem acb_ext {b : Nat} {J : List Ob} {v : V} {l : List Int} (h : Acb b J v l) (G : List Ob) : Acb b (J ++ G) v l := by
  rcases h with h | ⟨j, bs, h1, h2, h3⟩
  · exact .inl h
  · exact .inr ⟨j, bs, h1, by rw [List.getElem?_append_left (List.getElem?_eq_some_iff.1 h2).1]; exact h2, h3⟩
theorem app_acb (b : Nat) {H : List Ob} {v : V} {l m : List Int} {K : V → List Ob → Prop} (ha : Acb b (H.drop b) v l) (hb : b ≤ H.length) (hc : capOk (l.length + m.length) 1 = true)
    (hK : ∀ v' J', Acb b J' v' (l ++ m) → K v' (H.take b ++ J')) : xAppend H 1 1 v (m.map (V.int .u8)) m.length K := by
  by_cases h0 : m.length = 0
  · have hm : m = [] := List.length_eq_zero_iff.1 h0
    subst hm
    have hk := hK v (H.drop b) (by simpa using ha)
    rw [List.take_append_drop] at hk
    rcases ha with ⟨rfl, rfl⟩ | ⟨j, bs, rfl, h4, _⟩
    · rw [wAppend_list, if_pos (by rfl)]; exact hk
    · rw [wAppend_own, if_pos (by rfl)]; exact ⟨rfl, hk⟩
  · rcases ha with ⟨rfl, rfl⟩ | ⟨j, bs, rfl, h4, h5, h6⟩
    · rw [wAppend_list, if_neg h0]
      refine ⟨⟨rfl, rfl, by simp, by simpa using hc⟩, ?_⟩
      have := hK (.own H.length 0 (0 + m.length) 1) (H.drop b ++ [.live (m.map (V.int .u8))]) (.inr ⟨(H.drop b).length, m, ?_, by simp, by simp, by simp⟩)
      · rw [← List.append_assoc, List.take_append_drop] at this
        exact this
      · rw [List.length_drop, show b + (H.length - b) = H.length from by omega, List.nil_append, Nat.zero_add]
    · rw [wAppend_own, if_neg h0]
      refine ⟨rfl, ?_⟩
      rw [List.getElem?_drop] at h4
      refine ⟨bs.map (V.int .u8), h4, ⟨rfl, by simpa using h5, by simp [storable], hc⟩, ?_⟩
      have e1 : (bs.map (V.int .u8)).take (l.length * 1) = l.map (V.int .u8) := by rw [← List.map_take, Nat.mul_one, h6]
      show K _ _
      rw [e1, ← List.map_append]
      have := hK (.own H.length 0 (l.length + m.length) 1) ((H.drop b).set j .dead ++ [.live ((l ++ m).map (V.int .u8))]) (.inr ⟨(H.drop b).length, l ++ m, ?_, ?_, by simp, List.take_of_length_le (by simp)⟩)
      · rw [← List.append_assoc] at this
        have e2 : H.take b ++ (H.drop b).set j .dead = H.set (b + j) .dead := by
          conv => rhs; rw [← List.take_append_drop b H]
          rw [List.set_append_right _ _ (by rw [List.length_take]; omega), List.length_take]
          congr 2
          omega
        rw [e2] at this
        exact this
      · rw [List.length_drop, show b + (H.length - b) = H.length from by omega, List.length_append]
      · rw [List.getElem?_append_right (by simp)]; simp
theorem grow_c {n : Int} {H : List Ob} {Q : CR → List Ob → Prop} (h0 : 0 ≤ n) (h1 : n ≤ 100000000) (hq : ∀ v J, Acb H.length J v [] → Q (.ret v) (H ++ J)) : WCall p 34 [.list [] true, .int .i64 n] H Q := by
  have hr : reach H 1000 (refsL [.list [] true, .int .i64 n]) [] = some [] := rfl
  refine WCall_inl (by kernel_rfl) hr ?_
  refine WFun_of w34 rfl rfl k34 ?_
  have e0 : IntKind.i64.wrap n = n := Fz.w64 (by omega) (by omega)
  have z0 : IntKind.i64.wrap 0 = 0 := Fz.w64 (by omega) (by omega)
  have none : Q (renR (backK [] H.length) (CR.ret (V.list [] true))) (backH [] (CR.ret (V.list [] true)) [] H) := by
    have := hq (.list [] true) [] acb_nil
    simpa [renR, ren, renL, backH, crV, refs, refsL, setAll] using this
  by_cases hn : n = 0
  · subst hn
    simp -dsimp [w34, renL, ren]
    have e1 : IntKind.i64.wrap (-IntKind.i64.wrap 0) = 0 := by rw [z0]; exact z0
    rw [e1, if_neg (by omega)]
    exact none
  · have hp : 0 < n := by omega
    have hz : ¬ n < 0 := by omega
    simp -dsimp [w34, renL, ren, e0, hp, hz]
    have e1 : IntKind.i64.wrap (n - IntKind.i64.wrap 0) = n := by rw [z0, Int.sub_zero]; exact e0
    rw [e1, if_pos hp, if_neg (by omega)]
    refine ⟨⟨h0, by omega⟩, by simp [capOk]; omega, ?_⟩
    have := hq (.own H.length 0 0 1) [.live (List.replicate n.toNat (V.int .u8 0))] (.inr ⟨0, List.replicate n.toNat 0, rfl, by simp, by simp, by simp⟩)
    have e2 : renOb (backK [] H.length) (.live (List.replicate n.toNat (V.int .u8 0))) = .live (List.replicate n.toNat (V.int .u8 0)) := by
      rw [renOb, renL_eq, List.map_replicate]; rfl
    simpa [renR, ren, renL, backH, crV, refs, refsL, setAll, e2, backK] using this
theorem acb_back {b n : Nat} {g : Nat → Nat} {J : List Ob} {id len : Nat} {out : List Int} (hg : ∀ j, g (b + j) = n + j) (h : Acb b J (.own id 0 len 1) out) : Acb n (J.map (renOb g)) (.own (g id) 0 len 1) out := by
  rcases h with ⟨_, h3⟩ | ⟨j, bs, h3, h4, h5, h6⟩
  · cases h3
  · cases h3
    exact .inr ⟨j, bs, by rw [hg], by rw [List.getElem?_map, h4]; simp only [Option.map_some, renOb, ren_ints], h5, h6⟩
theorem acb_cases {b : Nat} {J : List Ob} {v : V} {l : List Int} (h : Acb b J v l) : v = .list [] true ∧ l = [] ∨ ∃ j len, v = .own (b + j) 0 len 1 ∧ len = l.length := by
  rcases h with ⟨h3, h4⟩ | ⟨j, cells, h3, _⟩
  · exact .inl ⟨h4, h3⟩
  · exact .inr ⟨j, _, h3, rfl⟩
theorem acb_val {b : Nat} {J : List Ob} {v : V} {l : List Int} (h : Acb b J v l) : cellsOf v = [v] ∧ isAny v = false ∧ storable v = true := by
  rcases h with ⟨_, rfl⟩ | ⟨j, bs, rfl, _⟩ <;> exact ⟨rfl, rfl, rfl⟩
theorem acb_shift {b n : Nat} {T J : List Ob} {v : V} {l : List Int} (h : Acb n J v l) (hn : n = b + T.length) : Acb b (T ++ J) v l := by
  rcases h with h | ⟨j, bs, h1, h2, h3⟩
  · exact .inl h
  · exact .inr ⟨T.length + j, bs, by rw [h1, hn, Nat.add_assoc], by rw [List.getElem?_append_right (by omega), Nat.add_sub_cancel_left]; exact h2, h3⟩
def El (H : List Ob) (v : V) (l : List Int) : Prop :=
  (∃ c, v = .list (l.map (V.int .u8)) c) ∨ ∃ id cells, v = .own id 0 l.length 1 ∧ H[id]? = some (.live cells) ∧ l.length ≤ cells.length ∧ cells.take l.length = l.map (V.int .u8)
theorem el_ac {b : Nat} {H : List Ob} {v : V} {l : List Int} (h : Ac 1 b (H.drop b) v (l.map (V.int .u8))) : El H v l := by
  obtain ⟨_, _, h3⟩ := h
  rcases h3 with ⟨h3, h4⟩ | ⟨j, cells, h3, h4, h5, h6⟩
  · have : l = [] := by simpa using h3
    subst this
    exact .inl ⟨true, h4⟩
  · rw [List.getElem?_drop] at h4
    rw [flat_int] at h6
    exact .inr ⟨b + j, cells, by simpa using h3, h4, by simpa using h5, by simpa using h6⟩
theorem el_get {vs : List V} {i : Nat} {v : V} {K : V → Prop} (h : vs[i]? = some v) : wGet vs i K = K v := by simp [wGet, h]
theorem wLive_is {H : List Ob} {id : Nat} {l : List V} {K : List V → Prop} (h : H[id]? = some (.live l)) : wLive H id K = K l := by
  refine propext ⟨?_, fun k => ⟨l, .inl h, k⟩⟩
  rintro ⟨l', h1, h2⟩
  rw [h] at h1
  rcases h1 with h1 | h1
  · cases h1; exact h2
  · cases h1
theorem el_acb {b : Nat} {H : List Ob} {v : V} {l : List Int} (h : Acb b (H.drop b) v l) : El H v l := el_ac (acb_ac h)
theorem concat_mix {vs : List V} {ls : List (List Int)} {c : Bool} {H0 : List Ob} (hvl : vs.length = ls.length) (hv : ∀ (i : Nat) (h : i < ls.length), ∃ v, vs[i]? = some v ∧ El H0 v ls[i]) (ht : tot ls ≤ 100000000) (hl : ls.length ≤ 1000000) {Q : CR → List Ob → Prop} (hq : ∀ v J, Acb H0.length J v (cat ls) → Q (.ret v) (H0 ++ J)) :
    WFun p 13 [.list vs c] H0 Q := by
  refine WFun_of w13 rfl rfl k13 ?_
  simp -dsimp [w13]
  refine xL_by (by kernel_rfl) (fun k e H => ∃ i : Nat, i ≤ ls.length ∧ k = ls.length - i ∧ e 0 = .list vs c ∧ e 9 = .list vs c ∧ e 10 = .int .i64 ls.length ∧ e 11 = .int .i64 i ∧ e 3 = .int .i64 (tot (ls.take i)) ∧ H = H0) ls.length ?_ ?_
  · exact ⟨0, by simp [tot, hvl]⟩
  · rintro k e H ⟨i, hi, hk, h0, h9, h10, h11, h3, hH⟩
    obtain rfl : H0 = H := hH.symm
    have t1 := tot_take ls i
    simp -dsimp [h0, h9, h10, h11, h3]
    by_cases hlt : i < ls.length
    · have t2 := tot_succ ls i hlt
      have t3 := tot_take ls (i + 1)
      have w1 : IntKind.i64.wrap (((tot (ls.take i) : Nat) : Int) + ((ls[i].length : Nat) : Int)) = ((tot (ls.take (i + 1)) : Nat) : Int) := by rw [Fz.w64 (by omega) (by omega)]; omega
      have w2 : IntKind.i64.wrap ((i : Int) + 1) = ((i + 1 : Nat) : Int) := by rw [Fz.w64 (by omega) (by omega)]; omega
      obtain ⟨v, gv, hvi⟩ := hv i hlt
      rcases hvi with ⟨c', rfl⟩ | ⟨id, cells, rfl, _⟩
      · simp -dsimp [hlt, el_get gv, w1, w2, h0, h9, h10, h11, h3, cellsOf, isAny]
        rw [if_neg (by omega)]
        refine ⟨ls.length - (i + 1), by omega, i + 1, by omega, rfl, ?_⟩
        simp -dsimp [h0, h9, h10, w2]
      · simp -dsimp [hlt, el_get gv, w1, w2, h0, h9, h10, h11, h3, cellsOf, isAny]
        rw [if_neg (by omega)]
        refine ⟨ls.length - (i + 1), by omega, i + 1, by omega, rfl, ?_⟩
        simp -dsimp [h0, h9, h10, w2]
    · have hii : i = ls.length := by omega
      subst hii
      rw [List.take_length] at h3 ⊢
      simp -dsimp [hlt]
      refine grow_c (by omega) (by omega) fun v J hac => ?_
      simp -dsimp [h0, h9, h10, h11, h3]
      refine xL_by (by kernel_rfl) (fun k e H => ∃ (i : Nat) (v : V) (J : List Ob), i ≤ ls.length ∧ k = ls.length - i ∧ e 25 = .list vs c ∧ e 26 = .int .i64 ls.length ∧ e 27 = .int .i64 i ∧ e 6 = v ∧ Acb H0.length J v (cat (ls.take i)) ∧ H = H0 ++ J) ls.length ?_ ?_
      · refine ⟨0, v, J, ?_⟩
        simp [h0, hvl]; exact hac
      · rintro k e H ⟨i, v, J, hi, hk, h25, h26, h27, h6, hac, rfl⟩
        simp -dsimp [h25, h26, h27, h6]
        by_cases hlt : i < ls.length
        · obtain ⟨x, gv, hvi⟩ := hv i hlt
          have t2 := tot_succ ls i hlt
          have t3 := tot_take ls (i + 1)
          have t4 : (cat (ls.take i)).length = tot (ls.take i) := flat_tot _
          have e1 := cat_succ ls i hlt
          have w2 : IntKind.i64.wrap ((i : Int) + 1) = ((i + 1 : Nat) : Int) := by rw [Fz.w64 (by omega) (by omega)]; omega
          rcases hvi with ⟨c', rfl⟩ | ⟨id, cells, rfl, z1, z2, z3⟩
          · simp -dsimp [-wAppend_list, hlt, el_get gv, h25, h26, h27, h6, cellsOf, isAny]
            refine app_acb H0.length (m := ls[i]) (by simpa using hac) (by simp) (by rw [t4]; simp [capOk]; omega) fun v' J' hac' => ?_
            simp -dsimp [h25, h26, h27, w2]
            refine ⟨ls.length - (i + 1), by omega, i + 1, v', J', by omega, rfl, ?_⟩
            simp -dsimp [h25, h26]
            rw [e1]
            exact hac'
          · simp -dsimp [-wAppend_list, hlt, el_get gv, h25, h26, h27, h6, cellsOf, isAny]
            have z1' : (H0 ++ J)[id]? = some (.live cells) := by rw [List.getElem?_append_left (List.getElem?_eq_some_iff.1 z1).1]; exact z1
            rw [wLive_is z1', List.drop_zero, z3]
            refine ⟨by omega, ?_⟩
            simp -dsimp [-wAppend_list, h25, h26, h27, h6]
            refine app_acb H0.length (m := ls[i]) (by simpa using hac) (by simp) (by rw [t4]; simp [capOk]; omega) fun v' J' hac' => ?_
            simp -dsimp [h25, h26, h27, w2]
            refine ⟨ls.length - (i + 1), by omega, i + 1, v', J', by omega, rfl, ?_⟩
            simp -dsimp [h25, h26]
            rw [e1]
            exact hac'
        · have hii : i = ls.length := by omega
          subst hii
          simp -dsimp [hlt]
          rw [List.take_length] at hac
          exact hq _ _ hac
theorem concat_lists {ls : List (List Int)} {vs : List V} {c : Bool} {H : List Ob} {Q : CR → List Ob → Prop} (hvl : vs.length = ls.length) (hvs : ∀ (i : Nat) (h : i < ls.length), ∃ v, vs[i]? = some v ∧ ∃ c, v = .list (ls[i].map (V.int .u8)) c) (ht : tot ls ≤ 100000000) (hl : ls.length ≤ 1000000)
    (hq : ∀ v J, Acb H.length J v (cat ls) → Q (.ret v) (H ++ J)) : WCall p 13 [.list vs c] H Q := by
  have hg : ∀ x ∈ vs, ground x = true := by
    intro v hv
    obtain ⟨i, hi, rfl⟩ := List.getElem_of_mem hv
    obtain ⟨v, h1, c, h2⟩ := hvs i (by omega)
    rw [List.getElem?_eq_getElem hi] at h1
    cases h1
    rw [h2]
    simp
  have hr : reach H 1000 (refsL [.list vs c]) [] = some [] := by
    have : refsL [.list vs c] = [] := groundL_refs _ (by simpa using hg)
    rw [this]; rfl
  refine WCall_inl (by kernel_rfl) hr ?_
  have e1 : renL (fun i => ([] : List Nat).idxOf i) [.list vs c] = [.list vs c] := groundL_ren _ _ (by simpa using hg)
  rw [e1]
  refine concat_mix hvl (fun i h => ?_) ht hl fun v J hac => ⟨by simp, ?_⟩
  · obtain ⟨v, h1, h2⟩ := hvs i h
    exact ⟨v, h1, .inl h2⟩
  · simp only [List.map_nil, List.length_nil, List.nil_append] at hac ⊢
    rcases acb_cases hac with ⟨rfl, h0⟩ | ⟨j, len, rfl, _⟩
    · have e4 : backH [] (.ret (.list [] true)) J H = H := by
        unfold backH
        rw [if_neg (by simp [crV, refs, refsL])]
        simp [setAll]
      rw [e4]
      have := hq (.list [] true) [] (.inl ⟨h0, rfl⟩)
      simpa [renR, ren, renL] using this
    · have hg : ∀ j, backK [] H.length (0 + j) = H.length + j := fun j => by simp [backK]
      have e4 : backH [] (.ret (.own (0 + j) 0 len 1)) J H = H ++ J.map (renOb (backK [] H.length)) := by
        unfold backH
        rw [if_pos (by simp [crV, refs])]
        simp [setAll]
      rw [e4]
      have := hq _ _ (acb_back hg hac)
      simpa [renR, ren] using this
theorem refsL_of {vs : List V} {i : Nat} {id : Nat} (h : ∃ v, vs[i]? = some v ∧ refs v = [id]) (ho : ∀ j v, j ≠ i → vs[j]? = some v → refs v = []) : refsL vs = [id] := by
  induction vs generalizing i with
  | nil => obtain ⟨v, h1, _⟩ := h; simp at h1
  | cons a l ih =>
    rw [refsL]
    cases i with
    | zero =>
      obtain ⟨v, h1, h2⟩ := h
      cases h1
      rw [h2]
      have : refsL l = [] := by
        have : ∀ v ∈ l, refs v = [] := fun v hv => by
          obtain ⟨j, hj, rfl⟩ := List.getElem_of_mem hv
          exact ho (j + 1) _ (by omega) (by simp [hj])
        clear ih ho h2
        induction l with
        | nil => rfl
        | cons b l ih => rw [refsL, this b (by simp), ih (fun v hv => this v (by simp [hv]))]; rfl
      rw [this]; rfl
    | succ i =>
      have h0 := ho 0 a (by omega) rfl
      rw [h0, List.nil_append]
      refine ih (i := i) ?_ fun j v hj hv => ho (j + 1) v (by omega) (by simpa using hv)
      obtain ⟨v, h1, h2⟩ := h
      exact ⟨v, by simpa using h1, h2⟩
theorem concat_own2 {bs : List Int} {ls : List (List Int)} {vs : List V} {c : Bool} {H : List Ob} {id k : Nat} {Q : CR → List Ob → Prop} (hvl : vs.length = ls.length) (hk : k < ls.length) (hvs : ∀ (i : Nat) (h : i < ls.length), i ≠ k → ∃ v, vs[i]? = some v ∧ ∃ c, v = .list (ls[i].map (V.int .u8)) c)
    (hv : vs[k]? = some (.own id 0 ls[k].length 1)) (hid : H[id]? = some (.live (bs.map (V.int .u8)))) (hb1 : ls[k].length ≤ bs.length) (hb2 : bs.take ls[k].length = ls[k]) (ht : tot ls ≤ 100000000) (hl : ls.length ≤ 1000000)
    (hq : ∀ v J, Acb H.length J v (cat ls) → Q (.ret v) (H ++ J)) : WCall p 13 [.list vs c] H Q := by
  have hg : ∀ (i : Nat) v, i ≠ k → vs[i]? = some v → ground v = true := by
    intro i v hi hv
    have hlt := (List.getElem?_eq_some_iff.1 hv).1
    obtain ⟨v', h1, c, h2⟩ := hvs i (by omega) hi
    rw [h1] at hv
    cases hv
    rw [h2]
    simp
  have hr0 : refsL [.list vs c] = [id] := by
    have := refsL_of (vs := vs) (i := k) (id := id) ⟨_, hv, rfl⟩ fun j v hj hv => ground_refs _ (hg j v hj hv)
    simp [refsL, refs, this]
  have hr : reach H 1000 (refsL [.list vs c]) [] = some [id] := by rw [hr0]; exact reach_one hid (refs_ints _)
  refine WCall_inl (by kernel_rfl) hr ?_
  have e1 : renL (fun i => ([id] : List Nat).idxOf i) [.list vs c] = [.list (vs.set k (.own 0 0 ls[k].length 1)) c] := by
    have i0 : ([id] : List Nat).idxOf id = 0 := by simp
    have : renL (fun i => ([id] : List Nat).idxOf i) vs = vs.set k (.own 0 0 ls[k].length 1) := by
      rw [renL_eq]
      apply List.ext_getElem?
      intro i
      rw [List.getElem?_map, List.getElem?_set]
      by_cases hik : k = i
      · subst hik
        rw [if_pos rfl, hv, if_pos (by omega)]
        simp [ren, i0]
      · rw [if_neg hik]
        cases hx : vs[i]? with
        | none => rfl
        | some v => simp only [Option.map_some]; rw [ground_ren _ _ (hg i v (fun h => hik h.symm) hx)]
    simp [renL, ren, this]
  have e2 : (([id] : List Nat).map fun i => renOb (fun i => ([id] : List Nat).idxOf i) (H[i]?.getD .dead)) = [.live (bs.map (V.int .u8))] := by
    simp only [List.map_cons, List.map_nil, hid, Option.getD_some, renOb, ren_ints]
  rw [e1, e2]
  refine concat_mix (by simpa using hvl) (fun i h => ?_) ht hl fun v J hac => ⟨by simp, ?_⟩
  · by_cases hik : k = i
    · subst hik
      exact ⟨_, by rw [List.getElem?_set_self (by omega)], .inr ⟨0, _, rfl, rfl, by simpa using hb1, by rw [← List.map_take, hb2]⟩⟩
    · obtain ⟨v, h1, h2⟩ := hvs i h (fun h => hik h.symm)
      exact ⟨v, by rw [List.getElem?_set_ne hik, h1], .inl h2⟩
  · have e3 : (refsOb (.live (bs.map (V.int .u8)))) = [] := refs_ints _
    rcases acb_cases hac with ⟨rfl, h0⟩ | ⟨j, len, rfl, _⟩
    · have e4 : backH [id] (.ret (.list [] true)) ([.live (bs.map (V.int .u8))] ++ J) H = H := by
        unfold backH
        rw [if_neg (by simp [crV, refs, refsL, e3])]
        simp [setAll, renOb, set_same hid]
      rw [e4]
      have := hq (.list [] true) [] (.inl ⟨h0, rfl⟩)
      simpa [renR, ren, renL] using this
    · have hg : ∀ j, backK [id] H.length (1 + j) = H.length + j := fun j => by rw [Nat.add_comm]; exact back_s
      have e4 : backH [id] (.ret (.own (1 + j) 0 len 1)) ([.live (bs.map (V.int .u8))] ++ J) H = H ++ J.map (renOb (backK [id] H.length)) := by
        unfold backH
        rw [if_pos (by simp [crV, refs])]
        simp [setAll, renOb, set_same hid]
      have hac : Acb 1 J (.own (1 + j) 0 len 1) (cat ls) := hac
      show Q (renR (backK [id] H.length) (CR.ret (V.own (1 + j) 0 len 1))) (backH [id] (.ret (.own (1 + j) 0 len 1)) ([.live (bs.map (V.int .u8))] ++ J) H)
      rw [e4]
      have := hq _ _ (acb_back hg hac)
      simpa [renR, ren] using this
end Fz.D
set_option maxRecDepth 100000
namespace Fz.D
open Go
abbrev Lm (i : Nat) : Ob := .loop 220 [5] [.ptr i 0] .ready
theorem yldA_s {B : Ob} {v : V} {n : Nat} {P : List Int} {ps : List (List Int)} {T : List Ob} {Q : CR → List Ob → Prop} (hlen : ps.length ≤ 1000000) (ha : Acc 1 3 T v (ps.map byT))
    (hq : ∀ v' T', Acc 1 3 T' v' ((ps ++ [P]).map byT) → Q (.ret (.bool true)) (Lm 2 :: B :: .live [v'] :: T')) :
    WCall p YF [.yld 0, .int .i64 n, byT P] (Lm 2 :: B :: .live [v] :: T) Q := by
  have h0 : refsL [.yld 0, .int .i64 n, byT P] = [0] := by
    rw [refsL, refsL, refsL, ground_refs _ (byT.gd _)]; simp [refs, refsL]
  have bp : bd220.ps = [18, 19] := rfl
  have i2 : ∀ l, List.idxOf 2 (0 :: 2 :: l) = 1 := fun _ => rfl
  have rt : ∀ g P, ren g (byT P) = byT P := fun g P => ground_ren g _ (byT.gd _)
  have rf : ∀ P, refs (byT P) = [] := fun P => ground_refs _ (byT.gd _)
  have uT : ∀ l : List (List Int), uni 1 (l.map byT) = true := fun l => uni_map fun _ => rfl
  have fT : ∀ l : List (List Int), flat (l.map byT) = l.map byT := fun l => flat_one fun _ => rfl
  have gT : ∀ l : List (List Int), groundL (l.map byT) = true := fun l => by simp
  obtain ⟨u1, u2, u3⟩ := ha
  rcases u3 with ⟨u3, rfl⟩ | ⟨j, rfl, hj⟩
  · have hre1 : reach (Lm 2 :: B :: .live [.list [] true] :: T) 1000 (refsL [.yld 0, .int .i64 n, byT P]) [] = some [0, 2] := by
      rw [h0]
      show reach _ (997 + 1 + 1 + 1) [0] [] = _
      simp [reach, refsOb, refsL, refs]
    refine WCall_inl rfl hre1 ?_
    simp -dsimp [renL, ren, renOb, i2, rt]
    refine WFun_round ca220 cb220 (k := 220) rfl rfl rfl rfl rfl ka220 kb220 ?_
    simp -dsimp [ca220, cb220, setPs, envT, assignQ, bp, i2, roundQ, fillV, splice, wOpt, chunk]
    have o0 : ps = [] := by simpa using u3
    subst o0
    have k0 : backK [0, 2] (T.length + 1 + 1 + 1) 0 = 0 := rfl
    have k1 : backK [0, 2] (T.length + 1 + 1 + 1) 1 = 2 := rfl
    have k3 : backK [0, 2] (T.length + 1 + 1 + 1) 3 = T.length + 1 + 1 + 1 + 1 := rfl
    refine ⟨by simp [capOk], ?_⟩
    have := hq (.own (T.length + 1 + 1 + 1 + 1) 0 1 1) (T ++ [.live [byT P], .live [byT P]])
      ⟨by simp [uni, byT, cellsOf], by decide, .inr ⟨T.length + 1, by simp; omega, by simp [flat, cellsOf, byT]⟩⟩
    simp [backH, setAll, renOb, ren, renL, renR, crV, refs, refsL, refsOb, k0, k1, k3, rt, rf]
    simpa using this
  · have hjl : j < T.length := (List.getElem?_eq_some_iff.1 hj).1
    rw [fT] at hj
    have hj3 : (Lm 2 :: B :: .live [.own (3 + j) 0 (ps.map byT).length 1] :: T)[3 + j]? = some (.live (ps.map byT)) := by
      rw [show 3 + j = j + 1 + 1 + 1 from by omega]; simpa using hj
    have hre1 : reach (Lm 2 :: B :: .live [.own (3 + j) 0 (ps.map byT).length 1] :: T) 1000 (refsL [.yld 0, .int .i64 n, byT P]) [] = some [0, 2, 3 + j] := by
      rw [h0]
      refine (reach_go (k := 999) rfl rfl).trans ?_
      refine (reach_go (k := 998) (by rfl) rfl).trans ?_
      simp only [refsOb, refsL, refs, List.nil_append, List.cons_append, List.append_nil]
      refine (reach_go (k := 997) (by simp; omega) hj3).trans ?_
      simp only [refsOb, groundL_refs _ (gT ps), List.append_nil, List.nil_append]
      exact reach_end (k := 996)
    have i3 : List.idxOf (3 + j) [0, 2, 3 + j] = 2 := by
      have e0 : (0 == 3 + j) = false := by rw [beq_eq_false_iff_ne]; omega
      have e3 : (2 == 3 + j) = false := by rw [beq_eq_false_iff_ne]; omega
      simp [List.idxOf_cons, e0, e3]
    have hj5 : (Lm 2 :: B :: .live [.own (3 + j) 0 ps.length 1] :: T)[3 + j]?.getD .dead = .live (ps.map byT) := by
      rw [show ps.length = (ps.map byT).length from by simp, hj3]; rfl
    have rG : ∀ g, renL g (ps.map byT) = ps.map byT := fun g => groundL_ren g _ (gT ps)
    refine WCall_inl rfl hre1 ?_
    simp -dsimp [renL, ren, renOb, i2, i3, hj5, rt]
    simp -dsimp [renL, ren, renOb, rG]
    refine WFun_round ca220 cb220 (k := 220) rfl rfl rfl rfl rfl ka220 kb220 ?_
    simp -dsimp [ca220, cb220, setPs, envT, assignQ, bp, i2, i3, roundQ, fillV, splice, wOpt, chunk]
    have k0 : backK [0, 2, 3 + j] (T.length + 1 + 1 + 1) 0 = 0 := rfl
    have k1 : backK [0, 2, 3 + j] (T.length + 1 + 1 + 1) 1 = 2 := rfl
    have k4 : backK [0, 2, 3 + j] (T.length + 1 + 1 + 1) 4 = T.length + 1 + 1 + 1 + 1 := rfl
    refine ⟨by simp [capOk]; omega, ?_⟩
    have := hq (.own (T.length + 1 + 1 + 1 + 1) 0 (ps.length + 1) 1) (T.set j .dead ++ [.live [byT P], .live ((ps ++ [P]).map byT)])
      ⟨uT _, by decide, .inr ⟨T.length + 1, by simp; omega, by rw [fT]; simp⟩⟩
    have s3 : ∀ (x : Ob), (Lm 2 :: B :: .live [.own (T.length + 1 + 1 + 1 + 1) 0 (ps.length + 1) 1] :: T).set (3 + j) x = Lm 2 :: B :: .live [.own (T.length + 1 + 1 + 1 + 1) 0 (ps.length + 1) 1] :: T.set j x := fun x => by
      rw [show 3 + j = j + 1 + 1 + 1 from by omega]; rfl
    have f2 : ∀ g, renL g (ps.map byT ++ [byT P]) = ps.map byT ++ [byT P] := fun g => groundL_ren g _ (by simp)
    simp only [List.map_append, List.map_cons, List.map_nil] at this
    simp [-List.append_assoc, backH, setAll, renOb, ren, renL, renR, crV, refs, refsL, refsOb, k0, k1, k4, rt, rf, f2]
    rw [s3]
    exact this
def pgl (b : List Int) (n : Nat) : List (List Int) := (List.range n).map (pg b)
theorem pgl_succ (b : List Int) (n : Nat) : pgl b (n + 1) = pgl b n ++ [pg b n] := by simp [pgl, List.range_succ]
@[simp] theorem pgl_len (b : List Int) (n : Nat) : (pgl b n).length = n := by simp [pgl]
theorem pagesA_s {base : List Int} (hm0 : base.length ≤ 100000) {Q : CR → List Ob → Prop}
    (hq : ∀ v T, Acc 1 3 T v ((pgl base (npg base)).map byT) → Q (.ret (.tuple [])) (Lm 2 :: .live [byV base] :: .live [v] :: T)) :
    WFun p 33 [.yld 0, .ptr 1 0] [Lm 2, .live [byV base], .live [.list [] true]] Q := by
  have hN : npg base ≤ 2000 := by unfold npg; omega
  have hN1 : ∀ n, n < npg base ↔ 64 * n < base.length := fun n => by unfold npg; omega
  refine WFun_of w33 rfl rfl k33 ?_
  simp -dsimp [w33]
  refine xL_by (by kernel_rfl) (fun k e H => ∃ (n : Nat) (v : V) (T : List Ob), n ≤ npg base ∧ k = npg base - n ∧ e 0 = .yld 0 ∧ e 1 = .ptr 1 0 ∧ e 3 = .int .i64 n ∧ H = Lm 2 :: .live [byV base] :: .live [v] :: T ∧ Acc 1 3 T v ((pgl base n).map byT)) (npg base) ?_ ?_
  · exact ⟨0, .list [] true, [], by omega, rfl, rfl, rfl, rfl, rfl, acc_nil (by decide)⟩
  · rintro k e H ⟨n, v, T, hn, hk, h0, h1, h3, rfl, ha⟩
    obtain ⟨q, hq'⟩ : ∃ q, q = 64 * n := ⟨_, rfl⟩
    have w1 : IntKind.i64.wrap ((n : Int) * 64) = (q : Int) := by rw [Fz.w64 (by omega) (by omega)]; omega
    have w2 : IntKind.i64.wrap ((q : Int) + 64) = ((q + 64 : Nat) : Int) := by rw [Fz.w64 (by omega) (by omega)]; omega
    have w3 : IntKind.i64.wrap ((n : Int) + 1) = ((n + 1 : Nat) : Int) := by rw [Fz.w64 (by omega) (by omega)]; omega
    by_cases c1 : n < npg base
    · have c2 := (hN1 n).1 c1
      have c3 : q < base.length := by omega
      obtain ⟨z, hz⟩ : ∃ z, z = min (q + 64) base.length := ⟨_, rfl⟩
      have hm : (if (base.length : Int) < (q : Int) + 64 then (base.length : Int) else (q : Int) + 64) = (z : Int) := by split <;> omega
      simp -dsimp [h0, h1, h3, w1, w2, c3, hm]
      refine ⟨⟨by omega, by omega⟩, ?_⟩
      have e2 : V.list (List.take (z - q) (List.drop q (List.map (V.int .u8) base))) true = byT (pg base n) := by
        unfold byT pg
        rw [← hq', ← List.map_drop, ← List.map_take]
        congr 2
        by_cases c : q + 64 ≤ base.length
        · rw [show z - q = 64 from by omega]
        · rw [List.take_of_length_le (by rw [List.length_drop]; omega), List.take_of_length_le (by rw [List.length_drop]; omega)]
      rw [e2]
      refine yldA_s (by simp; omega) ha fun v' T' ha' => ?_
      simp -dsimp [h0, h1, h3, w3]
      refine ⟨npg base - (n + 1), by omega, n + 1, v', T', by omega, rfl, ?_⟩
      simp -dsimp [h0, h1]
      rw [pgl_succ]
      exact ha'
    · have hnn : n = npg base := by omega
      subst hnn
      have c2 : ¬ q < base.length := by have := hN1 (npg base); omega
      simp -dsimp [h0, h1, h3, w1, c2]
      exact hq v T ha
end Fz.D
set_option maxRecDepth 100000
namespace Fz.D
open Go
def lastIs (out : List Int) (c : Int) : Bool := decide (0 < out.length) && decide (gt out (out.length - 1) = c)
def tkR (many : Nat) : Nat → List Int → List Int → List Int × Int
  | 0, _, _ => ([], 2)
  | k + 1, out, b =>
    if out.length < many then
      if (rd 1 (many - out.length : Nat) ⟨b, 0⟩).1.e ≠ 0 then ([], (rd 1 (many - out.length : Nat) ⟨b, 0⟩).1.e)
      else if (rd 1 (many - out.length : Nat) ⟨b, 0⟩).1.b.length = 0 then ([], 3)
      else if lastIs out (gt (rd 1 (many - out.length : Nat) ⟨b, 0⟩).1.b 0) = true then ([], 2)
      else tkR many k (out ++ List.replicate (rd 1 (many - out.length : Nat) ⟨b, 0⟩).2.toNat (gt (rd 1 (many - out.length : Nat) ⟨b, 0⟩).1.b 0)) ((rd 1 (many - out.length : Nat) ⟨b, 0⟩).1.b.drop 1)
    else if 0 < b.length then ([], 2) else (out, 0)
def takeR (b : List Int) (many : Nat) : List Int × Int := tkR many (many + 1) [] b
theorem first_s {b : List Int} {m : Int} (hb : b.length ≤ 1000000) (h8 : by8 b) (hm : i64 m) : Comes p 77 [byV b, .int .i64 m] (.tuple [.int .i64 (rd 1 m ⟨b, 0⟩).2, .int .i64 (encN (rd 1 m ⟨b, 0⟩).2).length, .int .i64 (rd 1 m ⟨b, 0⟩).1.e]) := by
  have hi : i64 (rd 1 m ⟨b, 0⟩).2 := by
    by_cases he : (rd 1 m ⟨b, 0⟩).1.e = 0
    · exact (rd_B (s := ⟨b, 0⟩) h8 he).2.2.1
    · rw [rd_err he]; unfold i64; omega
  have cN := num_s hi
  have ok : RsOk ⟨b, 0⟩ := ⟨by simpa using (by omega : b.length ≤ 10000000), h8⟩
  refine Comes_of w77 rfl rfl k77 ?_ ?_ ?_ ?_
  · simp
  · simp
  · simp
  · simp -dsimp [w77, wFix_by, isInl]
    refine new_s b ?_
    simp -dsimp [isInl]
    refine num_go (s := ⟨b, 0⟩) ok rfl ?_
    simp -dsimp [isInl, call_by cN]
    refine err_go (s := (rd 1 m ⟨b, 0⟩).1) rfl ?_
    simp -dsimp [isInl, wFix_by, encN]
end Fz.D
set_option maxRecDepth 100000
namespace Fz.D
open Go
theorem elen {H : List Ob} {v : V} {l : List Int} (h : El H v l) {K : V → Prop} : wSl v (fun l _ => wVal (V.int .i64 l.length) fun v => K v) (fun _ _ n _ => K (.int .i64 n)) = K (.int .i64 l.length) := by
  rcases h with ⟨c, rfl⟩ | ⟨id, cells, rfl, h2, h3, h4⟩
  · simp
  · simp
theorem acb_at {bs l : List Int} {k : Nat} (h : bs.take l.length = l) (hk : k < l.length) : List.take 1 (List.drop k (bs.map (V.int .u8))) = [V.int .u8 (gt l k)] := by
  have hl := congrArg List.length h
  rw [List.length_take] at hl
  have e : gt l k = bs[k]'(by omega) := by
    rw [← gt_at hk]
    have : l[k] = (bs.take l.length)[k]'(by rw [h]; exact hk) := by simp only [h]
    rw [this, List.getElem_take]
  rw [e, ← List.map_drop, ← List.map_take, List.drop_eq_getElem_cons (by omega)]
  rfl
theorem rd_pos {lo hi : Int} {s : Rs} (h : (rd lo hi s).1.e = 0) : lo ≤ (rd lo hi s).2 ∧ (rd lo hi s).2 ≤ hi := rd_ok h
end Fz.D
set_option maxRecDepth 100000
namespace Fz.D
open Go
abbrev Lq (i : Nat) : Ob := .loop 160 [3] [.ptr i 0] .ready
theorem yldR_s {B : Ob} {v : V} {n : Nat} {c : Int} {out : List Int} {T : List Ob} {Q : CR → List Ob → Prop} (hn : n ≤ 1000000) (hlen : out.length ≤ 10000000) (ha : Acc 1 3 T v (out.map (V.int .u8)))
    (hq : ∀ v' T', Acc 1 3 T' v' ((out ++ encN n ++ [c]).map (V.int .u8)) → Q (.ret (.bool true)) (Lq 2 :: B :: .live [v'] :: T')) :
    WCall p YF [.yld 0, .int .i64 n, .int .u8 c] (Lq 2 :: B :: .live [v] :: T) Q := by
  have h0 : refsL [.yld 0, .int .i64 n, .int .u8 c] = [0] := by simp [refs, refsL]
  have bp : bd160.ps = [8, 9] := rfl
  have i2 : ∀ l, List.idxOf 2 (0 :: 2 :: l) = 1 := fun _ => rfl
  have cN := num_s (n := (n : Int)) (by unfold i64; omega)
  have e0 : numB (zz (n : Int)).toNat = encN n := rfl
  rw [e0] at cN
  have lN := encN_le hn
  have l0 : encN n ≠ [] := encN_ne n
  have gN : ∀ g, renL g ((encN n).map (V.int .u8)) = (encN n).map (V.int .u8) := fun g => ren_ints _
  generalize encN (n : Int) = m at *
  obtain ⟨u1, u2, u3⟩ := ha
  rcases u3 with ⟨u3, rfl⟩ | ⟨j, rfl, hj⟩
  · have hre1 : reach (Lq 2 :: B :: .live [.list [] true] :: T) 1000 (refsL [.yld 0, .int .i64 n, .int .u8 c]) [] = some [0, 2] := by
      rw [h0]
      show reach _ (997 + 1 + 1 + 1) [0] [] = _
      simp [reach, refsOb, refsL, refs]
    refine WCall_inl rfl hre1 ?_
    simp -dsimp [renL, ren, renOb, i2]
    refine WFun_round ca160 cb160 (k := 160) rfl rfl rfl rfl rfl ka160 kb160 ?_
    simp -dsimp [ca160, cb160, setPs, envT, assignQ, bp, i2, roundQ, quiet_by cN, l0, byV, fillV, splice, wOpt, chunk]
    have o0 : out = [] := by simpa using u3
    subst o0
    have k0 : backK [0, 2] (T.length + 1 + 1 + 1) 0 = 0 := rfl
    have k1 : backK [0, 2] (T.length + 1 + 1 + 1) 1 = 2 := rfl
    have k3 : backK [0, 2] (T.length + 1 + 1 + 1) 3 = T.length + 1 + 1 + 1 + 1 := rfl
    have f2 : ∀ g, renL g (m.map (V.int .u8) ++ [V.int .u8 c]) = m.map (V.int .u8) ++ [V.int .u8 c] := fun g => groundL_ren g _ (by simp)
    refine ⟨by simp [capOk]; omega, by simp [capOk]; omega, ?_⟩
    have := hq (.own (T.length + 1 + 1 + 1 + 1) 0 (m.length + 1) 1) (T ++ [.dead, .live ((m ++ [c]).map (V.int .u8))])
      ⟨by simp, by decide, .inr ⟨T.length + 1, by simp; omega, by simp⟩⟩
    simp [backH, setAll, renOb, ren, renL, renR, crV, refs, refsL, refsOb, k0, k1, k3, f2]
    simpa using this
  · have hjl : j < T.length := (List.getElem?_eq_some_iff.1 hj).1
    have hj3 : (Lq 2 :: B :: .live [.own (3 + j) 0 (out.map (V.int .u8)).length 1] :: T)[3 + j]? = some (.live (flat (out.map (V.int .u8)))) := by
      rw [show 3 + j = j + 1 + 1 + 1 from by omega]; simpa using hj
    rw [flat_int] at hj3 hj
    have hre1 : reach (Lq 2 :: B :: .live [.own (3 + j) 0 (out.map (V.int .u8)).length 1] :: T) 1000 (refsL [.yld 0, .int .i64 n, .int .u8 c]) [] = some [0, 2, 3 + j] := by
      rw [h0]
      refine (reach_go (k := 999) rfl rfl).trans ?_
      refine (reach_go (k := 998) (by rfl) rfl).trans ?_
      simp only [refsOb, refsL, refs, List.nil_append, List.cons_append, List.append_nil]
      refine (reach_go (k := 997) (by simp; omega) hj3).trans ?_
      simp only [refsOb, refs_ints, List.append_nil, List.nil_append]
      exact reach_end (k := 996)
    have i3 : List.idxOf (3 + j) [0, 2, 3 + j] = 2 := by
      have e0 : (0 == 3 + j) = false := by rw [beq_eq_false_iff_ne]; omega
      have e3 : (2 == 3 + j) = false := by rw [beq_eq_false_iff_ne]; omega
      simp [List.idxOf_cons, e0, e3]
    have hj5 : (Lq 2 :: B :: .live [.own (3 + j) 0 out.length 1] :: T)[3 + j]?.getD .dead = .live (out.map (V.int .u8)) := by
      rw [show out.length = (out.map (V.int .u8)).length from by simp, hj3]; rfl
    refine WCall_inl rfl hre1 ?_
    simp -dsimp [renL, ren, renOb, i2, i3, hj5]
    refine WFun_round ca160 cb160 (k := 160) rfl rfl rfl rfl rfl ka160 kb160 ?_
    simp -dsimp [ca160, cb160, setPs, envT, assignQ, bp, i2, i3, roundQ, quiet_by cN, l0, byV, fillV, splice, wOpt, chunk]
    have k0 : backK [0, 2, 3 + j] (T.length + 1 + 1 + 1) 0 = 0 := rfl
    have k1 : backK [0, 2, 3 + j] (T.length + 1 + 1 + 1) 1 = 2 := rfl
    have k4 : backK [0, 2, 3 + j] (T.length + 1 + 1 + 1) 4 = T.length + 1 + 1 + 1 + 1 := rfl
    have tc : List.take (out.length + m.length) (out.map (V.int .u8) ++ m.map (V.int .u8)) = out.map (V.int .u8) ++ m.map (V.int .u8) := List.take_of_length_le (by simp)
    have f2 : ∀ g, renL g (out.map (V.int .u8) ++ m.map (V.int .u8) ++ [V.int .u8 c]) = out.map (V.int .u8) ++ m.map (V.int .u8) ++ [V.int .u8 c] := fun g => groundL_ren g _ (by simp)
    rw [tc]
    refine ⟨by simp [capOk]; omega, by simp [capOk]; omega, ?_⟩
    have := hq (.own (T.length + 1 + 1 + 1 + 1) 0 (out.length + m.length + 1) 1) (T.set j .dead ++ [.dead, .live ((out ++ m ++ [c]).map (V.int .u8))])
      ⟨by simp, by decide, .inr ⟨T.length + 1, by simp; omega, by simp⟩⟩
    have s3 : ∀ (x : Ob), (Lq 2 :: B :: .live [.own (T.length + 1 + 1 + 1 + 1) 0 (out.length + m.length + 1) 1] :: T).set (3 + j) x = Lq 2 :: B :: .live [.own (T.length + 1 + 1 + 1 + 1) 0 (out.length + m.length + 1) 1] :: T.set j x := fun x => by
      rw [show 3 + j = j + 1 + 1 + 1 from by omega]; rfl
    simp only [List.map_append, List.map_cons, List.map_nil] at this
    simp [-List.append_assoc, backH, setAll, renOb, ren, renL, renR, crV, refs, refsL, refsOb, k0, k1, k4, f2]
    rw [s3]
    exact this
end Fz.D
set_option maxRecDepth 100000
namespace Fz.D
open Go
theorem rleK_l {k : Nat} {l : List Int} (h : 0 < l.length) : rleK (k + 1) l = encN (rcount (gt l 0) l : Nat) ++ gt l 0 :: rleK k (l.drop (rcount (gt l 0) l)) := by
  cases l with
  | nil => simp at h
  | cons c r => rfl
theorem rcount_l {l : List Int} (h : 0 < l.length) : 1 ≤ rcount (gt l 0) l ∧ rcount (gt l 0) l ≤ l.length := by
  have := rcount_le (gt l 0) l
  cases l with
  | nil => simp at h
  | cons c r =>
    have : gt (c :: r) 0 = c := rfl
    refine ⟨?_, by assumption⟩
    rw [this, rcount, if_pos rfl]; omega
theorem tk_all {α β : Type} {f : α → β} {l : List α} {n : Nat} : List.take (l.length - n) (List.drop n (l.map f)) = (l.drop n).map f := by
  rw [List.take_of_length_le (by simp), List.map_drop]
theorem runsR_s {b : List Int} (hb : b.length ≤ 100000) {Q : CR → List Ob → Prop} (hq : ∀ v T, Acc 1 3 T v ((rleF b).map (V.int .u8)) → Q (.ret (.tuple [])) (Lq 2 :: .live [byV []] :: .live [v] :: T)) :
    WFun p 71 [.yld 0, .ptr 1 0] [Lq 2, .live [byV b], .live [.list [] true]] Q := by
  refine WFun_of w71 rfl rfl k71 ?_
  simp -dsimp [w71]
  refine xL_by (by kernel_rfl) (fun k e H => ∃ (l : List Int) (m : Nat) (v : V) (T : List Ob) (out : List Int), l.length ≤ b.length ∧ k = l.length ∧ e 0 = .yld 0 ∧ e 1 = .ptr 1 0 ∧ H = Lq 2 :: .live [byV l] :: .live [v] :: T ∧ l.length ≤ m ∧ out ++ rleK m l = rleF b ∧ out.length ≤ 100 * (b.length - l.length) ∧ Acc 1 3 T v (out.map (V.int .u8))) b.length ?_ ?_
  · exact ⟨b, b.length, .list [] true, [], [], by omega, rfl, rfl, rfl, rfl, by omega, rfl, by simp, acc_nil (by decide)⟩
  · rintro k e H ⟨l, m, v, T, out, hl, hk, h0, h1, rfl, hm, hout, hol, ha⟩
    by_cases c1 : 0 < l.length
    · obtain ⟨m, rfl⟩ : ∃ z, m = z + 1 := ⟨m - 1, by omega⟩
      obtain ⟨q1, q2⟩ := rcount_l c1
      rw [rleK_l c1] at hout
      have lN := encN_le (n := rcount (gt l 0) l) (by omega)
      have g0 : l[0] = gt l 0 := gt_at c1
      by_cases c0 : gt l 0 = 0
      · have cT := trim_s (b := l) (by omega)
        rw [c0] at hout q1 q2 lN g0
        generalize rcount 0 l = q at *
        have w1 : IntKind.i64.wrap ((l.length : Int) - ((l.length - q : Nat) : Int)) = (q : Int) := by rw [Fz.w64 (by omega) (by omega)]; omega
        simp -dsimp [h0, h1, c1, quiet_by cT, w1, g0]
        refine yldR_s (by omega) (by omega) ha fun v' T' ha' => ?_
        simp -dsimp [h0, h1]
        refine ⟨by omega, l.length - q, by omega, l.drop q, m, v', T', out ++ encN q ++ [0], by simp; omega, by simp, ?_⟩
        simp -dsimp [h0, h1]
        refine ⟨by rw [tk_all]; rfl, by omega, ?_, by omega, by simpa using ha'⟩
        rw [← hout]; try simp
      · simp -dsimp [h0, h1, c1, g0, c0]
        have cT := trim_s (b := l) (by omega)
        simp -dsimp [h0, h1, c1, g0, c0, quiet_by cT]
        refine xL_by (by kernel_rfl) (fun k e H => ∃ (n : Nat), 1 ≤ n ∧ n ≤ l.length ∧ k = l.length - n ∧ e 0 = .yld 0 ∧ e 1 = .ptr 1 0 ∧ e 3 = .int .i64 n ∧ H = Lq 2 :: .live [byV l] :: .live [v] :: T ∧ n + rcount (gt l 0) (l.drop n) = rcount (gt l 0) l) (l.length - 1) ?_ ?_
        · refine ⟨1, by omega, by omega, rfl, ?_⟩
          simp -dsimp [h0, h1]
          cases l with
          | nil => simp at c1
          | cons c r =>
            have e0 : gt (c :: r) 0 = c := rfl
            rw [e0, List.tail_cons, rcount, if_pos rfl]; omega
        · rintro k' e' H' ⟨n, n1, n2, hk', h0, h1, h3, rfl, hn⟩
          have w2 : IntKind.i64.wrap ((n : Int) + 1) = ((n + 1 : Nat) : Int) := by rw [Fz.w64 (by omega) (by omega)]; omega
          by_cases c2 : n < l.length
          · have g2 : l[n] = gt l n := gt_at c2
            by_cases c3 : gt l n = gt l 0
            · rw [rcount_at c2, if_pos (by rw [g2]; exact c3)] at hn
              simp -dsimp [h0, h1, h3, c1, c2, g2, g0, c3, w2]
              refine ⟨l.length - (n + 1), by omega, n + 1, by omega, by omega, rfl, ?_⟩
              simp -dsimp [h0, h1]
              omega
            · rw [rcount_at c2, if_neg (by rw [g2]; exact c3)] at hn
              have hn' : rcount (gt l 0) l = n := by omega
              rw [hn'] at hout q1 q2 lN
              simp -dsimp [h0, h1, h3, c1, c2, g2, g0, c3, w2]
              refine yldR_s (by omega) (by omega) ha fun v' T' ha' => ?_
              simp -dsimp [h0, h1, h3]
              refine ⟨by omega, l.length - n, by omega, l.drop n, m, v', T', out ++ encN n ++ [gt l 0], by simp; omega, by simp, ?_⟩
              simp -dsimp [h0, h1]
              refine ⟨by rw [tk_all]; rfl, by omega, ?_, by omega, by simpa using ha'⟩
              rw [← hout]; try simp
          · rw [rcount_end c2] at hn
            have hn' : rcount (gt l 0) l = n := by omega
            rw [hn'] at hout q1 q2 lN
            simp -dsimp [h0, h1, h3, c1, c2, g0, w2]
            refine yldR_s (by omega) (by omega) ha fun v' T' ha' => ?_
            simp -dsimp [h0, h1, h3]
            refine ⟨by omega, l.length - n, by omega, l.drop n, m, v', T', out ++ encN n ++ [gt l 0], by simp; omega, by simp, ?_⟩
            simp -dsimp [h0, h1]
            refine ⟨by rw [tk_all]; rfl, by omega, ?_, by omega, by simpa using ha'⟩
            rw [← hout]; try simp
    · have hn : l = [] := List.length_eq_zero_iff.1 (by omega)
      subst hn
      rw [rleK_nil, List.append_nil] at hout
      subst hout
      simp -dsimp [h0, h1]
      exact hq v T ha
theorem runsP_s (b : List Int) {H : List Ob} {Q : CR → List Ob → Prop} (hq : Q (.ret (.fn (.func 71) [] [.ptr H.length 0])) (H ++ [.live [byV b]])) : xCall p 36 [byV b] H Q := by
  have h0 : refsL [byV b] = [] := groundL_refs _ (by simp)
  refine WCall_inl (by kernel_rfl) (ids := []) (by rw [h0]; rfl) ?_
  have r0 : renL (fun i => List.idxOf i ([] : List Nat)) [byV b] = [byV b] := groundL_ren _ _ (by simp)
  rw [r0]
  refine WFun_of w36 rfl rfl k36 ?_
  simp -dsimp [w36, renL, ren]
  have rb : ∀ g, ren g (byV b) = byV b := fun g => ground_ren g _ (byV.gd b)
  simpa [renR, ren, renL, backH, crV, refs, refsL, setAll, renOb, backK, rb] using hq
theorem rangeR_s {b : List Int} {e : Env} {Q : QX} (hb : b.length ≤ 100000) (h3 : e 3 = .ptr 0 0) (hq : ∀ v T, Acc 1 3 T v ((rleF b).map (V.int .u8)) → Q .normal e (.live [v] :: .live [byV []] :: .dead :: T)) :
    WRange p 160 (.fn (.func 71) [] [.ptr 1 0]) e [.live [.list [] true], .live [byV b]] Q := by
  have e1 : ∀ b, refs (byV b) = [] := fun b => ground_refs _ (byV.gd b)
  have ra : ∀ g b, ren g (byV b) = byV b := fun g b => ground_ren g _ (byV.gd b)
  have hk : bd160.keep.map e = [.ptr 0 0] := by show [e 3] = _; rw [h3]
  refine WRange_of (ab := bd160) (ids := [2, 1, 0]) rfl (by decide) rfl rfl ?_ ?_
  · have : refsL ([] ++ [V.yld 2] ++ [V.ptr 1 0]) = [2, 1] := by simp [refsL, refs]
    show reach _ 1000 (refsL ([] ++ [V.yld 2] ++ [V.ptr 1 0])) [] = _
    rw [this, hk]
    refine (reach_go (k := 999) rfl rfl).trans ?_
    refine (reach_go (k := 998) rfl rfl).trans ?_
    simp only [refsOb, refsL, refs, e1, List.nil_append, List.cons_append, List.append_nil]
    refine (reach_go (k := 997) rfl rfl).trans ?_
    simp only [refsOb, refsL, refs, List.nil_append, List.cons_append, List.append_nil]
    exact reach_end (k := 996)
  · rw [hk]
    have i2 : List.idxOf 2 [2, 1, 0] = 0 := rfl
    have i1 : List.idxOf 1 [2, 1, 0] = 1 := rfl
    have i0 : List.idxOf 0 [2, 1, 0] = 2 := rfl
    have ka : bd160.keep = [3] := rfl
    simp [renL, ren, renOb, i2, i1, i0, ra, ka]
    refine runsR_s hb fun v T hac => ⟨by simp, ?_⟩
    have k0 : backK [2, 1, 0] 3 2 = 0 := rfl
    obtain ⟨u1, u2, u3⟩ := hac
    rcases u3 with ⟨u3, rfl⟩ | ⟨j, rfl, hj⟩
    · refine ⟨.normal, e, _, ?_, hq (.list [] true) [] ⟨u1, u2, .inl ⟨u3, rfl⟩⟩⟩
      simp [backH, setAll, renOb, ren, renL, renR, crV, refs, refsL, refsOb, e1, ra, k0, endRange]
    · have k1 : backK [2, 1, 0] 3 (3 + j) = 3 + j := by simp [backK]; omega
      refine ⟨.normal, e, _, ?_, hq (.own (3 + j) 0 ((rleF b).map (V.int .u8)).length 1) (T.map (renOb (backK [2, 1, 0] 3))) ⟨u1, u2, .inr ⟨j, rfl, ?_⟩⟩⟩
      · simp [backH, setAll, renOb, ren, renL, renR, crV, refs, refsL, refsOb, e1, ra, k0, k1, endRange]
      · rw [List.getElem?_map, hj]
        simp only [Option.map_some, renOb]
        rw [groundL_ren _ _ (by simp)]
theorem rle_s {b : List Int} (hb : b.length ≤ 100000) : Comes p 16 [byV b] (byV (rleF b)) := by
  refine Comes_of w16 rfl rfl k16 ?_ ?_ ?_ ?_
  · simp
  · simp
  · simp
  · simp -dsimp [w16, wFix_by, isInl]
    refine runsP_s _ ?_
    simp -dsimp [isInl]
    refine rangeR_s hb rfl fun v T hac => ?_
    simp -dsimp [wFix_by, isInl]
    exact frz_ac (b := 3) (by simpa using ac_acc hac)
end Fz.D
set_option maxRecDepth 100000
namespace Fz.D
open Go
theorem last_s {H : List Ob} {i : Nat} {v : V} {out : List Int} {c : Int} {b : Nat} (hi : H[i]? = some (.live [v])) (ha : Acb b (H.drop b) v out) (hib : i < b) (hl : out.length ≤ 1000000) {Q : CR → List Ob → Prop} (hq : Q (.ret (.bool (lastIs out c))) H) : WCall p 76 [.int .u8 c, .ptr i 0] H Q := by
  have hlast : lastIs out c = (decide (0 < out.length) && decide (gt out (out.length - 1) = c)) := rfl
  rcases ha with ⟨rfl, rfl⟩ | ⟨j, bs, rfl, a1, a2, a3⟩
  · have hre : reach H 1000 (refsL [.int .u8 c, .ptr i 0]) [] = some [i] := reach_one hi (by simp [refsL, refs])
    refine WCall_inl (by kernel_rfl) hre ?_
    have e1 : ([i] : List Nat).idxOf i = 0 := by simp
    have hi' : H[i]?.getD .dead = .live [.list [] true] := by rw [hi]; rfl
    simp -dsimp [renL, ren, renOb, e1, hi']
    refine WFun_of w76 rfl rfl k76 ?_
    simp -dsimp [w76]
    rw [hlast] at hq
    simp at hq
    simp [backH, setAll, renOb, ren, renL, renR, crV, refs, refsL, refsOb, set_same hi]
    exact hq
  · rw [List.getElem?_drop] at a1
    have hne : i ≠ b + j := by omega
    have hre : reach H 1000 (refsL [.int .u8 c, .ptr i 0]) [] = some [i, b + j] := by
      have : refsL [.int .u8 c, .ptr i 0] = [i] := by simp [refsL, refs]
      rw [this]
      refine (reach_go (k := 999) rfl hi).trans ?_
      simp only [refsOb, refsL, refs, List.nil_append, List.cons_append, List.append_nil]
      refine (reach_go (k := 998) (by simp; omega) a1).trans ?_
      simp only [refsOb, refs_ints, List.append_nil, List.nil_append, List.cons_append]
      exact reach_end (k := 997)
    refine WCall_inl (by kernel_rfl) hre ?_
    have e1 : ([i, b + j] : List Nat).idxOf i = 0 := by simp
    have e2 : ([i, b + j] : List Nat).idxOf (b + j) = 1 := by
      have e0 : (i == b + j) = false := by rw [beq_eq_false_iff_ne]; omega
      simp [List.idxOf_cons, e0]
    have hi' : H[i]?.getD .dead = .live [.own (b + j) 0 out.length 1] := by rw [hi]; rfl
    have hj' : H[b + j]?.getD .dead = .live (bs.map (V.int .u8)) := by rw [a1]; rfl
    simp -dsimp [renL, ren, renOb, e1, e2, hi', hj']
    refine WFun_of w76 rfl rfl k76 ?_
    have fin : ∀ x, lastIs out c = x → Q (renR (backK [i, b + j] H.length) (CR.ret (V.bool x))) (backH [i, b + j] (CR.ret (V.bool x)) [Ob.live [V.own 1 0 out.length 1], Ob.live (bs.map (V.int .u8))] H) := by
      intro x hx
      rw [hx] at hq
      have k1 : backK [i, b + j] H.length 1 = b + j := rfl
      simp [backH, setAll, renOb, ren, renL, renR, crV, refs, refsL, refsOb, k1, set_same hi, set_same a1]
      exact hq
    by_cases c4 : 0 < out.length
    · have w3 : IntKind.i64.wrap ((out.length : Int) - 1) = ((out.length - 1 : Nat) : Int) := by rw [Fz.w64 (by omega) (by omega)]; omega
      by_cases c5 : gt out (out.length - 1) = c
      · simp -dsimp [w76, c4, w3]
        refine ⟨by omega, by omega, ?_⟩
        rw [acb_at a3 (by omega), c5]
        simp -dsimp []
        exact fin true (by rw [hlast]; simp [c4, c5])
      · simp -dsimp [w76, c4, w3]
        refine ⟨by omega, by omega, ?_⟩
        rw [acb_at a3 (by omega)]
        simp -dsimp [c5]
        exact fin false (by rw [hlast]; simp [c4, c5])
    · simp -dsimp [w76, c4]
      exact fin false (by rw [hlast]; simp [c4])
theorem takeR_s {b : List Int} {many : Nat} (hb : b.length ≤ 1000000) (h8 : by8 b) (hm : many ≤ 8192) : Comes p 54 [byV b, .int .i64 many] (.tuple [byV (takeR b many).1, .int .i64 (takeR b many).2]) := by
  refine Comes_of w54 rfl rfl k54 ?_ ?_ ?_ ?_
  · simp
  · simp
  · simp
  · simp -dsimp [w54, wFix_by, isInl]
    rw [if_neg (by omega)]
    refine xL_by (by kernel_rfl) (fun k e H => ∃ (kf : Nat) (l : List Int) (v : V) (J : List Ob) (out : List Int), e 0 = byV l ∧ e 1 = .int .i64 many ∧ e 6 = .ptr 0 0 ∧ e 7 = .fn (.func 76) [] [.ptr 0 0] ∧ H = .live [v] :: J ∧ by8 l ∧ l.length ≤ 1000000 ∧ out.length ≤ many ∧ many < out.length + kf ∧ k = many - out.length ∧ tkR many kf out l = takeR b many ∧ Acb 1 J v out) many ?_ ?_
    · refine ⟨many + 1, b, .list [] true, [], [], ?_⟩
      simp -dsimp [takeR]
      exact ⟨h8, by omega, acb_nil⟩
    · rintro k e H ⟨kf, l, v, J, out, h0, h1, h6, h7, rfl, l8, ll, hol, hkf, hk, hT, ha⟩
      obtain ⟨kf, rfl⟩ : ∃ z, kf = z + 1 := ⟨kf - 1, by omega⟩
      have el := el_acb (b := 1) (H := .live [v] :: J) ha
      obtain ⟨x1, x2, x3⟩ := acb_val ha
      by_cases c1 : out.length < many
      · have w1 : IntKind.i64.wrap ((many : Int) - (out.length : Int)) = ((many - out.length : Nat) : Int) := by rw [Fz.w64 (by omega) (by omega)]; omega
        have cr := first_s (m := ((many - out.length : Nat) : Int)) ll l8 (by unfold i64; omega)
        have hB := @rd_B 1 ((many - out.length : Nat) : Int) ⟨l, 0⟩ l8
        rw [tkR, if_pos c1] at hT
        generalize rd 1 ((many - out.length : Nat) : Int) ⟨l, 0⟩ = R at *
        by_cases c2 : R.1.e = 0
        · rw [if_neg (by omega)] at hT
          obtain ⟨_, hl, hi, hn1, hn2⟩ := hB c2
          simp only at hl
          obtain ⟨q, hq⟩ : ∃ q : Nat, R.2 = q := ⟨R.2.toNat, by omega⟩
          rw [hq] at cr hT hl
          rw [Int.toNat_natCast] at hT
          rw [c2] at cr
          have hlen := congrArg List.length hl
          rw [List.length_append] at hlen
          obtain ⟨z, hz⟩ : ∃ z, z = (encN (q : Int)).length := ⟨_, rfl⟩
          rw [← hz] at cr hlen
          have hdrop : l.drop z = R.1.b := by rw [hl, hz]; exact List.drop_left
          by_cases c3 : R.1.b.length = 0
          · rw [if_pos c3] at hT
            have c3' : z = l.length := by omega
            rw [← hT]
            simp -dsimp [h0, h1, h6, h7, x1, x2, x3, elen el, c1, w1, call_by cr, c3', wFix_by, isInl]
            simp -dsimp [byV]
          · rw [if_neg c3] at hT
            have c3' : ¬ z = l.length := by omega
            have c3'' : z < l.length := by omega
            have g1 : l[z] = gt R.1.b 0 := by
              rw [gt_at c3'', ← hdrop]
              unfold gt
              rw [List.getD_eq_getElem?_getD, List.getD_eq_getElem?_getD, List.getElem?_drop]; rfl
            have w2 : IntKind.i64.wrap ((z : Int) + 1) = ((z + 1 : Nat) : Int) := by rw [Fz.w64 (by omega) (by omega)]; omega
            simp -dsimp [h0, h1, h6, h7, x1, x2, x3, elen el, c1, w1, call_by cr, c3', c3'', g1, w2]
            rw [if_neg (by omega)]
            refine last_s (i := 0) (b := 1) rfl (by simpa using ha) (by omega) (by omega) ?_
            cases hls : lastIs out (gt R.1.b 0) with
            | true =>
              rw [hls, if_pos rfl] at hT
              rw [← hT]
              simp -dsimp [h0, h1, h6, h7, wFix_by, isInl]
              simp -dsimp [byV]
            | false =>
              rw [hls] at hT
              simp only [Bool.false_eq_true, if_false] at hT
              have cRep := rep_s (c := gt R.1.b 0) (n := q) (by omega) (by omega)
              have hone : List.take 1 (List.drop z (List.map (V.int .u8) l)) = [V.int .u8 (gt R.1.b 0)] := by
                rw [← List.map_drop, ← List.map_take, List.drop_eq_getElem_cons c3'', g1]
                rfl
              have cRep' : ∀ H K, xQuiet p 78 [.list [V.int .u8 (gt R.1.b 0)] false, .int .i64 q] H K = K (byV (List.replicate q (gt R.1.b 0))) := fun H K => quiet_by cRep
              have hrl : (List.replicate q (gt R.1.b 0)).length = q := List.length_replicate ..
              generalize List.replicate q (gt R.1.b 0) = rep at *
              simp -dsimp [-wAppend_list, h0, h1, h6, h7, w2, c3'', hone, cRep']
              refine ⟨by omega, by omega, ?_⟩
              refine app_acb 1 (by simpa using ha) (by simp) (by simp [capOk]; omega) fun v2 J2 b2 => ?_
              obtain ⟨y1, y2, y3⟩ := acb_val b2
              simp -dsimp [-wAppend_list, h0, h1, h6, h7, w2, y1, y2, y3]
              refine ⟨by omega, by omega, many - (out.length + q), by omega, kf, l.drop (z + 1), v2, J2, out ++ rep, ?_⟩
              simp -dsimp [h0, h1, h6, h7]
              refine ⟨by rw [tk_all]; rfl, fun x hx => l8 x (List.mem_of_mem_drop hx), by omega, by omega, by omega, by omega, ?_, b2⟩
              rw [← hT, ← hdrop, List.drop_drop]
        · rw [if_pos c2] at hT
          rw [← hT]
          simp -dsimp [h0, h1, h6, h7, x1, x2, x3, elen el, c1, w1, call_by cr, c2, wFix_by, isInl]
          simp -dsimp [byV]
      · rw [tkR, if_neg c1] at hT
        by_cases c2 : 0 < l.length
        · rw [if_pos c2] at hT
          rw [← hT]
          simp -dsimp [h0, h1, h6, h7, x1, x2, x3, elen el, c1, c2, wFix_by, isInl]
          simp -dsimp [byV]
        · rw [if_neg c2] at hT
          have c2' : l = [] := List.length_eq_zero_iff.1 (by omega)
          rw [← hT]
          simp -dsimp [h0, h1, h6, h7, x1, x2, x3, elen el, c1, c2', wFix_by, isInl]
          refine frz_acg 1 (k := 10) (by simpa using acb_ac ha) (by simp) (.inl ⟨rfl, by simp⟩) fun H' _ _ => ?_
          simp -dsimp [byV]
end Fz.D
set_option maxRecDepth 100000
namespace Fz.D
open Go
abbrev Ls (a b c : Nat) : Ob := .loop 70 [3, 5, 6] [.ptr a 0, .ptr b 0, .ptr c 0] .ready
def chg1 (m base : List Int) (n : Nat) : List Int := if pg m n = pg base n then [] else encN n ++ txt (rleF (pg m n))
def cnt1 (m base : List Int) (n : Nat) : Nat := if pg m n = pg base n then 0 else 1
theorem pg_len (b : List Int) (n : Nat) : (pg b n).length ≤ 64 ∧ 64 * n + (pg b n).length ≤ max b.length (64 * n) := by
  unfold pg
  rw [List.length_take, List.length_drop]; omega
theorem pg_by {b : List Int} (h : by8 b) (n : Nat) : by8 (pg b n) := fun x hx => h x (List.mem_of_mem_drop (List.mem_of_mem_take hx))
theorem rleK_len : ∀ (k : Nat) (l : List Int), l.length ≤ 1000000 → (rleK k l).length ≤ 66 * l.length := by
  intro k
  induction k with
  | zero => intro l _; simp [rleK]
  | succ k ih =>
    intro l hl
    cases l with
    | nil => simp [rleK]
    | cons c r =>
      have e1 : rleK (k + 1) (c :: r) = encN (rcount c (c :: r) : Nat) ++ c :: rleK k ((c :: r).drop (rcount c (c :: r))) := rfl
      have q2 := rcount_le c (c :: r)
      have q1 : 1 ≤ rcount c (c :: r) := by rw [rcount, if_pos rfl]; omega
      have h1 := encN_le (n := rcount c (c :: r)) (by omega)
      have h2 := ih ((c :: r).drop (rcount c (c :: r))) (by rw [List.length_drop]; omega)
      rw [List.length_drop] at h2
      rw [e1, List.length_append, List.length_cons]
      omega
theorem rleF_len {l : List Int} (h : l.length ≤ 1000000) : (rleF l).length ≤ 66 * l.length := rleK_len _ _ h
theorem bodyP_s {v : V} {n : Nat} {mem base out : List Int} {cnt : Nat} {J : List Ob} {Q : CR → List Ob → Prop} (h8m : by8 mem) (h8b : by8 base) (hml : mem.length = base.length) (hm : mem.length ≤ 100000) (hn : 64 * n < mem.length) (hlen : out.length ≤ 10000000) (hcnt : cnt ≤ 1000000) (ha : Acb 4 J v out)
    (hq0 : pg mem n = pg base n → Q (.ret (.bool true)) (Ls 1 2 3 :: .live [byV base] :: .live [v] :: .live [.int .i64 cnt] :: J))
    (hq1 : pg mem n ≠ pg base n → ∀ v' J', Acb (4 + J.length) J' v' (out ++ chg1 mem base n) → Q (.ret (.bool true)) (Ls 1 2 3 :: .live [byV base] :: .live [v'] :: .live [.int .i64 (cnt + 1 : Nat)] :: (J ++ J'))) :
    WFun p YF [.yld 0, .int .i64 n, byT (pg mem n)] (Ls 1 2 3 :: .live [byV base] :: .live [v] :: .live [.int .i64 cnt] :: J) Q := by
  have bp : bd70.ps = [14, 15] := rfl
  obtain ⟨q, hq'⟩ : ∃ q, q = 64 * n := ⟨_, rfl⟩
  have pl := pg_len mem n
  have pl2 := pg_len base n
  have hpl : (pg mem n).length = (pg base n).length := by unfold pg; rw [List.length_take, List.length_drop, List.length_take, List.length_drop, hml]
  have w1 : IntKind.i64.wrap ((n : Int) * 64) = (q : Int) := by rw [Fz.w64 (by omega) (by omega)]; omega
  obtain ⟨z, hz⟩ : ∃ z, z = q + (pg mem n).length := ⟨_, rfl⟩
  have w2 : IntKind.i64.wrap ((q : Int) + ((pg mem n).length : Int)) = (z : Int) := by rw [Fz.w64 (by omega) (by omega)]; omega
  obtain ⟨c1, hc1⟩ : ∃ c1, c1 = cnt + 1 := ⟨_, rfl⟩
  have w3 : IntKind.i64.wrap ((cnt : Int) + 1) = (c1 : Int) := by rw [Fz.w64 (by omega) (by omega)]; omega
  have hsl : List.take (z - q) (List.drop q (base.map (V.int .u8))) = (pg base n).map (V.int .u8) := by
    rw [show z - q = (pg mem n).length from by omega, ← List.map_drop, ← List.map_take]
    congr 1
    rw [hpl]
    unfold pg
    rw [hq', List.length_take]
    by_cases c : (List.drop (64 * n) base).length ≤ 64
    · rw [Nat.min_eq_right c, List.take_length, List.take_of_length_le c]
    · rw [Nat.min_eq_left (by omega)]
  have cE := equal_s (pg_by h8m n) (pg_by h8b n)
  have cN := num_s (n := (n : Int)) (by unfold i64; omega)
  have e0 : numB (zz (n : Int)).toNat = encN n := rfl
  rw [e0] at cN
  have cR := rle_s (b := pg mem n) (by omega)
  have lR := rleF_len (l := pg mem n) (by omega)
  have cT := text_s (b := rleF (pg mem n)) (by omega)
  have e1 : numB (zz ((rleF (pg mem n)).length : Int)).toNat ++ rleF (pg mem n) = txt (rleF (pg mem n)) := rfl
  rw [e1] at cT
  have cE' : ∀ H Q, xCall p 12 [.list ((pg mem n).map (V.int .u8)) true, .list ((pg base n).map (V.int .u8)) false] H Q = Q (.ret (.bool (decide (pg mem n = pg base n)))) H := fun H Q => call_nrm rfl (by simp) (by simp [byV, nrm, nrmL_eq]) cE
  have cR' : ∀ H K, xQuiet p 16 [.list ((pg mem n).map (V.int .u8)) true] H K = K (byV (rleF (pg mem n))) := fun H K => quiet_nrm rfl (by simp) (by simp [byV, nrm, nrmL_eq]) cR
  refine WFun_round ca70 cb70 (k := 70) rfl rfl rfl rfl rfl ka70 kb70 ?_
  by_cases hE : pg mem n = pg base n
  · have hq := hq0 hE
    rw [decide_eq_true hE] at cE'
    simp -dsimp [ca70, cb70, setPs, envT, assignQ, bp, roundQ, w1, w2, hsl, byT, cE']
    exact ⟨⟨by omega, by omega⟩, hq⟩
  · rw [decide_eq_false hE] at cE'
    have hq := hq1 hE
    have hch : chg1 mem base n = encN n ++ txt (rleF (pg mem n)) := by unfold chg1; rw [if_neg hE]
    rw [hch] at hq
    have lN := encN_le (n := n) (by omega)
    have lT : (txt (rleF (pg mem n))).length ≤ 100000 := by
      have := encN_le (n := (rleF (pg mem n)).length) (by omega)
      unfold txt; rw [List.length_append]; omega
    generalize txt (rleF (pg mem n)) = tx at *
    rcases ha with ⟨rfl, rfl⟩ | ⟨j, bs, rfl, a1, a2, a3⟩
    · simp -dsimp [ca70, cb70, setPs, envT, assignQ, bp, roundQ, w1, w2, hsl, byT, cE', quiet_by cN, cR', quiet_by cT, fillV, splice, wOpt, chunk]
      refine ⟨⟨by omega, by omega⟩, ?_⟩
      refine concat_lists (ls := [[], encN n, tx]) rfl (fun i h => ?_) (by simp [tot]; omega) (by simp) fun v' J' a' => ?_
      · match i, h with
        | 0, _ => exact ⟨_, rfl, true, rfl⟩
        | 1, _ => exact ⟨_, rfl, false, rfl⟩
        | 2, _ => exact ⟨_, rfl, false, rfl⟩
      · obtain ⟨x1, x2, x3⟩ := acb_val a'
        simp -dsimp [w3, x1, x2, x3, roundQ]
        have := hq v' J' (by simpa [cat, show J.length + 1 + 1 + 1 + 1 = 4 + J.length from by omega] using a')
        rw [← hc1] at this
        exact this
    · simp -dsimp [ca70, cb70, setPs, envT, assignQ, bp, roundQ, w1, w2, hsl, byT, cE', quiet_by cN, cR', quiet_by cT, fillV, splice, wOpt, chunk]
      refine ⟨⟨by omega, by omega⟩, rfl, ?_⟩
      refine concat_own2 (ls := [out, encN n, tx]) (k := 0) (id := 4 + j) (bs := bs) ?_ (by simp) (fun i h hi => ?_) ?_ ?_ a2 a3 (by simp [tot]; omega) (by simp) fun v' J' a' => ?_
      · rfl
      · match i, h, hi with
        | 1, _, _ => exact ⟨_, rfl, false, rfl⟩
        | 2, _, _ => exact ⟨_, rfl, false, rfl⟩
      · rfl
      · rw [show 4 + j = j + 1 + 1 + 1 + 1 from by omega]; exact a1
      · obtain ⟨x1, x2, x3⟩ := acb_val a'
        simp -dsimp [w3, x1, x2, x3, roundQ]
        have := hq v' J' (by simpa [cat, show J.length + 1 + 1 + 1 + 1 = 4 + J.length from by omega] using a')
        rw [← hc1] at this
        exact this
theorem yldP_s {M : Ob} {v : V} {n : Nat} {mem base out : List Int} {cnt : Nat} {T : List Ob} {Q : CR → List Ob → Prop} (h8m : by8 mem) (h8b : by8 base) (hml : mem.length = base.length) (hm : mem.length ≤ 100000) (hn : 64 * n < mem.length) (hlen : out.length ≤ 10000000) (hcnt : cnt ≤ 1000000) (ha : Acb 5 T v out)
    (hq : ∀ v' T', Acb 5 T' v' (out ++ chg1 mem base n) → Q (.ret (.bool true)) (Ls 2 3 4 :: M :: .live [byV base] :: .live [v'] :: .live [.int .i64 (cnt + cnt1 mem base n : Nat)] :: T')) :
    WCall p YF [.yld 0, .int .i64 n, byT (pg mem n)] (Ls 2 3 4 :: M :: .live [byV base] :: .live [v] :: .live [.int .i64 cnt] :: T) Q := by
  have h0 : refsL [.yld 0, .int .i64 n, byT (pg mem n)] = [0] := by
    rw [refsL, refsL, refsL, ground_refs _ (byT.gd _)]; simp [refs, refsL]
  have rb : ∀ g b, ren g (byV b) = byV b := fun g b => ground_ren g _ (byV.gd b)
  have rt : ∀ g, ren g (byT (pg mem n)) = byT (pg mem n) := fun g => ground_ren g _ (byT.gd _)
  have hb0 : ∀ b, refs (byV b) = [] := fun b => ground_refs _ (byV.gd b)
  have hc0 : pg mem n = pg base n → out ++ chg1 mem base n = out ∧ cnt + cnt1 mem base n = cnt := fun h => by unfold chg1 cnt1; rw [if_pos h, if_pos h]; simp
  have hc1 : pg mem n ≠ pg base n → cnt + cnt1 mem base n = cnt + 1 ∧ out ++ chg1 mem base n ≠ [] := fun h => by unfold chg1 cnt1; rw [if_neg h, if_neg h]; simp [encN_ne]
  rcases ha with ⟨rfl, rfl⟩ | ⟨j, bs, rfl, a1, a2, a3⟩
  · have hre1 : reach (Ls 2 3 4 :: M :: .live [byV base] :: .live [.list [] true] :: .live [.int .i64 cnt] :: T) 1000 (refsL [.yld 0, .int .i64 n, byT (pg mem n)]) [] = some [0, 2, 3, 4] := by
      rw [h0]
      show reach _ (995 + 1 + 1 + 1 + 1 + 1) [0] [] = _
      simp [reach, refsOb, refsL, refs, hb0]
    refine WCall_inl rfl hre1 ?_
    have i2 : List.idxOf 2 [0, 2, 3, 4] = 1 := rfl
    have i3 : List.idxOf 3 [0, 2, 3, 4] = 2 := rfl
    have i4 : List.idxOf 4 [0, 2, 3, 4] = 3 := rfl
    have k0 : backK [0, 2, 3, 4] (T.length + 1 + 1 + 1 + 1 + 1) 0 = 0 := rfl
    have k1 : backK [0, 2, 3, 4] (T.length + 1 + 1 + 1 + 1 + 1) 1 = 2 := rfl
    have k2 : backK [0, 2, 3, 4] (T.length + 1 + 1 + 1 + 1 + 1) 2 = 3 := rfl
    have k3 : backK [0, 2, 3, 4] (T.length + 1 + 1 + 1 + 1 + 1) 3 = 4 := rfl
    have kJ : ∀ j, backK [0, 2, 3, 4] (T.length + 1 + 1 + 1 + 1 + 1) (4 + j) = T.length + 1 + 1 + 1 + 1 + 1 + j := fun j => by simp [backK]; omega
    simp -dsimp [renL, ren, renOb, i2, i3, i4, rb, rt]
    refine bodyP_s (J := []) h8m h8b hml hm hn hlen hcnt acb_nil (fun hE => ⟨by simp, ?_⟩) (fun hE v' J' a' => ⟨by simp, ?_⟩)
    · have := hq (.list [] true) T (by rw [(hc0 hE).1]; exact acb_nil)
      rw [(hc0 hE).2] at this
      simpa [backH, setAll, renOb, ren, renL, renR, crV, refs, refsL, refsOb, hb0, k0, k1, k2, k3, rb] using this
    · rcases acb_cases a' with ⟨_, h⟩ | ⟨j, len, rfl, _⟩
      · exact absurd h (hc1 hE).2
      · have := hq (.own (T.length + 1 + 1 + 1 + 1 + 1 + j) 0 len 1) (T ++ J'.map (renOb (backK [0, 2, 3, 4] (T.length + 1 + 1 + 1 + 1 + 1)))) ?_
        · rw [(hc1 hE).1] at this
          simp [backH, setAll, renOb, ren, renL, renR, crV, refs, refsL, refsOb, hb0, k0, k1, k2, k3, kJ, rb]
          exact this
        · have := acb_back (n := T.length + 1 + 1 + 1 + 1 + 1) (g := backK [0, 2, 3, 4] (T.length + 1 + 1 + 1 + 1 + 1)) (b := 4) kJ a'
          rw [show 4 + ([] : List Ob).length + j = 4 + j from rfl, kJ] at this
          exact acb_shift (b := 5) this (by omega)
  · have hjl : j < T.length := (List.getElem?_eq_some_iff.1 a1).1
    have hj5 : (Ls 2 3 4 :: M :: .live [byV base] :: .live [.own (5 + j) 0 out.length 1] :: .live [.int .i64 cnt] :: T)[5 + j]? = some (.live (bs.map (V.int .u8))) := by
      rw [show 5 + j = j + 1 + 1 + 1 + 1 + 1 from by omega]; simpa using a1
    have hj6 : (Ls 2 3 4 :: M :: .live [byV base] :: .live [.own (5 + j) 0 out.length 1] :: .live [.int .i64 cnt] :: T)[5 + j]?.getD .dead = .live (bs.map (V.int .u8)) := by rw [hj5]; rfl
    have hre1 : reach (Ls 2 3 4 :: M :: .live [byV base] :: .live [.own (5 + j) 0 out.length 1] :: .live [.int .i64 cnt] :: T) 1000 (refsL [.yld 0, .int .i64 n, byT (pg mem n)]) [] = some [0, 2, 3, 4, 5 + j] := by
      rw [h0]
      refine (reach_go (k := 999) rfl rfl).trans ?_
      refine (reach_go (k := 998) (by rfl) rfl).trans ?_
      simp only [refsOb, refsL, refs, hb0, List.nil_append, List.cons_append, List.append_nil]
      refine (reach_go (k := 997) (by rfl) rfl).trans ?_
      simp only [refsOb, refsL, refs, List.append_nil, List.nil_append, List.cons_append]
      refine (reach_go (k := 996) (by rfl) rfl).trans ?_
      simp only [refsOb, refsL, refs, List.append_nil, List.nil_append, List.cons_append]
      refine (reach_go (k := 995) (by simp; omega) hj5).trans ?_
      simp only [refsOb, refs_ints, List.append_nil, List.nil_append]
      exact reach_end (k := 994)
    refine WCall_inl rfl hre1 ?_
    have i2 : List.idxOf 2 [0, 2, 3, 4, 5 + j] = 1 := rfl
    have i3 : List.idxOf 3 [0, 2, 3, 4, 5 + j] = 2 := rfl
    have i4 : List.idxOf 4 [0, 2, 3, 4, 5 + j] = 3 := rfl
    have i5 : List.idxOf (5 + j) [0, 2, 3, 4, 5 + j] = 4 := by
      have e0 : (0 == 5 + j) = false := by rw [beq_eq_false_iff_ne]; omega
      have e2 : (2 == 5 + j) = false := by rw [beq_eq_false_iff_ne]; omega
      have e3 : (3 == 5 + j) = false := by rw [beq_eq_false_iff_ne]; omega
      have e4 : (4 == 5 + j) = false := by rw [beq_eq_false_iff_ne]; omega
      simp [List.idxOf_cons, e0, e2, e3, e4]
    have k0 : backK [0, 2, 3, 4, 5 + j] (T.length + 1 + 1 + 1 + 1 + 1) 0 = 0 := rfl
    have k1 : backK [0, 2, 3, 4, 5 + j] (T.length + 1 + 1 + 1 + 1 + 1) 1 = 2 := rfl
    have k2 : backK [0, 2, 3, 4, 5 + j] (T.length + 1 + 1 + 1 + 1 + 1) 2 = 3 := rfl
    have k3 : backK [0, 2, 3, 4, 5 + j] (T.length + 1 + 1 + 1 + 1 + 1) 3 = 4 := rfl
    have k4 : backK [0, 2, 3, 4, 5 + j] (T.length + 1 + 1 + 1 + 1 + 1) 4 = 5 + j := rfl
    have kJ : ∀ i, backK [0, 2, 3, 4, 5 + j] (T.length + 1 + 1 + 1 + 1 + 1) (5 + i) = T.length + 1 + 1 + 1 + 1 + 1 + i := fun i => by simp [backK]; omega
    have s5 : ∀ (x y z w u : Ob), (x :: y :: z :: w :: u :: T).set (5 + j) (.live (bs.map (V.int .u8))) = x :: y :: z :: w :: u :: T := fun x y z w u => by
      rw [show 5 + j = j + 1 + 1 + 1 + 1 + 1 from by omega]
      simp [set_same a1]
    simp -dsimp [renL, ren, renOb, i2, i3, i4, i5, rb, rt, hj6]
    refine bodyP_s (J := [.live (bs.map (V.int .u8))]) h8m h8b hml hm hn hlen hcnt (.inr ⟨0, bs, rfl, rfl, a2, a3⟩) (fun hE => ⟨by simp, ?_⟩) (fun hE v' J' a' => ⟨by simp, ?_⟩)
    · have := hq (.own (5 + j) 0 out.length 1) T (by rw [(hc0 hE).1]; exact .inr ⟨j, bs, rfl, a1, a2, a3⟩)
      rw [(hc0 hE).2] at this
      simp [backH, setAll, renOb, ren, renL, renR, crV, refs, refsL, refsOb, hb0, k0, k1, k2, k3, k4, rb]
      rw [s5]
      exact this
    · rcases acb_cases a' with ⟨_, h⟩ | ⟨i, len, rfl, _⟩
      · exact absurd h (hc1 hE).2
      · have := hq (.own (T.length + 1 + 1 + 1 + 1 + 1 + i) 0 len 1) (T ++ J'.map (renOb (backK [0, 2, 3, 4, 5 + j] (T.length + 1 + 1 + 1 + 1 + 1)))) ?_
        · rw [(hc1 hE).1] at this
          simp [backH, setAll, renOb, ren, renL, renR, crV, refs, refsL, refsOb, hb0, k0, k1, k2, k3, k4, kJ, rb]
          rw [s5]
          exact this
        · have := acb_back (n := T.length + 1 + 1 + 1 + 1 + 1) (g := backK [0, 2, 3, 4, 5 + j] (T.length + 1 + 1 + 1 + 1 + 1)) (b := 5) kJ a'
          rw [show 4 + [Ob.live (bs.map (V.int .u8))].length + i = 5 + i from rfl, kJ] at this
          exact acb_shift (b := 5) this (by omega)
end Fz.D
set_option maxRecDepth 100000
namespace Fz.D
open Go
def chgK (m base : List Int) : Nat → List Int
  | 0 => []
  | k + 1 => chgK m base k ++ chg1 m base k
def cntK (m base : List Int) : Nat → Nat
  | 0 => 0
  | k + 1 => cntK m base k + cnt1 m base k
theorem chg1_len (m base : List Int) (n : Nat) (hn : n ≤ 1000000) : (chg1 m base n).length ≤ 4400 := by
  unfold chg1
  split
  · simp
  · have h1 := encN_le hn
    have h2 := pg_len m n
    have h3 := rleF_len (l := pg m n) (by omega)
    have h4 := encN_le (n := (rleF (pg m n)).length) (by omega)
    unfold txt
    rw [List.length_append, List.length_append]; omega
theorem chgK_len (m base : List Int) : ∀ k : Nat, k ≤ 1000000 → (chgK m base k).length ≤ 4400 * k := by
  intro k
  induction k with
  | zero => intro _; simp [chgK]
  | succ k ih =>
    intro h
    have h1 := ih (by omega)
    have h2 := chg1_len m base k (by omega)
    rw [chgK, List.length_append]; omega
theorem cntK_le (m base : List Int) (k : Nat) : cntK m base k ≤ k := by
  induction k with
  | zero => simp [cntK]
  | succ k ih => rw [cntK]; unfold cnt1; split <;> omega
theorem pagesL_s {mem base : List Int} (h8m : by8 mem) (h8b : by8 base) (hml : mem.length = base.length) (hm0 : mem.length ≤ 100000) {Q : CR → List Ob → Prop}
    (hq : ∀ v T, Acb 5 T v (chgK mem base (npg mem)) → Q (.ret (.tuple [])) (Ls 2 3 4 :: .live [byV mem] :: .live [byV base] :: .live [v] :: .live [.int .i64 (cntK mem base (npg mem))] :: T)) :
    WFun p 33 [.yld 0, .ptr 1 0] [Ls 2 3 4, .live [byV mem], .live [byV base], .live [.list [] true], .live [.int .i64 0]] Q := by
  have hN : npg mem ≤ 2000 := by unfold npg; omega
  have hN1 : ∀ n, n < npg mem ↔ 64 * n < mem.length := fun n => by unfold npg; omega
  refine WFun_of w33 rfl rfl k33 ?_
  simp -dsimp [w33]
  refine xL_by (by kernel_rfl) (fun k e H => ∃ (n : Nat) (v : V) (T : List Ob), n ≤ npg mem ∧ k = npg mem - n ∧ e 0 = .yld 0 ∧ e 1 = .ptr 1 0 ∧ e 3 = .int .i64 n ∧ H = Ls 2 3 4 :: .live [byV mem] :: .live [byV base] :: .live [v] :: .live [.int .i64 (cntK mem base n)] :: T ∧ Acb 5 T v (chgK mem base n)) (npg mem) ?_ ?_
  · exact ⟨0, .list [] true, [], by omega, rfl, rfl, rfl, rfl, rfl, acb_nil⟩
  · rintro k e H ⟨n, v, T, hn, hk, h0, h1, h3, rfl, ha⟩
    obtain ⟨q, hq'⟩ : ∃ q, q = 64 * n := ⟨_, rfl⟩
    have w1 : IntKind.i64.wrap ((n : Int) * 64) = (q : Int) := by rw [Fz.w64 (by omega) (by omega)]; omega
    have w2 : IntKind.i64.wrap ((q : Int) + 64) = ((q + 64 : Nat) : Int) := by rw [Fz.w64 (by omega) (by omega)]; omega
    have w3 : IntKind.i64.wrap ((n : Int) + 1) = ((n + 1 : Nat) : Int) := by rw [Fz.w64 (by omega) (by omega)]; omega
    by_cases c1 : n < npg mem
    · have c2 := (hN1 n).1 c1
      have c3 : q < mem.length := by omega
      obtain ⟨z, hz⟩ : ∃ z, z = min (q + 64) mem.length := ⟨_, rfl⟩
      have hm : (if (mem.length : Int) < (q : Int) + 64 then (mem.length : Int) else (q : Int) + 64) = (z : Int) := by split <;> omega
      simp -dsimp [h0, h1, h3, w1, w2, c3, hm]
      refine ⟨⟨by omega, by omega⟩, ?_⟩
      have e2 : V.list (List.take (z - q) (List.drop q (List.map (V.int .u8) mem))) true = byT (pg mem n) := by
        unfold byT pg
        rw [← hq', ← List.map_drop, ← List.map_take]
        congr 2
        by_cases c : q + 64 ≤ mem.length
        · rw [show z - q = 64 from by omega]
        · rw [List.take_of_length_le (by rw [List.length_drop]; omega), List.take_of_length_le (by rw [List.length_drop]; omega)]
      rw [e2]
      have hl := chgK_len mem base n (by omega)
      have hc := cntK_le mem base n
      refine yldP_s h8m h8b hml hm0 c2 (by omega) (by omega) ha fun v' T' ha' => ?_
      simp -dsimp [h0, h1, h3, w3]
      refine ⟨npg mem - (n + 1), by omega, n + 1, v', T', by omega, rfl, ?_⟩
      simp -dsimp [h0, h1, cntK, chgK]
      exact ha'
    · have hnn : n = npg mem := by omega
      subst hnn
      have c2 : ¬ q < mem.length := by have := hN1 (npg mem); omega
      simp -dsimp [h0, h1, h3, w1, c2]
      exact hq v T ha
theorem pagesP_s (b : List Int) {H : List Ob} {Q : CR → List Ob → Prop} (hq : Q (.ret (.fn (.func 33) [] [.ptr H.length 0])) (H ++ [.live [byV b]])) : xCall p 11 [byV b] H Q := by
  have h0 : refsL [byV b] = [] := groundL_refs _ (by simp)
  refine WCall_inl (by kernel_rfl) (ids := []) (by rw [h0]; rfl) ?_
  have r0 : renL (fun i => List.idxOf i ([] : List Nat)) [byV b] = [byV b] := groundL_ren _ _ (by simp)
  rw [r0]
  refine WFun_of w11 rfl rfl k11 ?_
  simp -dsimp [w11, renL, ren]
  have rb : ∀ g, ren g (byV b) = byV b := fun g => ground_ren g _ (byV.gd b)
  simpa [renR, ren, renL, backH, crV, refs, refsL, setAll, renOb, backK, rb] using hq
theorem rangeP_s {o0 : Ob} {mem base : List Int} {e : Env} {Q : QX} (h8m : by8 mem) (h8b : by8 base) (hml : mem.length = base.length) (hm : mem.length ≤ 100000) (h3 : e 3 = .ptr 1 0) (h5 : e 5 = .ptr 2 0) (h6 : e 6 = .ptr 3 0)
    (hq : ∀ v T, Acb 6 T v (chgK mem base (npg mem)) → Q .normal e (o0 :: .live [byV base] :: .live [v] :: .live [.int .i64 (cntK mem base (npg mem))] :: .live [byV mem] :: .dead :: T)) :
    WRange p 70 (.fn (.func 33) [] [.ptr 4 0]) e [o0, .live [byV base], .live [.list [] true], .live [.int .i64 0], .live [byV mem]] Q := by
  have e1 : ∀ b, refs (byV b) = [] := fun b => ground_refs _ (byV.gd b)
  have ra : ∀ g b, ren g (byV b) = byV b := fun g b => ground_ren g _ (byV.gd b)
  have hk : bd70.keep.map e = [.ptr 1 0, .ptr 2 0, .ptr 3 0] := by show [e 3, e 5, e 6] = _; rw [h3, h5, h6]
  refine WRange_of (ab := bd70) (ids := [5, 4, 1, 2, 3]) rfl (by decide) rfl rfl ?_ ?_
  · have : refsL ([] ++ [V.yld 5] ++ [V.ptr 4 0]) = [5, 4] := by simp [refsL, refs]
    show reach _ 1000 (refsL ([] ++ [V.yld 5] ++ [V.ptr 4 0])) [] = _
    rw [this, hk]
    refine (reach_go (k := 999) rfl rfl).trans ?_
    refine (reach_go (k := 998) rfl rfl).trans ?_
    simp only [refsOb, refsL, refs, e1, List.nil_append, List.cons_append, List.append_nil]
    refine (reach_go (k := 997) rfl rfl).trans ?_
    simp only [refsOb, refsL, refs, e1, List.nil_append, List.cons_append, List.append_nil]
    refine (reach_go (k := 996) rfl rfl).trans ?_
    simp only [refsOb, refsL, refs, e1, List.nil_append, List.cons_append, List.append_nil]
    refine (reach_go (k := 995) rfl rfl).trans ?_
    simp only [refsOb, refsL, refs, e1, List.nil_append, List.cons_append, List.append_nil]
    exact reach_end (k := 994)
  · rw [hk]
    have i5 : List.idxOf 5 [5, 4, 1, 2, 3] = 0 := rfl
    have i4 : List.idxOf 4 [5, 4, 1, 2, 3] = 1 := rfl
    have i1 : List.idxOf 1 [5, 4, 1, 2, 3] = 2 := rfl
    have i2 : List.idxOf 2 [5, 4, 1, 2, 3] = 3 := rfl
    have i3 : List.idxOf 3 [5, 4, 1, 2, 3] = 4 := rfl
    have ka : bd70.keep = [3, 5, 6] := rfl
    simp [renL, ren, renOb, i5, i4, i1, i2, i3, ra, ka]
    refine pagesL_s h8m h8b hml hm fun v T hac => ⟨by simp, ?_⟩
    have k0 : backK [5, 4, 1, 2, 3] 6 0 = 5 := rfl
    have k2 : backK [5, 4, 1, 2, 3] 6 2 = 1 := rfl
    have k3 : backK [5, 4, 1, 2, 3] 6 3 = 2 := rfl
    have k4 : backK [5, 4, 1, 2, 3] 6 4 = 3 := rfl
    have kJ : ∀ j, backK [5, 4, 1, 2, 3] 6 (5 + j) = 6 + j := fun j => by simp [backK]; omega
    rcases acb_cases hac with ⟨rfl, h⟩ | ⟨j, len, rfl, _⟩
    · refine ⟨.normal, e, _, ?_, hq (.list [] true) [] (.inl ⟨h, rfl⟩)⟩
      simp [backH, setAll, renOb, ren, renL, renR, crV, refs, refsL, refsOb, e1, ra, k0, k2, k3, k4, endRange]
    · refine ⟨.normal, e, _, ?_, hq (.own (6 + j) 0 len 1) (T.map (renOb (backK [5, 4, 1, 2, 3] 6))) ?_⟩
      · simp [backH, setAll, renOb, ren, renL, renR, crV, refs, refsL, refsOb, e1, ra, k0, k2, k3, k4, kJ, endRange]
      · have := acb_back (n := 6) (g := backK [5, 4, 1, 2, 3] 6) (b := 5) kJ hac
        rw [kJ] at this
        exact this
def snapF (s : St) (base : List Int) : List Int := encN (cntK s.mem base (npg s.mem) : Nat) ++ (chgK s.mem base (npg s.mem) ++ (txt s.out ++ txt (encD (diffD (rest s) St0))))
end Fz.D
set_option maxRecDepth 100000
namespace Fz.D
open Go
def wrong (e : Int) : V := .iface wrongT (.int .i64 e)
theorem must_0 {H : List Ob} {Q : CR → List Ob → Prop} (hq : Q (.ret (.tuple [])) H) : xCall p 24 [.int .i64 0] H Q := by
  refine WCall_inl (ids := []) rfl rfl ?_
  refine WFun_of w24 rfl rfl k24 ?_
  simp -dsimp [w24, backH, setAll, renR, crV, refs, refsL, renL, ren, hq]
theorem must_x {e : Int} (he : e ≠ 0) {H : List Ob} {Q : CR → List Ob → Prop} (hq : Q (.panic (wrong e)) H) : xCall p 24 [.int .i64 e] H Q := by
  refine WCall_inl (ids := []) rfl rfl ?_
  refine WFun_of w24 rfl rfl k24 ?_
  unfold wrong wrongT at hq
  simp -dsimp [w24, backH, setAll, renR, crV, refs, refsL, renL, ren, he, hq]
end Fz.D
set_option maxRecDepth 100000
namespace Fz.D
open Go
theorem rcount_rep (c : Int) : ∀ l : List Int, List.replicate (rcount c l) c ++ l.drop (rcount c l) = l
  | [] => rfl
  | x :: r => by
    have ih := rcount_rep c r
    unfold rcount
    split
    · rename_i h
      rw [List.replicate_succ, List.drop_succ_cons, List.cons_append, ih, h]
    · rfl
theorem rcount_next (c : Int) : ∀ l : List Int, ∀ x t, l.drop (rcount c l) = x :: t → x ≠ c
  | [], _, _, h => by simp at h
  | y :: r, x, t, h => by
    unfold rcount at h
    split at h
    · rw [List.drop_succ_cons] at h; exact rcount_next c r x t h
    · rename_i hne
      rw [List.drop_zero] at h
      cases h
      exact hne
theorem rcount_app (c : Int) (n : Nat) (r : List Int) (h : ∀ x t, r = x :: t → x ≠ c) : rcount c (List.replicate n c ++ r) = n := by
  induction n with
  | zero =>
    cases r with
    | nil => rfl
    | cons x t => simp only [List.replicate_zero, List.nil_append]; rw [rcount, if_neg (h x t rfl)]
  | succ n ih => rw [List.replicate_succ, List.cons_append, rcount, if_pos rfl, ih]
theorem lastIs_app (out : List Int) (n : Nat) (c d : Int) (hn : 1 ≤ n) : lastIs (out ++ List.replicate n c) d = decide (c = d) := by
  obtain ⟨m, rfl⟩ : ∃ m, n = m + 1 := ⟨n - 1, by omega⟩
  have e : gt (out ++ List.replicate (m + 1) c) ((out ++ List.replicate (m + 1) c).length - 1) = c := by
    unfold gt
    rw [List.getD_eq_getElem?_getD, List.length_append, List.length_replicate, List.getElem?_append_right (by omega), List.getElem?_replicate, if_pos (by omega)]
    rfl
  unfold lastIs
  rw [e, List.length_append, List.length_replicate]
  simp
  omega
theorem rle_A {b : List Int} (hb : b.length ≤ 1000000) : ∀ (k m : Nat) (out r : List Int), out ++ r = b → r.length < k → r.length ≤ m → (∀ x t, r = x :: t → lastIs out x = false) → tkR b.length k out (rleK m r) = (b, 0) := by
  intro k
  induction k with
  | zero => intro m out r _ h; omega
  | succ k ih =>
    intro m out r he hk hm hl
    have hlen := congrArg List.length he
    rw [List.length_append] at hlen
    cases r with
    | nil =>
      rw [tkR, if_neg (by simp at hlen; omega), rleK_nil]
      rw [List.append_nil] at he
      rw [if_neg (by simp), he]
    | cons c t =>
      obtain ⟨m, rfl⟩ : ∃ q, m = q + 1 := ⟨m - 1, by simp at hm; omega⟩
      have q2 := rcount_le c (c :: t)
      have q1 : 1 ≤ rcount c (c :: t) := by rw [rcount, if_pos rfl]; omega
      have q3 := rcount_rep c (c :: t)
      have q4 := rcount_next c (c :: t)
      have e1 : rleK (m + 1) (c :: t) = encN (rcount c (c :: t) : Nat) ++ c :: rleK m ((c :: t).drop (rcount c (c :: t))) := rfl
      generalize hq : rcount c (c :: t) = q at *
      have hrd : rd 1 (b.length - out.length : Nat) ⟨rleK (m + 1) (c :: t), 0⟩ = (⟨c :: rleK m ((c :: t).drop q), 0⟩, (q : Int)) := by
        rw [e1]; exact rd_A (by unfold i64; omega) (by omega) (by omega) _
      rw [tkR, if_pos (by simp at hlen; omega), hrd]
      have g0 : gt (c :: rleK m ((c :: t).drop q)) 0 = c := rfl
      simp only [ne_eq, not_true_eq_false, if_false, g0, Int.toNat_natCast, List.drop_succ_cons, List.drop_zero]
      rw [if_neg (by simp), if_neg (by rw [hl c t rfl]; simp)]
      refine ih m (out ++ List.replicate q c) ((c :: t).drop q) (by rw [List.append_assoc, q3]; exact he) (by rw [List.length_drop]; omega) (by rw [List.length_drop]; omega) ?_
      intro x t' hx
      rw [lastIs_app _ _ _ _ q1]
      simpa using fun h => q4 x t' hx h.symm
theorem takeR_A {b : List Int} (hb : b.length ≤ 1000000) : takeR (rleF b) b.length = (b, 0) :=
  rle_A hb (b.length + 1) b.length [] b rfl (by omega) (by omega) (fun _ _ _ => rfl)
theorem rle_B {many : Nat} (hm : many ≤ 1000000) : ∀ (k : Nat) (out b : List Int), by8 b → many < out.length + k → out.length ≤ many → (tkR many k out b).2 = 0 → ∃ r, (tkR many k out b).1 = out ++ r ∧ (out ++ r).length = many ∧ (∀ x t, r = x :: t → lastIs out x = false) ∧ by8 r ∧ ∀ m, r.length ≤ m → b = rleK m r := by
  intro k
  induction k with
  | zero => intro out b _ _ _; omega
  | succ k ih =>
    intro out b h8 hk ho he
    rw [tkR] at he ⊢
    by_cases c1 : out.length < many
    · rw [if_pos c1] at he ⊢
      have hB := @rd_B 1 (many - out.length : Nat) ⟨b, 0⟩ h8
      generalize rd 1 (many - out.length : Nat) ⟨b, 0⟩ = R at *
      obtain ⟨⟨rb, re⟩, n⟩ := R
      simp only at he hB ⊢
      by_cases c2 : re ≠ 0
      · rw [if_pos c2] at he; exact absurd he c2
      rw [if_neg c2] at he ⊢
      obtain ⟨_, hb, hn, hn1, hn2⟩ := hB (by omega)
      by_cases c3 : rb.length = 0
      · rw [if_pos c3] at he; simp at he
      rw [if_neg c3] at he ⊢
      cases c4 : lastIs out (gt rb 0) with
      | true => rw [c4] at he; simp at he
      | false =>
        rw [c4] at he
        simp only [Bool.false_eq_true, if_false] at he ⊢
        cases rb with
        | nil => simp at c3
        | cons c t =>
          have g0 : gt (c :: t) 0 = c := rfl
          rw [g0] at he c4 ⊢
          rw [List.drop_succ_cons, List.drop_zero] at he ⊢
          have h8' : by8 (c :: t) := fun x hx => h8 x (by rw [hb]; exact List.mem_append_right _ hx)
          obtain ⟨q, hq⟩ : ∃ q : Nat, n = q := ⟨n.toNat, by omega⟩
          subst hq
          rw [Int.toNat_natCast] at he ⊢
          obtain ⟨r, i1, i2, i3, i5, i4⟩ := ih (out ++ List.replicate q c) t (fun x hx => h8' x (List.mem_cons_of_mem _ hx)) (by simp; omega) (by simp; omega) he
          have hrc : rcount c (List.replicate q c ++ r) = q := rcount_app c q r fun x t' hx => by
            have := i3 x t' hx
            rw [lastIs_app _ _ _ _ (by omega)] at this
            simpa using fun h : x = c => (by simpa using this : ¬ c = x) h.symm
          refine ⟨List.replicate q c ++ r, by rw [i1, List.append_assoc], by rw [← i2, List.append_assoc], ?_, ?_, ?_⟩
          · intro x t' hx
            obtain ⟨q', rfl⟩ : ∃ z, q = z + 1 := ⟨q - 1, by omega⟩
            rw [List.replicate_succ, List.cons_append] at hx
            cases hx
            exact c4
          · intro x hx
            rcases List.mem_append.1 hx with h | h
            · rw [(List.mem_replicate.1 h).2]; exact h8' c (List.mem_cons_self ..)
            · exact i5 x h
          · intro m hm
            obtain ⟨q', hq'⟩ : ∃ z, q = z + 1 := ⟨q - 1, by omega⟩
            obtain ⟨m, rfl⟩ : ∃ z, m = z + 1 := ⟨m - 1, by rw [List.length_append, List.length_replicate] at hm; omega⟩
            have e2 : List.replicate q c ++ r = c :: (List.replicate q' c ++ r) := by rw [hq', List.replicate_succ, List.cons_append]
            have e3 : rleK (m + 1) (List.replicate q c ++ r) = encN (q : Int) ++ c :: rleK m r := by
              have e4 : rleK (m + 1) (List.replicate q c ++ r) = encN (rcount c (List.replicate q c ++ r) : Nat) ++ c :: rleK m ((List.replicate q c ++ r).drop (rcount c (List.replicate q c ++ r))) := by
                rw [e2]; rfl
              rw [e4, hrc, List.drop_append_of_le_length (by simp), List.drop_of_length_le (by simp), List.nil_append]
            rw [e3, ← i4 m (by rw [List.length_append, List.length_replicate] at hm; omega)]
            exact hb
    · rw [if_neg c1] at he ⊢
      by_cases c5 : 0 < b.length
      · rw [if_pos c5] at he; simp at he
      · rw [if_neg c5]
        refine ⟨[], by simp, by simp; omega, fun _ _ h => by simp at h, fun _ h => by simp at h, fun m _ => ?_⟩
        rw [rleK_nil]
        exact List.length_eq_zero_iff.1 (by omega)
theorem takeR_B {b : List Int} {many : Nat} (hm : many ≤ 1000000) (h8 : by8 b) (he : (takeR b many).2 = 0) : (takeR b many).1.length = many ∧ by8 (takeR b many).1 ∧ rleF (takeR b many).1 = b := by
  obtain ⟨r, h1, h2, _, h5, h4⟩ := rle_B hm (many + 1) [] b h8 (by simp) (by simp) he
  unfold takeR
  rw [h1]
  exact ⟨h2, by simpa using h5, (h4 _ (by simp)).symm⟩
end Fz.D
set_option maxRecDepth 100000
namespace Fz.D
open Go
theorem is_t {H : List Ob} {Q : CR → List Ob → Prop} (hq : Q (.ret (.tuple [])) H) : xCall p 55 [.bool true] H Q := by
  refine WCall_inl (ids := []) rfl rfl ?_
  refine WFun_of w55 rfl rfl k55 ?_
  simp -dsimp [w55, backH, setAll, renR, crV, refs, refsL, renL, ren, hq]
theorem is_f {H : List Ob} {Q : CR → List Ob → Prop} (hq : Q (.panic (wrong 2)) H) : xCall p 55 [.bool false] H Q := by
  refine WCall_inl (ids := []) rfl rfl ?_
  refine WFun_of w55 rfl rfl k55 ?_
  unfold wrong wrongT at hq
  simp -dsimp [w55, renL, ren]
  refine must_x (by decide) ?_
  simp [wrong, wrongT, backH, setAll, renR, crV, refs, refsL, renL, ren, hq]
theorem rangeA_s {R : Ob} {base : List Int} {e : Env} {Q : QX} (hm : base.length ≤ 100000) (h5 : e 5 = .ptr 1 0)
    (hq : ∀ v T, Acc 1 4 T v ((pgl base (npg base)).map byT) → Q .normal e (R :: .live [v] :: .live [byV base] :: .dead :: T)) :
    WRange p 220 (.fn (.func 33) [] [.ptr 2 0]) e [R, .live [.list [] true], .live [byV base]] Q := by
  have e1 : ∀ b, refs (byV b) = [] := fun b => ground_refs _ (byV.gd b)
  have ra : ∀ g b, ren g (byV b) = byV b := fun g b => ground_ren g _ (byV.gd b)
  have hk : bd220.keep.map e = [.ptr 1 0] := by show [e 5] = _; rw [h5]
  refine WRange_of (ab := bd220) (ids := [3, 2, 1]) rfl (by decide) rfl rfl ?_ ?_
  · have : refsL ([] ++ [V.yld 3] ++ [V.ptr 2 0]) = [3, 2] := by simp [refsL, refs]
    show reach _ 1000 (refsL ([] ++ [V.yld 3] ++ [V.ptr 2 0])) [] = _
    rw [this, hk]
    refine (reach_go (k := 999) rfl rfl).trans ?_
    refine (reach_go (k := 998) rfl rfl).trans ?_
    simp only [refsOb, refsL, refs, e1, List.nil_append, List.cons_append, List.append_nil]
    refine (reach_go (k := 997) rfl rfl).trans ?_
    simp only [refsOb, refsL, refs, List.nil_append, List.cons_append, List.append_nil]
    exact reach_end (k := 996)
  · rw [hk]
    have i3 : List.idxOf 3 [3, 2, 1] = 0 := rfl
    have i2 : List.idxOf 2 [3, 2, 1] = 1 := rfl
    have i1 : List.idxOf 1 [3, 2, 1] = 2 := rfl
    have ka : bd220.keep = [5] := rfl
    simp [renL, ren, renOb, i2, i1, i3, ra, ka]
    refine pagesA_s hm fun v T hac => ⟨by simp, ?_⟩
    have k0 : backK [3, 2, 1] 4 2 = 1 := rfl
    have kk : backK [3, 2, 1] 4 0 = 3 := rfl
    obtain ⟨u1, u2, u3⟩ := hac
    rcases u3 with ⟨u3, rfl⟩ | ⟨j, rfl, hj⟩
    · refine ⟨.normal, e, _, ?_, hq (.list [] true) [] ⟨u1, u2, .inl ⟨u3, rfl⟩⟩⟩
      simp [backH, setAll, renOb, ren, renL, renR, crV, refs, refsL, refsOb, e1, ra, k0, kk, endRange]
    · have k1 : backK [3, 2, 1] 4 (3 + j) = 4 + j := by simp [backK]; omega
      refine ⟨.normal, e, _, ?_, hq (.own (4 + j) 0 ((pgl base (npg base)).map byT).length 1) (T.map (renOb (backK [3, 2, 1] 4))) ⟨u1, u2, .inr ⟨j, rfl, ?_⟩⟩⟩
      · simp [backH, setAll, renOb, ren, renL, renR, crV, refs, refsL, refsOb, e1, ra, k0, kk, k1, endRange]
      · rw [List.getElem?_map, hj]
        simp only [Option.map_some, renOb]
        rw [flat_one (fun _ => rfl), groundL_ren _ _ (by simp)]
def lay64 (m : List Int) (n : Nat) (q : List Int) : List Int := m.take (64 * n) ++ q ++ m.drop (64 * n + q.length)
theorem lay_len {m q : List Int} {n : Nat} (h : 64 * n + q.length ≤ m.length) : (lay64 m n q).length = m.length := by
  unfold lay64
  simp only [List.length_append, List.length_take, List.length_drop]; omega
theorem lay_take {bs q : List Int} {n L : Nat} (h : 64 * n + q.length ≤ L) (hL : L ≤ bs.length) : (lay64 bs n q).take L = lay64 (bs.take L) n q := by
  unfold lay64
  have e1 : (bs.take L).take (64 * n) = bs.take (64 * n) := by rw [List.take_take, Nat.min_eq_left (by omega)]
  have e2 : (bs.take L).drop (64 * n + q.length) = (bs.drop (64 * n + q.length)).take (L - (64 * n + q.length)) := List.drop_take ..
  have e3 : ∀ (A B C : List Int), A.length + B.length ≤ L → (A ++ (B ++ C)).take L = A ++ (B ++ C.take (L - (A.length + B.length))) := by
    intro A B C h
    rw [List.take_append, List.take_of_length_le (by omega), List.take_append, List.take_of_length_le (by omega), Nat.sub_sub]
  rw [e1, e2, List.append_assoc, List.append_assoc, e3 _ _ _ (by rw [List.length_take]; omega), List.length_take, Nat.min_eq_left (by omega)]
def memK (base : List Int) : Nat → Rs → Nat → List Int → Rs × List Int
  | 0, s, _, m => (s, m)
  | k + 1, s, next, m =>
    if (rdT 65536 (rd next ((npg base : Int) - 1) s).1).1.e ≠ 0 then ((rdT 65536 (rd next ((npg base : Int) - 1) s).1).1, [])
    else if (takeR (rdT 65536 (rd next ((npg base : Int) - 1) s).1).2 (pg base (rd next ((npg base : Int) - 1) s).2.toNat).length).2 ≠ 0 then
      (⟨(rdT 65536 (rd next ((npg base : Int) - 1) s).1).1.b, (takeR (rdT 65536 (rd next ((npg base : Int) - 1) s).1).2 (pg base (rd next ((npg base : Int) - 1) s).2.toNat).length).2⟩, [])
    else if (takeR (rdT 65536 (rd next ((npg base : Int) - 1) s).1).2 (pg base (rd next ((npg base : Int) - 1) s).2.toNat).length).1 = pg base (rd next ((npg base : Int) - 1) s).2.toNat then
      (⟨(rdT 65536 (rd next ((npg base : Int) - 1) s).1).1.b, 2⟩, [])
    else memK base k (rdT 65536 (rd next ((npg base : Int) - 1) s).1).1 ((rd next ((npg base : Int) - 1) s).2.toNat + 1) (lay64 m (rd next ((npg base : Int) - 1) s).2.toNat (takeR (rdT 65536 (rd next ((npg base : Int) - 1) s).1).2 (pg base (rd next ((npg base : Int) - 1) s).2.toNat).length).1)
def memR (base : List Int) (s : Rs) : Rs × List Int := memK base (rd 0 (npg base) s).2.toNat (rd 0 (npg base) s).1 0 base
theorem rdT_len {m : Nat} {s : Rs} : (rdT m s).2.length ≤ m := by
  have h1 := @rd_ok 0 m s
  unfold rdT
  split
  · simp
  · split
    · simp
    · rename_i h _
      have := h1 (by omega)
      simp only [List.length_take]; omega
theorem live_at4 {A B C D : Ob} {J K : List Ob} {j : Nat} {o : Ob} (h : J[j]? = some o) : (A :: B :: C :: D :: (J ++ K))[4 + j]? = some o := by
  rw [show 4 + j = j + 1 + 1 + 1 + 1 from by omega]
  simp only [List.getElem?_cons_succ]
  rw [List.getElem?_append_left (List.getElem?_eq_some_iff.1 h).1]; exact h
theorem live_at4b {A B C D : Ob} {J K : List Ob} {j : Nat} {o : Ob} (h : J[j]? = some o) : (A :: B :: C :: D :: (K ++ J))[4 + K.length + j]? = some o := by
  rw [show 4 + K.length + j = K.length + j + 1 + 1 + 1 + 1 from by omega]
  simp only [List.getElem?_cons_succ]
  rw [List.getElem?_append_right (by omega), Nat.add_sub_cancel_left]; exact h
theorem set_at4b {A B C D : Ob} {J K : List Ob} {j : Nat} {o : Ob} : (A :: B :: C :: D :: (K ++ J)).set (4 + K.length + j) o = A :: B :: C :: D :: (K ++ J.set j o) := by
  rw [show 4 + K.length + j = K.length + j + 1 + 1 + 1 + 1 from by omega]
  simp only [List.set_cons_succ]
  rw [List.set_append_right _ _ (by omega), Nat.add_sub_cancel_left]
theorem wMut_is {H : List Ob} {id : Nat} {l : List V} {K : List V → Prop} (h : H[id]? = some (.live l)) : wMut H id K = K l := by
  refine propext ⟨?_, fun k => ⟨l, h, k⟩⟩
  rintro ⟨l', h1, h2⟩
  rw [h] at h1
  cases h1
  exact h2
theorem pgl_at {b : List Int} {n N : Nat} (h : n < N) : List.take 1 (List.drop n ((pgl b N).map byT)) = [byT (pg b n)] := by
  rw [← List.map_drop, ← List.map_take, List.drop_eq_getElem_cons (by simpa using h)]
  simp [pgl]
theorem accv {n b : Nat} {J : List Ob} {v : V} {l : List V} (h : Acc n b J v l) : cellsOf v = [v] ∧ isAny v = false ∧ storable v = true := by
  obtain ⟨_, _, h3⟩ := h
  rcases h3 with ⟨_, rfl⟩ | ⟨j, rfl, _⟩ <;> exact ⟨rfl, rfl, rfl⟩
theorem acc_acb {b : Nat} {J : List Ob} {v : V} {l : List Int} (h : Acc 1 b J v (l.map (V.int .u8))) : Acb b J v l := by
  obtain ⟨_, _, h3⟩ := h
  rcases h3 with ⟨h3, rfl⟩ | ⟨j, rfl, h4⟩
  · exact .inl ⟨by simpa using h3, rfl⟩
  · rw [flat_int] at h4
    exact .inr ⟨j, l, by simp, h4, by simp, by simp⟩
theorem memory_s {s : Rs} {base : List Int} (hs : RsOk s) (hb8 : by8 base) (hbl : base.length ≤ 100000) (hse : s.e = 0) {Q : CR → List Ob → Prop}
    (hq0 : (memR base s).1.e = 0 → ∀ vm G J, Acb (1 + G.length) J vm (memR base s).2 → Q (.ret vm) (Rd (memR base s).1 :: (G ++ J)))
    (hq1 : (memR base s).1.e ≠ 0 → ∀ s' G, Q (.panic (wrong (memR base s).1.e)) (Rd s' :: G)) :
    WFun p 22 [.ptr 0 0, byV base] [Rd s] Q := by
  refine WFun_of w22 rfl rfl k22 ?_
  simp -dsimp [w22]
  refine pagesP_s _ ?_
  simp -dsimp [isInl]
  refine rangeA_s hbl rfl fun va T ha => ?_
  simp -dsimp [isInl]
  have hN : npg base ≤ 2000 := by unfold npg; omega
  refine clone_list (by omega) fun vm J hm => ?_
  obtain ⟨x1, x2, x3⟩ := accv ha
  obtain ⟨y1, y2, y3⟩ := accv hm
  simp -dsimp [x1, x2, x3, y1, y2, y3, acc_len ha]
  refine num_go hs rfl ?_
  simp -dsimp [x1, x2, x3, y1, y2, y3]
  refine err_go (s := (rd 0 (npg base : Nat) s).1) rfl ?_
  simp -dsimp []
  have hR := @rd_pos 0 (npg base : Nat) s
  have hE := @rd_err 0 (npg base : Nat) s
  have hRs := rd_rs (lo := 0) (hi := (npg base : Nat)) hs
  unfold memR at hq0 hq1
  generalize rd 0 ((npg base : Nat) : Int) s = R at *
  by_cases c1 : R.1.e = 0
  · rw [c1]
    refine must_0 ?_
    obtain ⟨q, hq⟩ : ∃ q : Nat, R.2 = q := ⟨R.2.toNat, by have := hR c1; omega⟩
    have hqN : q ≤ npg base := by have := hR c1; omega
    rw [hq, Int.toNat_natCast] at hq0 hq1
    simp -dsimp [hq]
    refine xL_by (by kernel_rfl) (fun k e H => ∃ (i : Nat) (s2 : Rs) (next : Nat) (m : List Int) (J : List Ob), i ≤ q ∧ k = q - i ∧ e 0 = .ptr 0 0 ∧ e 1 = byV base ∧ e 5 = .ptr 1 0 ∧ e 8 = vm ∧ e 10 = .int .i64 next ∧ e 33 = .int .i64 q ∧ e 34 = .int .i64 i ∧ H = Rd s2 :: .live [va] :: .live [byV base] :: .dead :: (T ++ J) ∧ RsOk s2 ∧ s2.e = 0 ∧ m.length = base.length ∧ next ≤ npg base ∧ Acb (4 + T.length) J vm m ∧ memK base (q - i) s2 next m = memK base q R.1 0 base) q ?_ ?_
    · refine ⟨0, R.1, 0, base, J, by omega, rfl, ?_⟩
      simp -dsimp [c1]
      exact ⟨hRs, by have := acc_acb hm; simpa [show T.length + 1 + 1 + 1 + 1 = 4 + T.length from by omega] using this⟩
    · rintro k e H ⟨i, s2, next, m, J, hi, hk, h0, h1, h5, h8, h10, h33, h34, rfl, hs2, hse2, hml, hnx, hacb, hK⟩
      by_cases c2 : i < q
      · have hp : 0 < npg base := by omega
        have hbp : 0 < base.length := by unfold npg at hp; omega
        obtain ⟨k', hk'⟩ : ∃ z, q - i = z + 1 := ⟨q - i - 1, by omega⟩
        rw [hk', memK] at hK
        have w1 : IntKind.i64.wrap ((npg base : Int) - 1) = (npg base : Int) - 1 := Fz.w64 (by omega) (by omega)
        have w2 : IntKind.i64.wrap ((i : Int) + 1) = ((i + 1 : Nat) : Int) := by rw [Fz.w64 (by omega) (by omega)]; omega
        simp -dsimp [h0, h1, h5, h8, h10, h33, h34, c2, x1, x2, x3, y1, y2, y3, acc_len ha, w1]
        refine num_go hs2 rfl ?_
        simp -dsimp [h0, h1, h5, h8, h10, h33, h34, x1, x2, x3]
        have hA := @rd_pos next ((npg base : Int) - 1) s2
        have hAr := rd_rs (lo := next) (hi := (npg base : Int) - 1) hs2
        have hAn : 0 ≤ (rd next ((npg base : Int) - 1) s2).2 := by
          by_cases c : (rd next ((npg base : Int) - 1) s2).1.e = 0
          · have := hA c; omega
          · rw [rd_err c]; omega
        generalize rd (next : Int) ((npg base : Int) - 1) s2 = A at *
        obtain ⟨A1, A2⟩ := A
        simp only at hA hAr hAn hK ⊢
        obtain ⟨n, rfl⟩ : ∃ n : Nat, A2 = (n : Int) := ⟨A2.toNat, by omega⟩
        rw [Int.toNat_natCast] at hK
        refine text_go hAr rfl ?_
        simp -dsimp [h0, h1, h5, h8, h10, h33, h34, x1, x2, x3]
        have hTr := rdT_rs (m := 65536) hAr
        have hT8 := @rdT_by 65536 A1 hAr
        have hTe := @rdT_e 65536 A1
        have hTl := @rdT_len 65536 A1
        generalize rdT 65536 A1 = X at *
        refine err_go (s := X.1) rfl ?_
        simp -dsimp [h0, h1, h5, h8, h10, h33, h34, x1, x2, x3]
        by_cases c3 : X.1.e = 0
        · rw [if_neg (by omega)] at hK
          rw [c3]
          refine must_0 ?_
          obtain ⟨hA1, hA2⟩ := hA (hTe c3)
          have hnN : n < npg base := by omega
          rcases ha with ⟨_, _, ⟨z, _⟩ | ⟨jt, rfl, hjt⟩⟩
          · have := congrArg List.length z; simp at this; omega
          rw [flat_one (fun _ => rfl)] at hjt
          rcases hacb with ⟨rfl, _⟩ | ⟨jm, bs, rfl, z1, z2, z3⟩
          · simp at hml; omega
          simp -dsimp [h0, h1, h5, h8, h10, h33, h34, hnN]
          have wsl : ∀ (P : List Int) (L : List V → Bool → Prop) (O : Nat → Nat → Nat → Nat → Prop), wSl (byT P) L O = L (P.map (V.int .u8)) true := fun _ _ _ => rfl
          have pl := pg_len base n
          have hTl' : X.2.length ≤ 65536 := hTl
          have cTk := takeR_s (b := X.2) (many := (pg base n).length) (by omega) (hT8) (by omega)
          have cTk' : ∀ H Q, xCall p 54 [byT X.2, .int .i64 (pg base n).length] H Q = Q (.ret (.tuple [byV (takeR X.2 (pg base n).length).1, .int .i64 (takeR X.2 (pg base n).length).2])) H := fun H Q => call_nrm rfl (by simp [byT]) (by simp [byT, byV, nrm, nrmL_eq]) cTk
          have hB := @takeR_B X.2 (pg base n).length (by omega) hT8
          generalize takeR X.2 (pg base n).length = Y at *
          rw [wLive_is (live_at4 hjt), pgl_at hnN]
          refine ⟨by simp; omega, ?_⟩
          simp -dsimp [h0, h1, h5, h8, h10, h33, h34, wsl, cTk']
          by_cases c4 : Y.2 = 0
          · rw [if_neg (by omega)] at hK
            rw [c4]
            refine must_0 ?_
            obtain ⟨hY1, hY2, _⟩ := hB c4
            have cE := equal_s hY2 (pg_by hb8 n)
            have cE' : ∀ H Q, xCall p 12 [byV Y.1, byT (pg base n)] H Q = Q (.ret (.bool (decide (Y.1 = pg base n)))) H := fun H Q => call_nrm rfl (by simp [byT]) (by simp [byT, byV, nrm, nrmL_eq]) cE
            simp -dsimp [h0, h1, h5, h8, h10, h33, h34, hnN]
            rw [wLive_is (live_at4 hjt), pgl_at hnN]
            refine ⟨by simp; omega, ?_⟩
            simp -dsimp [h0, h1, h5, h8, h10, h33, h34, cE']
            by_cases c5 : Y.1 = pg base n
            · rw [if_pos c5] at hK
              rw [decide_eq_true c5]
              refine is_f ?_
              simp -dsimp []
              rw [← hK] at hq1
              exact hq1 (by simp) X.1 _
            · rw [if_neg c5] at hK
              rw [decide_eq_false c5]
              refine is_t ?_
              obtain ⟨z, hz⟩ : ∃ z, z = 64 * n := ⟨_, rfl⟩
              have hzl : z < base.length := by unfold npg at hnN; omega
              have hzm : ¬ m.length = z := by omega
              have hzm2 : z ≤ m.length := by omega
              have w64 : IntKind.i64.wrap ((n : Int) * 64) = (z : Int) := by rw [Fz.w64 (by omega) (by omega)]; omega
              simp -dsimp [h0, h1, h5, h8, h10, h33, h34, w64, hzm, hzm2]
              have hYl : Y.1.length = (pg base n).length := hY1
              have hYm : Y.1.length.min (m.length - z) = Y.1.length := Nat.min_eq_left (by omega)
              have hT1 : List.take (Y.1.length * 1) (Y.1.map (V.int .u8)) = Y.1.map (V.int .u8) := List.take_of_length_le (by simp)
              rw [wMut_is (live_at4b z1)]
              rw [hYm, hT1]
              refine ⟨⟨rfl, by simp; omega, by simp [storable]⟩, ?_⟩
              have w5 : IntKind.i64.wrap ((n : Int) + 1) = ((n + 1 : Nat) : Int) := by rw [Fz.w64 (by omega) (by omega)]; omega
              simp -dsimp [h0, h1, h5, h8, h10, h33, h34, w2, w5]
              refine ⟨q - (i + 1), by omega, i + 1, X.1, n + 1, lay64 m n Y.1, J.set jm (.live ((lay64 bs n Y.1).map (V.int .u8))), by omega, rfl, ?_⟩
              simp -dsimp [h0, h1, h5, h8, h33, c3]
              rw [set_at4b]
              have hlm : (lay64 m n Y.1).length = m.length := lay_len (by omega)
              have hlb : (lay64 bs n Y.1).length = bs.length := lay_len (by omega)
              have hjm : jm < J.length := (List.getElem?_eq_some_iff.1 z1).1
              refine ⟨by unfold lay64; rw [← hz]; simp, hTr, by omega, by omega, .inr ⟨jm, lay64 bs n Y.1, by rw [hlm], by simp [hjm], by omega, ?_⟩, by rw [show q - (i + 1) = k' from by omega]; exact hK⟩
              rw [hlm, lay_take (by omega) z2, z3]
          · rw [if_pos c4] at hK
            refine must_x c4 ?_
            simp -dsimp []
            rw [← hK] at hq1
            exact hq1 c4 X.1 _
        · rw [if_pos c3] at hK
          refine must_x c3 ?_
          simp -dsimp []
          rw [← hK] at hq1
          exact hq1 c3 X.1 _
      · have hiq : i = q := by omega
        subst hiq
        rw [Nat.sub_self, memK] at hK
        rw [← hK] at hq0
        simp -dsimp [h0, h1, h5, h8, h10, h33, h34]
        exact hq0 hse2 vm (.live [va] :: .live [byV base] :: .dead :: T) J (by simpa [show 1 + (T.length + 1 + 1 + 1) = 4 + T.length from by omega] using hacb)
  · rw [hE c1] at hq1
    refine must_x c1 ?_
    simp -dsimp []
    exact hq1 c1 R.1 _
end Fz.D
set_option maxRecDepth 100000
namespace Fz.D
open Go
theorem mem_call {s : Rs} {base : List Int} {H : List Ob} {i : Nat} (hi : H[i]? = some (Rd s)) (hs : RsOk s) (hb8 : by8 base) (hbl : base.length ≤ 100000) (hse : s.e = 0) {Q : CR → List Ob → Prop}
    (hq0 : (memR base s).1.e = 0 → ∀ vm J, Acb H.length J vm (memR base s).2 → Q (.ret vm) (H.set i (Rd (memR base s).1) ++ J))
    (hq1 : (memR base s).1.e ≠ 0 → ∀ s', Q (.panic (wrong (memR base s).1.e)) (H.set i (Rd s'))) :
    WCall p 22 [.ptr i 0, byV base] H Q := by
  have rb : ∀ g b, ren g (byV b) = byV b := fun g b => ground_ren g _ (byV.gd b)
  have hb0 : ∀ b, refs (byV b) = [] := fun b => ground_refs _ (byV.gd b)
  have h0 : refsL [.ptr i 0, byV base] = [i] := by simp [refsL, refs, hb0]
  have hre : reach H 1000 (refsL [.ptr i 0, byV base]) [] = some [i] := by
    rw [h0]
    refine (reach_go (k := 999) rfl hi).trans ?_
    simp only [rd_refs, List.append_nil, List.nil_append]
    exact reach_end (k := 998)
  refine WCall_inl (by kernel_rfl) hre ?_
  have e1 : ([i] : List Nat).idxOf i = 0 := by simp
  have hi' : H[i]?.getD .dead = Rd s := by rw [hi]; rfl
  simp -dsimp [renL, ren, e1, hi', rb, rd_ren]
  refine memory_s hs hb8 hbl hse (fun he vm G J ha => ⟨by simp, ?_⟩) (fun he s' G => ⟨by simp, ?_⟩)
  · have hq := hq0 he
    rcases acb_cases ha with ⟨rfl, h⟩ | ⟨j, len, rfl, _⟩
    · have := hq (.list [] true) [] (.inl ⟨h, rfl⟩)
      have e4 : backH [i] (.ret (.list [] true)) (Rd (memR base s).1 :: (G ++ J)) H = H.set i (Rd (memR base s).1) := by
        unfold backH
        rw [if_neg (by simp [crV, refs, refsL, rd_refs])]
        simp [setAll, rd_ren]
      rw [e4]
      simpa [renR, ren, renL] using this
    · have hg : ∀ j, backK [i] H.length (1 + G.length + j) = H.length + G.length + j := fun j => by simp [backK]; omega
      have e4 : backH [i] (.ret (.own (1 + G.length + j) 0 len 1)) (Rd (memR base s).1 :: (G ++ J)) H = H.set i (Rd (memR base s).1) ++ (G.map (renOb (backK [i] H.length)) ++ J.map (renOb (backK [i] H.length))) := by
        unfold backH
        rw [if_pos (by simp [crV, refs]; omega)]
        simp [setAll, rd_ren]
      rw [e4]
      have a2 := acb_back hg ha
      have := hq _ (G.map (renOb (backK [i] H.length)) ++ J.map (renOb (backK [i] H.length))) (acb_shift a2 (by simp))
      simpa [renR, ren] using this
  · have hq := hq1 he s'
    have e4 : backH [i] (.panic (wrong (memR base s).1.e)) (Rd s' :: G) H = H.set i (Rd s') := by
      unfold backH
      rw [if_neg (by simp [crV, wrong, refs, refsL, rd_refs])]
      simp [setAll, rd_ren]
    rw [e4]
    simpa [renR, wrong, ren] using hq
end Fz.D
set_option maxRecDepth 100000
namespace Fz.D
open Go
structure SnOk (s : St) (base : List Int) : Prop where
  m8 : by8 s.mem
  b8 : by8 base
  len : s.mem.length = base.length
  ml : s.mem.length ≤ 100000
  ol : s.out.length ≤ 100000
  sl : StLen s
  d : DeOk (diffD (rest s) St0)
  dl : (encD (diffD (rest s) St0)).length ≤ 10000000
theorem stlen0 : StLen St0 := by constructor <;> simp [St0]
theorem stlen_rest {s : St} (h : StLen s) : StLen (rest s) := ⟨by simp [rest], h.data, h.ret, h.ctl, h.words, h.spots, by simp [rest]⟩
theorem snapPut_s {s : St} {base : List Int} (ok : SnOk s base) : Comes p 7 [stV s, byV base] (byV (snapF s base)) := by
  have c1 := rest_s s
  rw [← stF s] at c1; simp only [stV.cells] at c1
  have c2 := diff_s (stlen_rest ok.sl) stlen0 rfl
  have c2' : ∀ H Q, xCall p 18 [stV (rest s), .agg [.list [] true, .list [] true, .list [] true, .list [] true, .list [] true, .list [] true, .list [] true, .int .i64 0, .int .i64 0, .int .i64 0, .int .i64 0, .int .i64 0, .int .i64 0, .bool false, .bool false]] H Q = Q (.ret (deV (diffD (rest s) St0))) H :=
    fun H Q => call_nrm rfl (by simp) (by simp [nrm, nrmL_eq]; rfl) c2
  have c3 := put_s ok.d
  have ml := ok.ml
  have hN : npg s.mem ≤ 2000 := by unfold npg; omega
  have hc := cntK_le s.mem base (npg s.mem)
  have hcl := chgK_len s.mem base (npg s.mem) (by omega)
  have cN := num_s (n := (cntK s.mem base (npg s.mem) : Int)) (by unfold i64; omega)
  have lN := encN_le (n := cntK s.mem base (npg s.mem)) (by omega)
  have e0 : numB (zz (cntK s.mem base (npg s.mem) : Int)).toNat = encN (cntK s.mem base (npg s.mem) : Nat) := rfl
  rw [e0] at cN
  have cT1 := text_s (b := s.out) (by have := ok.ol; omega)
  have cT2 := text_s (b := encD (diffD (rest s) St0)) ok.dl
  have lT1 := encN_le (n := s.out.length) (by have := ok.ol; omega)
  refine Comes_of w7 rfl rfl k7 ?_ ?_ ?_ ?_
  · simp
  · simp
  · simp
  · simp -dsimp [w7, wFix_by, isInl]
    refine pagesP_s _ ?_
    simp -dsimp [isInl]
    refine rangeP_s ok.m8 ok.b8 ok.len ok.ml rfl rfl rfl fun v T ha => ?_
    have hE1 : numB (zz ((s.out.length : Nat) : Int)).toNat ++ s.out = txt s.out := rfl
    have hE2 : numB (zz (((encD (diffD (rest s) St0)).length : Nat) : Int)).toNat ++ encD (diffD (rest s) St0) = txt (encD (diffD (rest s) St0)) := rfl
    have lE1 : (txt s.out).length ≤ 200000 := by unfold txt; rw [List.length_append]; have := ok.ol; omega
    have lE2 : (txt (encD (diffD (rest s) St0))).length ≤ 11000000 := by
      have h1 := ok.dl
      have h2 := encN_len (n := ((encD (diffD (rest s) St0)).length : Int)) (by unfold i64; omega)
      unfold txt; rw [List.length_append]; omega
    rw [hE1] at cT1
    rw [hE2] at cT2
    have hcat : cat [encN (cntK s.mem base (npg s.mem) : Nat), chgK s.mem base (npg s.mem), txt s.out, txt (encD (diffD (rest s) St0))] = snapF s base := by simp [cat, snapF]
    have htot : tot [encN (cntK s.mem base (npg s.mem) : Nat), chgK s.mem base (npg s.mem), txt s.out, txt (encD (diffD (rest s) St0))] ≤ 100000000 := by simp [tot]; omega
    generalize txt s.out = X1 at *
    generalize txt (encD (diffD (rest s) St0)) = X2 at *
    generalize hX3 : encN ((cntK s.mem base (npg s.mem) : Nat) : Int) = X3 at *
    generalize chgK s.mem base (npg s.mem) = X4 at *
    rcases ha with ⟨rfl, rfl⟩ | ⟨j, bs, rfl, a1, a2, a3⟩
    · simp -dsimp [isInl, call_by c1, c2', call_by c3, quiet_by cN, quiet_by cT1, quiet_by cT2, fillV, splice, wOpt, chunk]
      refine concat_lists (ls := [X3, [], X1, X2]) rfl (fun i h => ?_) htot (by simp) fun v' J' a' => ?_
      · match i, h with
        | 0, _ => exact ⟨_, rfl, false, rfl⟩
        | 1, _ => exact ⟨_, rfl, true, rfl⟩
        | 2, _ => exact ⟨_, rfl, false, rfl⟩
        | 3, _ => exact ⟨_, rfl, false, rfl⟩
      · rw [hcat] at a'
        simp -dsimp [wFix_by, isInl]
        have a2 : Ac 1 (T.length + 1 + 1 + 1 + 1 + 1 + 1) J' v' ((snapF s base).map (V.int .u8)) := acb_ac (by simpa using a')
        exact frz_ac (b := T.length + 1 + 1 + 1 + 1 + 1 + 1) (by simpa using a2)
    · simp -dsimp [isInl, call_by c1, c2', call_by c3, quiet_by cN, quiet_by cT1, quiet_by cT2, fillV, splice, wOpt, chunk]
      refine ⟨rfl, ?_⟩
      refine concat_own2 (ls := [X3, X4, X1, X2]) (k := 1) (id := 6 + j) (bs := bs) ?_ (by simp) (fun i h hi => ?_) ?_ ?_ a2 a3 htot (by simp) fun v' J' a' => ?_
      · rfl
      · match i, h, hi with
        | 0, _, _ => exact ⟨_, rfl, false, rfl⟩
        | 2, _, _ => exact ⟨_, rfl, false, rfl⟩
        | 3, _, _ => exact ⟨_, rfl, false, rfl⟩
      · rfl
      · rw [show 6 + j = j + 1 + 1 + 1 + 1 + 1 + 1 from by omega]; exact a1
      · rw [hcat] at a'
        simp -dsimp [wFix_by, isInl]
        have a2 : Ac 1 (T.length + 1 + 1 + 1 + 1 + 1 + 1) J' v' ((snapF s base).map (V.int .u8)) := acb_ac (by simpa using a')
        exact frz_ac (b := T.length + 1 + 1 + 1 + 1 + 1 + 1) (by simpa using a2)
end Fz.D
set_option maxRecDepth 100000
namespace Fz.D
open Go
theorem Comes_wf {p : AP} {f : FuncId} {args : List V} {v : V} (ha : args.all gr = true) (hn : (p.inlY f || args.all nm) = true) (hv : gr v = true) (h : WFun p f args [] (wFix p f v)) : Comes p f args v := by
  obtain ⟨n, r, H', h1, h2⟩ := h
  cases r with
  | panic _ => cases h2
  | ret u => exact ⟨ha, hv, hn, n, u, H', h1, h2⟩
def dRd (b : List Int) : De × Int := if endR (tr b).s19 = 0 then ((tr b).d, 0) else (De0, endR (tr b).s19)
theorem endR_e {s : Rs} (h : endR s = 0) : s.e = 0 ∧ s.b = [] := by
  unfold endR at h
  split at h
  · omega
  · rename_i c
    refine ⟨h, List.length_eq_zero_iff.1 ?_⟩
    by_cases c2 : 0 < s.b.length
    · exact absurd ⟨h, c2⟩ c
    · omega
theorem dTake_s {b : List Int} (hb : b.length ≤ 10000000) (hby : by8 b) : Comes p 26 [byV b] (.tuple [deV (dRd b).1, .int .i64 (dRd b).2]) := by
  have t1 := take_s (tk b) hb hby
  obtain ⟨f1, f2⟩ := tk_tr (tk b) (tr b)
  unfold takeV at t1
  rw [f1] at t1
  unfold dRd
  by_cases he : endR (tr b).s19 = 0
  · rw [if_pos he, f2 (endR_e he).1] at t1
    rw [if_pos he]
    exact t1
  · rw [if_neg he] at t1
    rw [if_neg he]
    exact t1
def emptyD (d : De) : Bool := decide (d.mem.length = 0) && (decide (d.out = 0) && (decide (d.dk = 0) && (decide (d.rk = 0) && (decide (d.ck = 0) && (decide (d.wk = 0) && decide (d.sk = 0))))))
theorem eqL_int {l m : List V} {o : Nat} {k : IntKind} {a b : Int} {r : List (Nat × LfK)} (h1 : l[o]? = some (.int k a)) (h2 : m[o]? = some (.int k b)) : eqLeaves l m ((o, .int) :: r) = if a = b then eqLeaves l m r else some false := by
  rw [eqLeaves, h1, h2]
  by_cases h : a = b <;> simp [leafEq, h]
theorem empty_eq (d : De) : eqLeaves [V.int .i64 d.mem.length, V.int .i64 d.out, V.int .i64 d.dk, V.int .i64 d.rk, V.int .i64 d.ck, V.int .i64 d.wk, V.int .i64 d.sk] [V.int .i64 0, V.int .i64 0, V.int .i64 0, V.int .i64 0, V.int .i64 0, V.int .i64 0, V.int .i64 0]
    [(0, .int), (1, .int), (2, .int), (3, .int), (4, .int), (5, .int), (6, .int)] = some (emptyD d) := by
  rw [eqL_int rfl rfl, eqL_int rfl rfl, eqL_int rfl rfl, eqL_int rfl rfl, eqL_int rfl rfl, eqL_int rfl rfl, eqL_int rfl rfl, eqLeaves]
  unfold emptyD
  by_cases h1 : d.mem.length = 0
  · rw [if_pos (by omega), decide_eq_true h1]
    by_cases h2 : d.out = 0
    · rw [if_pos h2, decide_eq_true h2]
      by_cases h3 : d.dk = 0
      · rw [if_pos h3, decide_eq_true h3]
        by_cases h4 : d.rk = 0
        · rw [if_pos h4, decide_eq_true h4]
          by_cases h5 : d.ck = 0
          · rw [if_pos h5, decide_eq_true h5]
            by_cases h6 : d.wk = 0
            · rw [if_pos h6, decide_eq_true h6]
              by_cases h7 : d.sk = 0
              · rw [if_pos h7, decide_eq_true h7]; rfl
              · rw [if_neg h7, decide_eq_false h7]; rfl
            · rw [if_neg h6, decide_eq_false h6]; rfl
          · rw [if_neg h5, decide_eq_false h5]; rfl
        · rw [if_neg h4, decide_eq_false h4]; rfl
      · rw [if_neg h3, decide_eq_false h3]; rfl
    · rw [if_neg h2, decide_eq_false h2]; rfl
  · rw [if_neg (by omega), decide_eq_false h1]; rfl
theorem empty_x (d : De) {H : List Ob} {Q : CR → List Ob → Prop} (hq0 : emptyD d = true → Q (.ret (.tuple [])) H) (hq1 : emptyD d = false → Q (.panic (wrong 2)) H) : xCall p 27 [deV d] H Q := by
  have h0 : refsL [deV d] = [] := groundL_refs _ (by simp)
  refine WCall_inl (by kernel_rfl) (ids := []) (by rw [h0]; rfl) ?_
  rw [groundL_ren _ [deV d] (by simp)]
  refine WFun_of w27 rfl rfl k27 ?_
  have hE := empty_eq d
  cases he : emptyD d with
  | true =>
    rw [he] at hE
    simp -dsimp [w27, fillV, splice, chunk, hE]
    refine is_t ?_
    simp -dsimp []
    have := hq0 he
    simpa [backH, setAll, renR, crV, refs, refsL, renL, ren] using this
  | false =>
    rw [he] at hE
    simp -dsimp [w27, fillV, splice, chunk, hE]
    refine is_f ?_
    simp -dsimp []
    have := hq1 he
    simpa [backH, setAll, renR, crV, refs, refsL, renL, ren, wrong] using this
def snapT (b base : List Int) : St × Int :=
  if endR (rdT 65536 (rdT 65536 (memR base ⟨b, 0⟩).1).1).1 ≠ 0 then (St0, endR (rdT 65536 (rdT 65536 (memR base ⟨b, 0⟩).1).1).1)
  else if (dRd (rdT 65536 (rdT 65536 (memR base ⟨b, 0⟩).1).1).2).2 ≠ 0 then (St0, (dRd (rdT 65536 (rdT 65536 (memR base ⟨b, 0⟩).1).1).2).2)
  else if emptyD (dRd (rdT 65536 (rdT 65536 (memR base ⟨b, 0⟩).1).1).2).1 = false then (St0, 2)
  else ({ backS St0 (dRd (rdT 65536 (rdT 65536 (memR base ⟨b, 0⟩).1).1).2).1 with mem := (memR base ⟨b, 0⟩).2, out := (rdT 65536 (memR base ⟨b, 0⟩).1).2 }, 0)
theorem rd_bad {lo hi : Int} {s : Rs} (h : s.e ≠ 0) : rd lo hi s = (s, 0) := by unfold rd; rw [if_pos h]
theorem rdT_bad {m : Int} {s : Rs} (h : s.e ≠ 0) : rdT m s = (s, []) := by
  unfold rdT
  rw [rd_bad h, if_pos h]
theorem endR_bad {s : Rs} (h : s.e ≠ 0) : endR s = s.e := by
  unfold endR
  rw [if_neg (fun c => h c.1)]
theorem memK_rs {base : List Int} : ∀ (k : Nat) (s : Rs) (n : Nat) (m : List Int), RsOk s → RsOk (memK base k s n m).1 := by
  intro k
  induction k with
  | zero => intro s n m h; exact h
  | succ k ih =>
    intro s n m h
    have h1 := rdT_rs (m := 65536) (rd_rs (lo := (n : Int)) (hi := (npg base : Int) - 1) h)
    rw [memK]
    split
    · exact h1
    · split
      · exact ⟨h1.len, h1.by_⟩
      · split
        · exact ⟨h1.len, h1.by_⟩
        · exact ih _ _ _ h1
theorem memR_rs {base : List Int} {s : Rs} (h : RsOk s) : RsOk (memR base s).1 := memK_rs _ _ _ _ (rd_rs h)
theorem fits0 {d : De} (h : emptyD d = true) : fitsB St0 d = true := by
  unfold emptyD at h
  simp only [Bool.and_eq_true, decide_eq_true_eq] at h
  obtain ⟨h1, h2, h3, h4, h5, h6, h7⟩ := h
  unfold fitsB restOk wi
  rw [h2, h3, h4, h5, h6, h7, List.length_eq_zero_iff.1 h1]
  simp [St0]
theorem dRd_ok {b : List Int} (hby : by8 b) (h : (dRd b).2 = 0) : b = encD (dRd b).1 ∧ TkOk (dRd b).1 := by
  unfold dRd at h ⊢
  by_cases he : endR (tr b).s19 = 0
  · rw [if_pos he]
    have h2 := endR_e he
    obtain ⟨g1, g2⟩ := tr_B hby (tr b) h2.1
    rw [h2.2, List.append_nil] at g1
    exact ⟨g1, g2⟩
  · rw [if_neg he] at h
    exact absurd h he
theorem bk0 {d : De} (h : TkOk d) : BkOk St0 d := by
  have := h.mem.2
  have := h.dt.2
  have := h.rt.2
  have := h.ct.2
  have := h.wt.2
  have := h.st.2
  constructor <;> try simp [St0]
  all_goals try omega
  intro r hr
  have := (h.mem.1 r hr).2.1
  omega
theorem rcv_s {b0 b1 : List V} {e : Int} {H : List Ob} {K : Bool → List Ob → Prop} (h0 : b0.length = 15) (h1 : b1.length = 1)
    (hk : K true (.live [.list [] true, .list [] true, .list [] true, .list [] true, .list [] true, .list [] true, .list [] true, .int .i64 0, .int .i64 0, .int .i64 0, .int .i64 0, .int .i64 0, .int .i64 0, .bool false, .bool false] :: .live [.int .i64 e] :: H)) :
    WDef p (.fn (.func 20) [] [.ptr 0 0, .ptr 1 0]) (some (wrong e)) (.live b0 :: .live b1 :: H) K := by
  refine WDef_rcv w20 (t := 5) rfl rfl rfl k20 (by kernel_rfl) ?_
  simp -dsimp [w20, finD, wrong, wrongT]
  rw [List.drop_of_length_le (by omega), show b1.tail = [] from List.length_eq_zero_iff.1 (by simp [h1])]
  exact ⟨by omega, by omega, hk⟩
theorem rcv_none {H : List Ob} {K : Bool → List Ob → Prop} (hk : K false H) : WDef p (.fn (.func 20) [] [.ptr 0 0, .ptr 1 0]) none H K := by
  refine WDef_rcv w20 (t := 5) rfl rfl rfl k20 (by kernel_rfl) ?_
  simp -dsimp [w20, finD]
  exact hk
end Fz.D
set_option maxRecDepth 100000
namespace Fz.D
open Go
theorem snapTake_s {b base : List Int} (hb : b.length ≤ 1000000) (h8 : by8 b) (hb8 : by8 base) (hbl : base.length ≤ 100000) : Comes p 8 [byV b, byV base] (.tuple [stV (snapT b base).1, .int .i64 (snapT b base).2]) := by
  refine Comes_wf ?_ ?_ ?_ ?_
  · simp
  · simp
  · simp
  have hres : w8.results = [(4, some (true, 15)), (5, some (false, 1))] := rfl
  have ok0 : RsOk ⟨b, 0⟩ := ⟨by simpa using (by omega : b.length ≤ 10000000), h8⟩
  refine WFun_dfr w8 rfl rfl rfl kd8 ?_
  simp -dsimp [w8, wPre]
  refine new_s b ?_
  simp -dsimp [wPre, isInl]
  have hrsM := memR_rs (base := base) ok0
  have hsT : snapT b base = _ := rfl
  conv at hsT => rhs; unfold snapT
  generalize hM : memR base ⟨b, 0⟩ = M at *
  refine mem_call (s := ⟨b, 0⟩) rfl ok0 hb8 hbl rfl (fun he vm J ha => ?_) (fun he s' => ?_)
  · rw [hM] at he ha
    obtain ⟨x1, x2, x3⟩ := acb_val ha
    rw [hM]
    simp -dsimp []
    refine text_go hrsM rfl ?_
    have hO := rdT_rs (m := 65536) hrsM
    have hO8 := @rdT_by 65536 M.1 hrsM
    have hOl := @rdT_len 65536 M.1
    generalize rdT 65536 M.1 = O at *
    simp -dsimp []
    refine text_go hO rfl ?_
    have hX := rdT_rs (m := 65536) hO
    have hX8 := @rdT_by 65536 O.1 hO
    have hXl := @rdT_len 65536 O.1
    generalize rdT 65536 O.1 = X at *
    simp -dsimp []
    refine does_go (end_read X.1) rfl ?_
    simp -dsimp []
    by_cases c1 : endR X.1 = 0
    · rw [if_neg (by omega)] at hsT
      rw [c1]
      refine must_0 ?_
      have hXl' : X.2.length ≤ 65536 := hXl
      have cD := dTake_s (b := X.2) (by omega) hX8
      have cD' : ∀ H Q, xCall p 26 [byT X.2] H Q = Q (.ret (.tuple [deV (dRd X.2).1, .int .i64 (dRd X.2).2])) H := fun H Q => call_nrm rfl (by simp [byT]) (by simp [byT, byV, nrm, nrmL_eq]) cD
      simp -dsimp [cD']
      by_cases c2 : (dRd X.2).2 = 0
      · rw [if_neg (by omega)] at hsT
        rw [c2]
        refine must_0 ?_
        simp -dsimp []
        obtain ⟨_, hTk⟩ := dRd_ok hX8 c2
        refine empty_x (dRd X.2).1 (fun he => ?_) (fun he => ?_)
        · rw [if_neg (by rw [he]; simp)] at hsT
          have cB := applied_s (bk0 hTk)
          unfold backV at cB
          rw [if_pos (fits0 he)] at cB
          have cB' : ∀ H Q, xCall p 28 [.agg [.list [] true, .list [] true, .list [] true, .list [] true, .list [] true, .list [] true, .list [] true, .int .i64 0, .int .i64 0, .int .i64 0, .int .i64 0, .int .i64 0, .int .i64 0, .bool false, .bool false], .agg (cellsOf (deV (dRd X.2).1))] H Q = Q (.ret (.tuple [stV (backS St0 (dRd X.2).1), .int .i64 0])) H :=
            fun H Q => call_nrm rfl (by rw [deF]; simp) (by rw [deF]; simp [nrm, nrmL_eq]; rfl) cB
          simp only [deV.cells] at cB'
          generalize (dRd X.2).1 = d at *
          simp -dsimp [cB', x1, x2, x3]
          refine rcv_none ?_
          rw [hsT]
          simp -dsimp [hres, wFix_by, isInl, x1, x2, x3]
          refine frz_acg 3 (k := 9) (by simpa using acb_ac (acb_ext (show Acb 3 J vm M.2 from ha) _)) (by simp) (.inl ⟨rfl, by simp⟩) fun H' _ _ => ?_
          simp -dsimp [byT]
          rfl
        · rw [if_pos he] at hsT
          simp -dsimp [hres]
          refine rcv_s (by simp) (by simp) ?_
          rw [hsT]
          simp -dsimp [hres, wFix_by, isInl]
          rfl
      · rw [if_pos c2] at hsT
        refine must_x c2 ?_
        simp -dsimp [hres]
        refine rcv_s (by simp) (by simp) ?_
        rw [hsT]
        simp -dsimp [hres, wFix_by, isInl]
        rfl
    · rw [if_pos c1] at hsT
      refine must_x c1 ?_
      simp -dsimp [hres]
      refine rcv_s (by simp) (by simp) ?_
      rw [hsT]
      simp -dsimp [hres, wFix_by, isInl]
      rfl
  · rw [hM] at he ⊢
    rw [rdT_bad he, rdT_bad he, endR_bad he, if_pos he] at hsT
    simp -dsimp [hres]
    refine rcv_s (by simp) (by simp) ?_
    rw [hsT]
    simp -dsimp [hres, wFix_by, isInl]
    rfl
end Fz.D
set_option maxRecDepth 100000
namespace Fz.D
open Go
end Fz.D
set_option maxRecDepth 100000
namespace Fz.D
open Go
theorem awakeS_s : Comes p 5 [] (.bool true) := by
  obtain ⟨H, h⟩ := isTrue_ok awake_run
  exact ⟨rfl, rfl, rfl, 400, .bool true, H, h, .inr ⟨rfl, .bool true, H, rfl, rfl⟩⟩
theorem few19_s (s : St) (base : List Int) : Comes p 6 [stV s, byV base] (.bool (fewB s && decide (s.mem.length = base.length))) := by
  have c1 := few_s s
  rw [← stF s] at c1
  simp only [stV.cells] at c1
  refine Comes_of w6 rfl rfl k6 ?_ ?_ ?_ ?_
  · simp
  · simp
  · simp
  · cases h : fewB s with
    | false => rw [h] at c1; simp -dsimp [w6, wFix_by, isInl, call_by c1, quiet_by c1]
    | true => rw [h] at c1; simp -dsimp [w6, wFix_by, isInl, call_by c1, quiet_by c1]; omega
theorem few_rest {s : St} (h : fewB s = true) : fewB (rest s) = true := by
  unfold fewB rest at *
  simp at h ⊢
  exact ⟨h.1, h.2.2.1, h.2.2.2.1, h.2.2.2.2.1, h.2.2.2.2.2.1, h.2.2.2.2.2.2.1⟩
theorem few_0 : fewB St0 = true := by decide
theorem ty_rest {s : St} (t : StTy s) : StTy (rest s) := by
  obtain ⟨⟩ := t
  constructor <;> first | assumption | exact by8_nil
theorem sn_ok {s : St} {base : List Int} (t : StTy s) (hb : by8 base) (h : fewB s = true) (hl : s.mem.length = base.length) : SnOk s base := by
  have l := few_len h
  exact ⟨t.mem, hb, hl, by omega, by omega, few_st h, diff_ok (ty_rest t) (few_rest h) few_0, by have := diff_enc (ty_rest t) (few_rest h) few_0; omega⟩
theorem by8_rleK : ∀ (k : Nat) (l : List Int), by8 l → by8 (rleK k l) := by
  intro k
  induction k with
  | zero => intro l _; exact by8_nil
  | succ k ih =>
    intro l h
    cases l with
    | nil => exact by8_nil
    | cons c r =>
      have e1 : rleK (k + 1) (c :: r) = encN (rcount c (c :: r) : Nat) ++ ([c] ++ rleK k ((c :: r).drop (rcount c (c :: r)))) := rfl
      rw [e1]
      refine by8_app (by8_encN _) (by8_app (fun x hx => ?_) (ih _ fun x hx => h x (List.mem_of_mem_drop hx)))
      rw [List.mem_singleton] at hx
      subst hx
      exact h _ (List.mem_cons_self ..)
theorem by8_chg {m base : List Int} (h : by8 m) : ∀ k, by8 (chgK m base k) := by
  intro k
  induction k with
  | zero => exact by8_nil
  | succ k ih =>
    rw [chgK, chg1]
    refine by8_app ih ?_
    split
    · exact by8_nil
    · exact by8_app (by8_encN _) (by8_txt (by8_rleK _ _ (pg_by h k)))
theorem by8_snap {s : St} {base : List Int} (t : StTy s) : by8 (snapF s base) :=
  by8_app (by8_encN _) (by8_app (by8_chg t.mem _) (by8_app (by8_txt t.out) (by8_txt (by8_encD (diff_by (ty_rest t))))))
end Fz.D
set_option maxRecDepth 100000
namespace Fz.D
open Go
end Fz.D
set_option maxRecDepth 100000
namespace Fz.D
open Go
end Fz.D
set_option maxRecDepth 100000
namespace Fz.D
open Go
def chL (m base : List Int) : List Nat → List Int
  | [] => []
  | n :: r => chg1 m base n ++ chL m base r
def cntL (m base : List Int) : List Nat → Nat
  | [] => 0
  | n :: r => cnt1 m base n + cntL m base r
theorem chL_app (m base : List Int) (a b : List Nat) : chL m base (a ++ b) = chL m base a ++ chL m base b := by
  induction a with
  | nil => rfl
  | cons n r ih => rw [List.cons_append, chL, chL, ih, List.append_assoc]
theorem cntL_app (m base : List Int) (a b : List Nat) : cntL m base (a ++ b) = cntL m base a + cntL m base b := by
  induction a with
  | nil => simp [cntL]
  | cons n r ih => rw [List.cons_append, cntL, cntL, ih]; omega
theorem chK_L (m base : List Int) (k : Nat) : chgK m base k = chL m base (List.range' 0 k) ∧ cntK m base k = cntL m base (List.range' 0 k) := by
  induction k with
  | zero => exact ⟨rfl, rfl⟩
  | succ k ih =>
    rw [chgK, cntK, ih.1, ih.2, List.range'_1_concat, chL_app, cntL_app]
    simp [chL, cntL]
def curM (m base : List Int) (j : Nat) : List Int := m.take (64 * j) ++ base.drop (64 * j)
theorem cur_lay {m base : List Int} {j : Nat} (hl : m.length = base.length) (hj : 64 * j < m.length) : lay64 (curM m base j) j (pg m j) = curM m base (j + 1) := by
  have hA : (m.take (64 * j)).length = 64 * j := by rw [List.length_take]; omega
  have hp : (pg m j).length = min 64 (m.length - 64 * j) := by unfold pg; rw [List.length_take, List.length_drop]
  unfold lay64 curM
  rw [List.take_append_of_le_length (by omega), List.take_of_length_le (by omega), List.drop_append, List.drop_of_length_le (by omega), hA, List.nil_append, List.drop_drop,
    show 64 * (j + 1) = 64 * j + 64 from by omega, List.take_add]
  congr 1
  by_cases c : 64 ≤ m.length - 64 * j
  · rw [show 64 * j + (64 * j + (pg m j).length - 64 * j) = 64 * j + 64 from by omega]
  · rw [List.drop_of_length_le (by omega), List.drop_of_length_le (by omega)]
theorem cur_same {m base : List Int} {j : Nat} (h : pg m j = pg base j) : curM m base (j + 1) = curM m base j := by
  unfold curM
  rw [show 64 * (j + 1) = 64 * j + 64 from by omega, List.take_add]
  have h : (m.drop (64 * j)).take 64 = (base.drop (64 * j)).take 64 := h
  rw [h, List.append_assoc, ← List.drop_drop, List.take_append_drop]
theorem memK_A {m base : List Int} (hl : m.length = base.length) (hb : m.length ≤ 100000) (h8 : by8 m) (rest : List Int) : ∀ (k j next : Nat), k = npg base - j → j ≤ npg base → next ≤ j →
    memK base (cntL m base (List.range' j k)) ⟨chL m base (List.range' j k) ++ rest, 0⟩ next (curM m base j) = (⟨rest, 0⟩, m) := by
  intro k
  induction k with
  | zero =>
    intro j next hk hj hn
    have : npg base = (base.length + 63) / 64 := rfl
    show ((⟨[] ++ rest, 0⟩ : Rs), curM m base j) = (⟨rest, 0⟩, m)
    unfold curM
    rw [List.take_of_length_le (by omega), List.drop_of_length_le (by omega), List.append_nil, List.nil_append]
  | succ k ih =>
    intro j next hk hj hn
    have hN : npg base = (base.length + 63) / 64 := rfl
    have hjl : 64 * j < m.length := by omega
    rw [List.range'_succ, chL, cntL]
    by_cases hE : pg m j = pg base j
    · rw [chg1, cnt1, if_pos hE, if_pos hE, List.nil_append, Nat.zero_add, ← cur_same hE]
      exact ih (j + 1) next (by omega) (by omega) (by omega)
    · rw [chg1, cnt1, if_neg hE, if_neg hE, Nat.add_comm, memK]
      have pl := pg_len m j
      have hpl : (pg m j).length = (pg base j).length := by unfold pg; rw [List.length_take, List.length_drop, List.length_take, List.length_drop, hl]
      have e1 : (encN (j : Int) ++ txt (rleF (pg m j)) ++ chL m base (List.range' (j + 1) k)) ++ rest = encN (j : Int) ++ (txt (rleF (pg m j)) ++ (chL m base (List.range' (j + 1) k) ++ rest)) := by simp only [List.append_assoc]
      have r1 := rd_A (n := (j : Int)) (lo := (next : Int)) (hi := (npg base : Int) - 1) (by unfold i64; omega) (by omega) (by omega) (txt (rleF (pg m j)) ++ (chL m base (List.range' (j + 1) k) ++ rest))
      have lR := rleF_len (l := pg m j) (by omega)
      have r2 := enc_t.A (rleF (pg m j)) (chL m base (List.range' (j + 1) k) ++ rest) ⟨by omega, by8_rleK _ _ (pg_by h8 j)⟩
      have r3 := takeR_A (b := pg m j) (by omega)
      rw [hpl] at r3
      rw [e1, r1]
      simp only
      rw [r2]
      simp only [Int.toNat_natCast]
      rw [r3]
      simp only
      rw [if_neg (by simp), if_neg (by simp), if_neg hE, cur_lay hl hjl]
      exact ih (j + 1) (j + 1) (by omega) (by omega) (by omega)
theorem memR_A {m base : List Int} (hl : m.length = base.length) (hb : m.length ≤ 100000) (h8 : by8 m) (rest : List Int) :
    memR base ⟨encN (cntK m base (npg base) : Nat) ++ (chgK m base (npg base) ++ rest), 0⟩ = (⟨rest, 0⟩, m) := by
  have hN : npg base = (base.length + 63) / 64 := rfl
  have hc := cntK_le m base (npg base)
  have r1 := rd_A (n := ((cntK m base (npg base) : Nat) : Int)) (lo := 0) (hi := (npg base : Nat)) (by unfold i64; omega) (by omega) (by omega) (chgK m base (npg base) ++ rest)
  unfold memR
  rw [r1]
  simp only [Int.toNat_natCast]
  obtain ⟨h1, h2⟩ := chK_L m base (npg base)
  rw [h1, h2]
  have := memK_A hl hb h8 rest (npg base) 0 0 (by omega) (by omega) (by omega)
  have e0 : curM m base 0 = base := by simp [curM]
  rw [e0] at this
  exact this
end Fz.D
set_option maxRecDepth 100000
namespace Fz.D
open Go
theorem diff_enc2 {f t : St} (tf : StTy f) (hf : fewB f = true) (ht : fewB t = true) (h0 : f.mem = []) : (encD (diffD f t)).length ≤ 65536 := by
  have ok := diff_ok tf hf ht
  obtain ⟨f1, f2, f3, f4, f5, f6, f7, f8⟩ := few_len hf
  have ll : (diffD f t).mem.length ≤ 0 := by
    have : (diffD f t).mem.length ≤ f.mem.length := fin_len f.mem t.mem f.mem.length
    rw [h0] at this
    exact this
  have lr : ∀ r ∈ (diffD f t).mem, r.b.length ≤ 600 := fun r hr => by have := (runs_ok tf.mem r hr).2.1; omega
  have w1 : (diffD f t).dt.length ≤ 40 := by show (f.data.drop _).length ≤ _; simp; omega
  have w2 : (diffD f t).rt.length ≤ 40 := by show (f.ret.drop _).length ≤ _; simp; omega
  have w3 : (diffD f t).ct.length ≤ 200 := by show (f.ctl.drop _).length ≤ _; simp; omega
  have w4 : (diffD f t).wt.length ≤ 40 := by show (f.words.drop _).length ≤ _; simp; omega
  have w5 : (diffD f t).st.length ≤ 100 := by show (f.spots.drop _).length ≤ _; simp; omega
  have lw : ∀ w ∈ (diffD f t).wt, w.name.size ≤ 60 := fun w hw => f8 w (List.mem_of_mem_drop hw)
  generalize diffD f t = d at *
  have e := congrArg List.length (encD_parts d)
  simp only [List.length_append] at e
  have t8 : ∀ b : List Int, b.length ≤ 1000 → (txt b).length ≤ 65 + b.length := fun b hb => by
    have := encN_len (len_i64 (n := b.length) (by omega)); unfold txt; simp; omega
  have m1 := encL_le (f := encRun) (c := 730) d.mem fun r hr => by
    have a1 := encN_len (ok.mem r hr).1
    have a2 := t8 r.b (by have := lr r hr; omega)
    have := lr r hr
    unfold encRun; simp; omega
  have m2 := encL_le (f := encN) (c := 65) d.dt fun r hr => encN_len (ok.dt r hr)
  have e2 : ∀ a b : Int, i64 a → i64 b → (encs [a, b]).length ≤ 130 := fun a b ha hb => by
    have := encN_len ha; have := encN_len hb
    simp [encs, cat]; omega
  have m3 := encL_le (f := encSlo) (c := 130) d.rt fun r hr => e2 _ _ (ok.rt r hr) (by unfold i64; split <;> omega)
  have m4 := encL_le (f := encN) (c := 65) d.ct fun r hr => encN_len (ok.ct r hr)
  have m5 := encL_le (f := encWor) (c := 300) d.wt fun r hr => by
    have a1 := e2 r.code (flg r.now r.hid) (ok.wt r hr).1 (by unfold flg i64; cases r.now <;> cases r.hid <;> simp)
    have a2 := t8 (nmB r.name) (by rw [nmB_len]; have := lw r hr; omega)
    have := nmB_len r.name
    have := lw r hr
    unfold encWor; simp; omega
  have m6 := encL_le (f := encSpo) (c := 130) d.st fun r hr => e2 _ _ (ok.st r hr).1 (ok.st r hr).2
  have n1 := encN_len (len_i64 (n := d.mem.length) (by omega))
  have n2 := encN_len (len_i64 (n := d.dt.length) (by omega))
  have n3 := encN_len (len_i64 (n := d.rt.length) (by omega))
  have n4 := encN_len (len_i64 (n := d.ct.length) (by omega))
  have n5 := encN_len (len_i64 (n := d.wt.length) (by omega))
  have n6 := encN_len (len_i64 (n := d.st.length) (by omega))
  have k1 := encN_len ok.dk
  have k2 := encN_len ok.rk
  have k3 := encN_len ok.ck
  have k4 := encN_len ok.wk
  have k5 := encN_len ok.sk
  have k6 := encN_len ok.out
  have rg := fun n hn => encN_len (ok.regs n hn)
  have r0 := rg d.r0 (by simp)
  have r1 := rg d.r1 (by simp)
  have r2 := rg d.r2 (by simp)
  have r3 := rg d.r3 (by simp)
  have r4 := rg d.r4 (by simp)
  have r5 := rg d.r5 (by simp)
  have fl : (encN (flg d.comp d.halt)).length ≤ 65 := encN_len (by unfold flg i64; cases d.comp <;> cases d.halt <;> simp)
  omega
theorem near_rest (s : St) : nearB (rest s) St0 = true := by simp [nearB, rest, St0, bstr, bytesV]
theorem wi_0 {a : Int} (h : wi a 0 = true) : a = 0 := by
  unfold wi at h
  simp at h; omega
theorem empty_diff (s : St) : emptyD (diffD (rest s) St0) = true := by
  have hf := diff_fits (near_rest s)
  unfold fitsB restOk at hf
  simp only [Bool.and_eq_true] at hf
  obtain ⟨_, h1, h2, h3, h4, h5, h6⟩ := hf
  have hm : (diffD (rest s) St0).mem = [] := by
    have : (diffD (rest s) St0).mem.length ≤ (rest s).mem.length := fin_len (rest s).mem St0.mem (rest s).mem.length
    exact List.length_eq_zero_iff.1 (by simpa [rest] using this)
  unfold emptyD
  rw [hm, wi_0 h1, wi_0 h2, wi_0 h3, wi_0 h4, wi_0 h5, wi_0 h6]
  rfl
theorem dRd_A {d : De} (h : TkOk d) : dRd (encD d) = (d, 0) := by
  obtain ⟨h1, h2⟩ := tr_A h [] (encD d) (by simp) (tr (encD d))
  unfold dRd
  rw [h1, h2]
  rfl
theorem snapT_A {s : St} {base : List Int} (t : StTy s) (hf : fewB s = true) (hl : s.mem.length = base.length) (x : List Int) : snapT (snapF s base ++ x) base = if 0 < x.length then (St0, 2) else (s, 0) := by
  have l := few_len hf
  have hTk := diff_tk (ty_rest t) (few_rest hf) few_0
  have hLn := diff_enc2 (ty_rest t) (few_rest hf) few_0 rfl
  have hB := diff_back (f := rest s) (t := St0) by8_nil by8_nil (near_rest s)
  have hE := empty_diff s
  have h8 := by8_encD (diff_by (t := St0) (ty_rest t))
  have e0 : snapF s base ++ x = encN (cntK s.mem base (npg base) : Nat) ++ (chgK s.mem base (npg base) ++ (txt s.out ++ (txt (encD (diffD (rest s) St0)) ++ x))) := by
    have hNN : npg s.mem = npg base := by unfold npg; omega
    unfold snapF
    rw [hNN]
    simp only [List.append_assoc]
  generalize diffD (rest s) St0 = d at *
  have m := memR_A (m := s.mem) (base := base) hl (by omega) t.mem (txt s.out ++ (txt (encD d) ++ x))
  have o := enc_t.A s.out (txt (encD d) ++ x) ⟨by omega, t.out⟩
  have y := enc_t.A (encD d) x ⟨hLn, h8⟩
  unfold snapT
  rw [e0, m]
  simp only
  rw [o]
  simp only
  rw [y]
  simp only
  rw [dRd_A hTk, hB, hE]
  by_cases hx : 0 < x.length
  · have : endR ⟨x, 0⟩ = 2 := by unfold endR; rw [if_pos ⟨rfl, hx⟩]
    rw [this, if_pos (by decide), if_pos hx]
  · have : endR ⟨x, 0⟩ = 0 := by unfold endR; rw [if_neg (fun h => hx h.2)]
    rw [this, if_neg (by decide), if_neg (by simp), if_neg (by simp), if_neg hx]
    cases s
    rfl
end Fz.D
set_option maxRecDepth 100000
namespace Fz.D
open Go
theorem snapF_len {s : St} {base : List Int} (t : StTy s) (hf : fewB s = true) (hl : s.mem.length = base.length) : (snapF s base).length ≤ 500000 := by
  have l := few_len hf
  have h1 := diff_enc2 (ty_rest t) (few_rest hf) few_0 rfl
  have hN : npg s.mem ≤ 10 := by unfold npg; omega
  have hc := cntK_le s.mem base (npg s.mem)
  have h2 := encN_le (n := cntK s.mem base (npg s.mem)) (by omega)
  have h3 := chgK_len s.mem base (npg s.mem) (by omega)
  have h4 := encN_le (n := s.out.length) (by omega)
  have h5 := encN_le (n := (encD (diffD (rest s) St0)).length) (by omega)
  unfold snapF txt
  simp only [List.length_append]
  omega
theorem snapF_ne (s : St) (base : List Int) : snapF s base ≠ [] := by
  unfold snapF
  exact fun e => encN_ne _ (List.append_eq_nil_iff.1 e).1
theorem lawBack {s : St} {base : List Int} {m : Int} (t : StTy s) (hb : by8 base) (hm : 0 ≤ m ∧ m < 256) : Comes p 3 [stV s, byV base, .int .u8 m] (.bool true) := by
  have a := awakeS_s
  have c1 := few19_s s base
  rw [← stF s] at c1
  simp only [stV.cells] at c1
  refine Comes_of w3 rfl rfl k3 ?_ ?_ ?_ ?_
  · simp
  · simp
  · simp
  · cases h1 : (fewB s && decide (s.mem.length = base.length)) with
    | false => rw [h1] at c1; simp -dsimp [w3, wFix_by, isInl, call_by a, call_by c1]
    | true =>
      rw [h1] at c1
      rw [Bool.and_eq_true, decide_eq_true_eq] at h1
      obtain ⟨hf, hl⟩ := h1
      have l := few_len hf
      have ok := sn_ok t hb hf hl
      have p1 := snapPut_s ok
      have hln := snapF_len t hf hl
      have h8 := by8_snap (base := base) t
      have t1 := snapTake_s (b := snapF s base) (base := base) (by omega) h8 hb (by omega)
      have t2 := snapTake_s (b := snapF s base ++ [m]) (base := base) (by rw [List.length_append, List.length_singleton]; omega) (by8_app h8 fun x hx => by rw [List.mem_singleton] at hx; rw [hx]; exact hm) hb (by omega)
      have e1 := snapT_A t hf hl []
      have e2 := snapT_A t hf hl [m]
      rw [List.append_nil, if_neg (by simp)] at e1
      rw [if_pos (by simp)] at e2
      rw [e1] at t1
      rw [e2] at t2
      have s1 := same_self (few_st hf) t.mem t.out
      have hb0 := snapF_ne s base
      generalize snapF s base = b at *
      rw [← stF s] at p1 t1 s1
      rw [← stF St0] at t2
      simp only [stV.cells] at p1 t1 t2 s1
      simp -dsimp [w3, wFix_by, isInl, call_by a, call_by c1, call_by p1, call_by t1, hb0]
      refine ⟨by simp [capOk]; omega, by simp [capOk]; omega, ?_⟩
      refine call_frz rfl ?_
      rw [frzL_cons]
      refine frz_acg 4 (k := 11) (l := (b ++ [m]).map (V.int .u8)) ⟨by simp, by decide, .inr ⟨0, (b ++ [m]).map (V.int .u8), by simp, by simp, by simp, by rw [flat_int]; exact List.take_of_length_le (by simp)⟩⟩ (by simp) (.inl ⟨rfl, by simp⟩) fun H' ht _ => ?_
      have hq0 : H' = [.live (cellsOf (stV s)), .live (cellsOf (stV s)), .dead, .live [.int .u8 m]] ++ H'.drop 4 := by
        conv => lhs; rw [← List.take_append_drop 4 H', ht]
        rfl
      obtain ⟨q, hq⟩ : ∃ q, H' = [.live (cellsOf (stV s)), .live (cellsOf (stV s)), .dead, .live [.int .u8 m]] ++ q := ⟨_, hq0⟩
      clear hq0 ht
      subst hq
      have nl : ((b ++ [m]).map (V.int .u8)).map nrm = (b ++ [m]).map (V.int .u8) := by simp
      rw [nl, frzL_gk (by simp)]
      refine wVal_of ?_
      simp only [List.map_cons, List.map_nil, byV.nr]
      unfold byV at t2
      unfold byV
      rw [callN_by t2]
      simp -dsimp [call_by s1, wFix_by, isInl]
end Fz.D
