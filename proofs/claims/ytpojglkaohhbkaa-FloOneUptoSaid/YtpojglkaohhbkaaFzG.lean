/- Each operation is carried out as the abstract interpreter says: numbers, texts, comparisons, slices. -/
import Derived.Test.YtpojglkaohhbkaaFzF
namespace Fz
open Go

theorem eqGuard_ok {P : Program} {op : BinOp} {t : TypeId} {x y : Operand} {a b : Value} (h1 : ∀ h : a = .nilIface, b ≠ .nilIface) (h2 : ∀ cs ds, a = .agg cs → b ≠ .agg ds) (w : World) :
    (eqGuard op t x y a b).run P w = .ok () w := by
  have key : (match a, b with
      | .nilIface, .nilIface => (do
        if (x matches .const _) || (y matches .const _) then return
        if ← Op.eqGuardIn Op.maxDepth t a b then unsupported (.noEntry "binop/eql: two nil values of an interface type with methods, neither of them the literal nil") : Sem Unit)
      | .agg _, .agg _ => (do
        if !(← program).eqGuardType (← program).depth t then return
        if ← Op.eqGuardIn Op.maxDepth t a b then unsupported (.noEntry "binop/eql: two nil values of an interface type with methods, in a part of a struct or an array") : Sem Unit)
      | _, _ => (pure () : Sem Unit)) = pure () := by
    split
    · exact absurd rfl (h1 rfl)
    · exact absurd rfl (h2 _ _ rfl)
    · rfl
  unfold eqGuard
  cases op <;> first
    | rfl
    | exact congrArg (fun s : Sem Unit => s.run P w) key

theorem nan_of {f : Ieee.Format} {b : Nat} (h : f.infRung < b % f.signWeight) (h' : f.binade ≤ f.infRung) : ∃ s t, f.read b = .nan s t := by
  refine ⟨b / f.signWeight % 2 == 1, b % f.signWeight - f.infRung, ?_⟩
  unfold Ieee.Format.read
  dsimp only
  rw [if_neg (by omega), if_neg (by omega), if_neg (by omega)]
theorem nan_read {k : FloatKind} {b : Nat} (h : isNaNbits k b) : ∃ s t, k.format.read b = .nan s t := by
  obtain ⟨t, rfl⟩ := h
  cases k with
  | f32 =>
    refine nan_of ?_ (by decide)
    show 0x7f800000 < ((t % 2) * 2 ^ 31 + 0x7f800000 + 1 + (t / 2) % (2 ^ 23 - 1)) % 2 ^ 31
    have h1 : (t / 2) % (2 ^ 23 - 1) < 2 ^ 23 - 1 := Nat.mod_lt _ (by decide)
    generalize (t / 2) % (2 ^ 23 - 1) = r at h1
    rw [show t % 2 * 2 ^ 31 + 0x7f800000 + 1 + r = (0x7f800000 + 1 + r) + 2 ^ 31 * (t % 2) from by omega, Nat.add_mul_mod_self_left, Nat.mod_eq_of_lt (by omega)]
    omega
  | f64 =>
    refine nan_of ?_ (by decide)
    show 0x7ff0000000000000 < ((t % 2) * 2 ^ 63 + 0x7ff0000000000000 + 1 + (t / 2) % (2 ^ 52 - 1)) % 2 ^ 63
    have h1 : (t / 2) % (2 ^ 52 - 1) < 2 ^ 52 - 1 := Nat.mod_lt _ (by decide)
    generalize (t / 2) % (2 ^ 52 - 1) = r at h1
    rw [show t % 2 * 2 ^ 63 + 0x7ff0000000000000 + 1 + r = (0x7ff0000000000000 + 1 + r) + 2 ^ 63 * (t % 2) from by omega, Nat.add_mul_mod_self_left, Nat.mod_eq_of_lt (by omega)]
    omega
theorem nan_order {k : FloatKind} {a : Nat} (h : isNaNbits k a) (b : Nat) : k.format.order a b = none := by
  obtain ⟨s, t, h⟩ := nan_read h
  unfold Ieee.Format.order
  rw [h]; rfl

/-- Worlds that differ in what was drawn alone. -/
def Drew (w w' : World) : Prop := w'.heap = w.heap ∧ w'.os = w.os ∧ w'.tape = w.tape ∧ w'.output = w.output
theorem Drew.refl (w : World) : Drew w w := ⟨rfl, rfl, rfl, rfl⟩

theorem OpOk.drew {P : Program} {K : Kn} {β : Bi} {H : List Ob} {w w' : World} {r : Result Next} {v : V} {c : Value} (hI : Inv K β H w) (hd : Drew w w') (hr : r = .ok (.value c) w') (hv : VR K β v c) :
    OpOk P K β H w r (.val v H) := ⟨c, w', K, β, hr, hv, hI.drawn hd.1, .drawn hd.1 hd.2.1 hd.2.2.1 hd.2.2.2⟩

theorem floatV_sound {P : Program} {K : Kn} {β : Bi} {w : World} {op : BinOp} {k : FloatKind} {a b : Nat} (r : Option Nat)
    (h : Op.floatArith op k a b = (match r with | some x => pure (.float k x) | none => do pure (.float k (← choose (.nanBits k a b))))) :
    ∃ c w', (Op.floatArith op k a b).run P w = .ok c w' ∧ VR K β (floatV k r) c ∧ Drew w w' := by
  rw [h]
  cases r with
  | some x => exact ⟨.float k x, w, rfl, .float k x, .refl w⟩
  | none =>
    refine ⟨.float k ((Question.nanBits k a b).cut (w.tape w.drawn (.nanBits k a b))), { w with drawn := w.drawn + 1 }, ?_, ?_, ⟨rfl, rfl, rfl, rfl⟩⟩
    · simp [Question.forced]
    · refine .fnan k _ ⟨w.tape w.drawn (.nanBits k a b), ?_⟩
      cases k <;> rfl

theorem cmpInt_sound {P : Program} {K : Kn} {β : Bi} {w : World} {op : BinOp} {a b : Int} {r : Bool} (h : cmpInt op a b = some r) : ∃ c, (Op.intCmp op a b).run P w = .ok c w ∧ VR K β (.bool r) c := by
  unfold cmpInt at h
  split at h <;> cases h <;> exact ⟨_, rfl, .bool _⟩
theorem bitsInt_sound {P : Program} {K : Kn} {β : Bi} {w : World} {op : BinOp} {k : IntKind} {a b r : Int} (h : bitsInt op k a b = some r) : ∃ c, (Op.intBits op k a b).run P w = .ok c w ∧ VR K β (.int k r) c := by
  unfold bitsInt at h
  split at h <;> cases h <;> exact ⟨_, rfl, .int _ _⟩
theorem cmpF_sound {P : Program} {K : Kn} {β : Bi} {w : World} {op : BinOp} {k : FloatKind} {a b : Nat} {r : Bool} (h : cmpF op (k.format.order a b) = some r) : ∃ c, (Op.floatCmp op k a b).run P w = .ok c w ∧ VR K β (.bool r) c := by
  unfold cmpF at h
  split at h <;> cases h <;> exact ⟨_, rfl, .bool _⟩

theorem equal_eq (t : TypeId) (x y : Value) : Op.equal t x y = Op.equalIn (9999 + 1) t x y := rfl

theorem eqV_sound {P : Program} {K : Kn} {β : Bi} {w : World} {t : TypeId} {x y : V} {cx cy : Value} {r : Bool} (hx : VR K β x cx) (hy : VR K β y cy) (h : eqV (cEq P t) x y = some r) :
    (Op.equal t cx cy).run P w = .ok r w ∧ (∀ h : cx = .nilIface, cy ≠ .nilIface) ∧ (∀ cs ds, cx = .agg cs → cy ≠ .agg ds) ∧
      binOp .eql t cx cy = (do pure (.bool (← Op.equal t cx cy))) ∧ binOp .neq t cx cy = (do pure (.bool (!(← Op.equal t cx cy)))) := by
  unfold cEq at h
  cases hu : P.underlying t with
  | none => rw [hu] at h; simp [eqV] at h
  | some d =>
    rw [hu] at h
    have hr := run_underlying hu w
    cases d <;> simp only [eqV] at h <;> first
      | (cases h; done)
      | (unfold eqB at h
         split at h <;> cases h
         cases hx; cases hy
         exact ⟨by rw [equal_eq, Op.equalIn]; simp only [Sem.run_bind, hr, Result.andThen_ok]; rfl, by simp, by simp, rfl, rfl⟩)
      | (unfold eqP at h
         split at h <;> cases h <;> cases hx <;> cases hy <;>
           exact ⟨by rw [equal_eq, Op.equalIn]; simp only [Sem.run_bind, hr, Result.andThen_ok]; rfl, by simp, by simp, rfl, rfl⟩)
      | (unfold eqF at h
         split at h <;> cases h <;> cases hx <;> cases hy <;>
           exact ⟨by rw [equal_eq, Op.equalIn]; simp only [Sem.run_bind, hr, Result.andThen_ok]; rfl, by simp, by simp, rfl, rfl⟩)

theorem bin_float {P : Program} {K : Kn} {β : Bi} {w : World} {t : TypeId} {ox oy : Operand} {k : FloatKind} {a b : Nat} (op : BinOp) (r : Option Nat)
    (h : Op.floatArith op k a b = (match r with | some x => pure (.float k x) | none => do pure (.float k (← choose (.nanBits k a b))))) (hop : binOp op t (.float k a) (.float k b) = Op.floatArith op k a b) :
    ∃ c w', (do eqGuard op t ox oy (.float k a) (.float k b); binOp op t (.float k a) (.float k b) : Sem Value).run P w = .ok c w' ∧ VR K β (floatV k r) c ∧ Drew w w' := by
  obtain ⟨c, w', hr, hv, hd⟩ := floatV_sound (P := P) (K := K) (β := β) (w := w) r h
  exact ⟨c, w', by rw [Sem.run_bind, eqGuard_ok (by simp) (by simp), hop]; exact hr, hv, hd⟩

theorem bin_sound {P : Program} {K : Kn} {β : Bi} {w : World} {op : BinOp} {t : TypeId} {ox oy : Operand} {x y v : V} {cx cy : Value} (hx : VR K β x cx) (hy : VR K β y cy) (h : binV op (cEq P t) x y = some v) :
    ∃ c w', (do eqGuard op t ox oy cx cy; binOp op t cx cy : Sem Value).run P w = .ok c w' ∧ VR K β v c ∧ Drew w w' := by
  have plain : ∀ {c : Value} {w' : World}, (∀ h : cx = .nilIface, cy ≠ .nilIface) → (∀ cs ds, cx = .agg cs → cy ≠ .agg ds) → (binOp op t cx cy).run P w = .ok c w' →
      (do eqGuard op t ox oy cx cy; binOp op t cx cy : Sem Value).run P w = .ok c w' := by
    intro c w' h1 h2 h3
    rw [Sem.run_bind, eqGuard_ok h1 h2]
    exact h3
  unfold binV at h
  split at h
  · cases hx; cases hy
    split at h <;> cases h
    rename_i hb
    exact ⟨_, w, plain (by simp) (by simp) (by simp [binOp, Op.shift, hb]), .int _ _, .refl w⟩
  · cases hx; cases hy
    split at h <;> cases h
    rename_i hb
    exact ⟨_, w, plain (by simp) (by simp) (by simp [binOp, Op.shift, hb]), .int _ _, .refl w⟩
  · rename_i k a k' b n1 n2
    cases hx; cases hy
    split at h
    · rename_i hk; subst hk
      split at h
      · cases h; exact ⟨_, w, plain (by simp) (by simp) (by simp [binOp, Op.intArith]), .int _ _, .refl w⟩
      · cases h; exact ⟨_, w, plain (by simp) (by simp) (by simp [binOp, Op.intArith]), .int _ _, .refl w⟩
      · cases h; exact ⟨_, w, plain (by simp) (by simp) (by simp [binOp, Op.intArith]), .int _ _, .refl w⟩
      · split at h <;> cases h
        rename_i hb
        exact ⟨_, w, plain (by simp) (by simp) (by simp [binOp, Op.intDiv, hb]), .int _ _, .refl w⟩
      · split at h <;> cases h
        rename_i hb
        exact ⟨_, w, plain (by simp) (by simp) (by simp [binOp, Op.intDiv, hb]), .int _ _, .refl w⟩
      all_goals
        simp only [Option.map_eq_some_iff] at h
        obtain ⟨r, hr, rfl⟩ := h
        first
          | (obtain ⟨c, hc, hv⟩ := bitsInt_sound (P := P) (K := K) (β := β) (w := w) hr
             exact ⟨c, w, plain (by simp) (by simp) (by simpa [binOp] using hc), hv, .refl w⟩)
          | (obtain ⟨c, hc, hv⟩ := cmpInt_sound (P := P) (K := K) (β := β) (w := w) hr
             cases op <;> simp only [cmpInt] at hr <;> first
               | (cases hr; done)
               | exact ⟨c, w, plain (by simp) (by simp) (by simpa [binOp] using hc), hv, .refl w⟩)
    · cases h
  · cases hx; cases hy
    split at h
    · split at h <;> cases h
      rename_i hb
      refine ⟨_, w, plain (by simp) (by simp) (by
        have e : (2 : Int) ^ IntKind.i64.bits - 1 = 18446744073709551615 := by decide
        have e2 : IntKind.i64.max = 9223372036854775807 := by decide
        simp only [binOp, Op.stringOp]
        rw [if_neg (by rw [e2]; omega)]
        rfl), .str _, .refl w⟩
    · cases h; exact ⟨_, w, plain (by simp) (by simp) (by simp [binOp, Op.stringOp]; rfl), by simp [ByteArray.toList_eq]; exact .bool _, .refl w⟩
    · cases h; exact ⟨_, w, plain (by simp) (by simp) (by simp [binOp, Op.stringOp]; rfl), by simp [ByteArray.toList_eq]; exact .bool _, .refl w⟩
    · cases h
  · cases hx; cases hy
    rename_i op k a k' b n1
    split at h
    · rename_i hk; subst hk
      split at h
      · cases h; exact bin_float .add _ rfl (by simp [binOp])
      · cases h; exact bin_float .sub _ rfl (by simp [binOp])
      · cases h; exact bin_float .mul _ rfl (by simp [binOp])
      · cases h; exact bin_float .quo _ rfl (by simp [binOp])
      · simp only [Option.map_eq_some_iff] at h
        obtain ⟨r, hr, rfl⟩ := h
        obtain ⟨c, hc, hv⟩ := cmpF_sound (P := P) (K := K) (β := β) (w := w) hr
        cases op <;> simp [cmpF] at hr <;> exact ⟨c, w, plain (by simp) (by simp) (by simp [binOp, hc]), hv, .refl w⟩
    · cases h
  · split at h
    · rename_i hk; subst hk
      cases hx with
      | fnan k1 a ha =>
        cases hy with
        | fnan _ b hb =>
          simp only [Option.map_eq_some_iff] at h
          obtain ⟨r, hr, rfl⟩ := h
          have ho := nan_order ha b
          rw [← ho] at hr
          obtain ⟨c, hc, hv⟩ := cmpF_sound (P := P) (K := K) (β := β) (w := w) hr
          cases op <;> simp [cmpF] at hr <;> exact ⟨c, w, plain (by simp) (by simp) (by simp [binOp, hc]), hv, .refl w⟩
    · cases h
  · simp only [Option.map_eq_some_iff] at h
    obtain ⟨r, hr, rfl⟩ := h
    obtain ⟨g1, g2, g3, g4⟩ := eqV_sound (P := P) (w := w) hx hy hr
    exact ⟨_, w, plain g2 g3 (by rw [g4.1]; simp [g1]), .bool _, .refl w⟩
  · simp only [Option.map_eq_some_iff] at h
    obtain ⟨r, hr, rfl⟩ := h
    obtain ⟨g1, g2, g3, g4⟩ := eqV_sound (P := P) (w := w) hx hy hr
    exact ⟨_, w, plain g2 g3 (by rw [g4.2]; simp [g1]), .bool _, .refl w⟩
  · cases h

theorem un_sound {P : Program} {K : Kn} {β : Bi} {w : World} {op : UnOp} {x v : V} {cx : Value} (hx : VR K β x cx) (h : unV op x = some v) : ∃ c, (Op.unary op cx).run P w = .ok c w ∧ VR K β v c := by
  unfold unV at h
  split at h
  · cases h; cases hx; exact ⟨_, by simp [Op.unary, Op.intArith], .int _ _⟩
  · cases hx
    simp only [Option.map_eq_some_iff] at h
    obtain ⟨r, hr, rfl⟩ := h
    simp only [Op.unary]
    exact bitsInt_sound hr
  · cases h; cases hx; exact ⟨_, by simp [Op.unary], .bool _⟩
  · cases h; cases hx; exact ⟨_, by simp [Op.unary], .float _ _⟩
  · cases h
end Fz
