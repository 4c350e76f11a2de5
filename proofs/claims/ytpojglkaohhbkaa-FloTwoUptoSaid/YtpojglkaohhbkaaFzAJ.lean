/- Functions of Go's library that the model knows by their answers. -/
import Derived.Test.YtpojglkaohhbkaaFzAI
import Derived.Test.YtpojglkaohhbkaaFzW
import Derived.Laws.Externs
namespace Fz
open Go

inductive Prim where
  | fbits
  | ffrom
  | sqrt
  | integral (way : Ieee.Toward)
def primV : Prim → List V → Option V
  | .fbits, [.float .f64 b] => some (.int .u64 b)
  | .ffrom, [.int .u64 n] => some (.float .f64 n.toNat)
  | .sqrt, [.float .f64 b] => some (floatV .f64 (Ieee.double.sqrt b))
  | .integral way, [.float .f64 b] => match Ieee.double.read b with
    | .nan _ _ => none
    | d => some (.float .f64 (Ieee.double.write (d.integral way)))
  | _, _ => none
def primName : Prim → String
  | .integral way => match way with
    | .down => "math.archFloor"
    | .up => "math.archCeil"
    | .zero => "math.archTrunc"
    | .even => "math.RoundToEven"
  | _ => ""
def primSem : Prim → Array Value → Sem Value
  | .fbits => Extern.MathFloatBits.float64bits
  | .ffrom => Extern.MathFloatBits.float64frombits
  | .sqrt => Extern.MathSqrt.sqrt
  | .integral way => Extern.MathFloor.toIntegral (primName (.integral way)) way

theorem primSem_ok {P : Program} {pr : Prim} {args : List V} {v : V} (h : primV pr args = some v) {K : Kn} {β : Bi} {w : World} {cs : Array Value} (ha : LR K β args cs.toList) :
    ∃ c w', (primSem pr cs).run P w = .ok c w' ∧ VR K β v c ∧ Drew w w' := by
  obtain ⟨cs⟩ := cs
  unfold primV at h
  split at h <;> try (cases h; done)
  · obtain ⟨c, r, e, h1, h2⟩ := ha.head
    obtain rfl : r = [] := List.eq_nil_of_length_eq_zero h2.1.symm
    have e : cs = [c] := e
    subst e; cases h; cases h1
    exact ⟨_, w, rfl, .int _ _, .refl w⟩
  · obtain ⟨c, r, e, h1, h2⟩ := ha.head
    obtain rfl : r = [] := List.eq_nil_of_length_eq_zero h2.1.symm
    have e : cs = [c] := e
    subst e; cases h; cases h1
    exact ⟨_, w, rfl, .float _ _, .refl w⟩
  · rename_i b
    obtain ⟨c, r, e, h1, h2⟩ := ha.head
    obtain rfl : r = [] := List.eq_nil_of_length_eq_zero h2.1.symm
    have e : cs = [c] := e
    subst e; cases h; cases h1
    have e0 : primSem .sqrt #[.float .f64 b] = (match Ieee.double.sqrt b with | some r => pure (.float .f64 r) | none => do pure (.float .f64 (← choose (.nanBits .f64 b b))) : Sem Value) := rfl
    rw [e0]
    cases hs : Ieee.double.sqrt b with
    | some x =>
      refine ⟨.float .f64 x, w, ?_, .float _ _, .refl w⟩
      rfl
    | none =>
      refine ⟨.float .f64 ((Question.nanBits .f64 b b).cut (w.tape w.drawn (.nanBits .f64 b b))), { w with drawn := w.drawn + 1 }, ?_, ?_, ⟨rfl, rfl, rfl, rfl⟩⟩
      · simp [Question.forced]
      · exact .fnan _ _ ⟨w.tape w.drawn (.nanBits .f64 b b), by simp [Question.cut]⟩
  · rename_i way b
    obtain ⟨c, r, e, h1, h2⟩ := ha.head
    obtain rfl : r = [] := List.eq_nil_of_length_eq_zero h2.1.symm
    have e : cs = [c] := e
    subst e; cases h1
    have e0 : primSem (.integral way) #[.float .f64 b] = (match Ieee.double.read b with
      | .nan s t => if Ieee.double.quiet t = t then pure (.float .f64 b) else do
        let kept ← choose (.extern "math.Floor,Ceil,Trunc,RoundToEven.signallingNaN kept" 2)
        pure (.float .f64 (if kept == 1 then b else Ieee.double.write (.nan s (Ieee.double.quiet t))))
      | d => pure (.float .f64 (Ieee.double.write (d.integral way))) : Sem Value) := rfl
    split at h
    · cases h
    · rename_i hn
      cases h
      refine ⟨.float .f64 (Ieee.double.write ((Ieee.double.read b).integral way)), w, ?_, .float _ _, .refl w⟩
      rw [e0]
      cases hd : Ieee.double.read b with
      | nan s t => exact absurd hd (hn s t)
      | _ => rfl

theorem prim_ok {P : Program} {pr : Prim} {f : FuncId} {fn : Func} (hf : P.funcs[f]? = some fn) (hname : (fn.name == "runtime.NumGoroutine") = false) (hb : fn.body = none) (hn : Extern.findNext fn = none)
    (he : ∀ a, (Extern.find fn).map (fun e => e a) = some (primSem pr a)) (args : List V) (v : V) (h : primV pr args = some v) (K : Kn) (β : Bi) (H : List Ob) (w : World) (cargs : Array Value) (hI : Inv K β H w) (ha : LR K β args cargs.toList) :
    DoesOk P f cargs w (CallPost K β H w (.ret v) H) := by
  obtain ⟨c, w', h1, h2, h3⟩ := primSem_ok (P := P) (w := w) h ha
  cases hx : Extern.find fn with
  | none => have := he #[]; rw [hx] at this; cases this
  | some e =>
    have e1 : e cargs = primSem pr cargs := by have := he cargs; rw [hx] at this; exact Option.some.inj this
    refine .inl ⟨c, w', ?_, K, β, h2, hI.drawn h3.1, .drawn h3.1 h3.2.1 h3.2.2.1 h3.2.2.2⟩
    rw [run_callFunc_extern hf hname (by rw [hb]; rfl) hn hx, e1, h1]
    rfl

theorem Comes_prim {p : AP} {f : FuncId} {g : List V → Option V} {args : List V} {v : V} (hp : p.prim f = some g) (hg : g args = some v) (hi : p.inl f = false)
    (ha : args.all gr = true) (hn : args.all nm = true) (hv : gr v = true) (hnm : nrm v = v) : Comes p f args v := by
  have hv' := hv
  unfold gr at hv'
  rw [Bool.and_eq_true] at hv'
  refine ⟨ha, hv, by rw [hn, Bool.or_true], 1, v, [], ?_, .inr ⟨hi, v, [], freeze_gr _ _ _ hv'.1 hv'.2, hnm⟩⟩
  simp only [acall, callW, hp, hg, Option.map_some]
end Fz
