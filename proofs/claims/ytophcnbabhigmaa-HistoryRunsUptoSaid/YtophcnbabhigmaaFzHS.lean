import Derived.Test.YtophcnbabhigmaaFzHR
set_option maxRecDepth 100000
namespace Fz.H
open Go

theorem law3 (bud per : Int) (l : List Op) (c : Bool) (h8 : ops8 l) : WFun p 3 [.int .i64 bud, .int .i64 per, .list (l.map opV) c] [] yes := by
  refine WFun_of w3 rfl rfl k3 ?_
  have hm := lmay bud per l
  have qm : ∀ H (K : V → Prop), xQuiet p 8 [.int .i64 bud, .int .i64 per, .list (l.map opV) c] H K = K _ := fun H K => quiet_nrm rfl (by simp) (by simp; rfl) hm
  have cm : ∀ H (Q : CR → List Ob → Prop), xCall p 8 [.int .i64 bud, .int .i64 per, .list (l.map opV) c] H Q = Q (.ret _) H := fun H K => call_nrm rfl (by simp) (by simp; rfl) hm
  by_cases hc : 0 ≤ bud ∧ 1 ≤ per ∧ per ≤ 1024 ∧ l.length ≤ 40
  · have h1 := lrun bud per l hc.1 ⟨hc.2.1, hc.2.2.1⟩ hc.2.2.2 h8
    have h2 := rrun bud per l hc.1 ⟨hc.2.1, hc.2.2.1⟩ hc.2.2.2 h8
    have q1 : ∀ H (K : V → Prop), xQuiet p 9 [.int .i64 bud, .int .i64 per, .list (l.map opV) c] H K = K _ := fun H K => quiet_nrm rfl (by simp) (by simp; rfl) h1
    have c1 : ∀ H (Q : CR → List Ob → Prop), xCall p 9 [.int .i64 bud, .int .i64 per, .list (l.map opV) c] H Q = Q (.ret _) H := fun H K => call_nrm rfl (by simp) (by simp; rfl) h1
    have q2 : ∀ H (K : V → Prop), xQuiet p 10 [.int .i64 bud, .int .i64 per, .list (l.map opV) c] H K = K _ := fun H K => quiet_nrm rfl (by simp) (by simp; rfl) h2
    have c2 : ∀ H (Q : CR → List Ob → Prop), xCall p 10 [.int .i64 bud, .int .i64 per, .list (l.map opV) c] H Q = Q (.ret _) H := fun H K => call_nrm rfl (by simp) (by simp; rfl) h2
    have g := run_good bud per hc.1 l h8 l.length (Nat.le_refl _)
    rw [List.take_length] at g
    have ok := g.ok (by omega)
    have hs := hsame _ g.rb g.sb ⟨by have := g.rl; omega, by have := g.sl; omega⟩
    have hz := hsize _ ok
    have hz2 := rsize _ ⟨ok.1, ok.2.1, ok.2.2.1, ok.2.2.2.1⟩
    generalize runR bud per l = h at hs hz hz2 q1 c1 q2 c2
    simp only [hiV] at hs hz hz2 q1 c1 q2 c2
    simp -dsimp [w3, call_by lawake, quiet_by lawake, qm, cm, hc, q1, c1, q2, c2, call_by hs, quiet_by hs, call_by hz, quiet_by hz, call_by hz2, quiet_by hz2]
  · simp -dsimp [w3, call_by lawake, quiet_by lawake, qm, cm, hc]
end Fz.H
