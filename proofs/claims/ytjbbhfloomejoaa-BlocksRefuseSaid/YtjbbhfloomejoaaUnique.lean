/- A call that returns returns one value. No program. -/
import Derived.WalkKit
namespace Go.Proofs.Ytjbbhfloomejoaa
open Go.RowKit

/-- A caller behind which nothing goes on. -/
def deadEnd (P : Program) : Frame := { fn := P.funcs.size, tmps := #[], todo := [], defers := [], mode := .returning, kind := .report }
theorem step_deadEnd (P : Program) (w : World) : ∃ o, step P (lone (deadEnd P) [] w) = .ended o w := by
  refine ⟨_, step_lone_ended (o := .stuck "report: Error or String returned no string" "") ?_⟩
  simp [stepG, deadEnd, unwind, doReturn]
theorem runN_ended {P : Program} {m : Machine} {o : Outcome} {w : World} (h : step P m = .ended o w) (d : Nat) (m' : Machine) (h2 : runN P (d + 1) m = .next m') : False := by
  simp [runN, h] at h2
theorem Calls.unique {P : Program} {f : FuncId} {args : Array Value} {w : World} {v1 v2 : Value}
    (h1 : Calls P f args w fun e _ => e = .returned v1) (h2 : Calls P f args w fun e _ => e = .returned v2) : v1 = v2 := by
  obtain ⟨e1, w1, fr1, rfl, c1, _, l1⟩ := h1 [deadEnd P]
  obtain ⟨e2, w2, fr2, rfl, c2, _, l2⟩ := h2 [deadEnd P]
  obtain ⟨n1, r1⟩ := c1
  obtain ⟨n2, r2⟩ := c2
  have key : ∀ {n1 n2 : Nat} {fr1 fr2 : Frame} {w1 w2 : World} {v1 v2 : Value}, runN P n1 (lone (Frame.enter P f args .normal) [deadEnd P] w) = .next (lone fr1 [deadEnd P] w1) →
      runN P n2 (lone (Frame.enter P f args .normal) [deadEnd P] w) = .next (lone fr2 [deadEnd P] w2) → fr1.leaving P w1 (.returned v1) → fr2.leaving P w2 (.returned v2) → n1 ≤ n2 → v1 = v2 := by
    intro n1 n2 fr1 fr2 w1 w2 v1 v2 r1 r2 l1 l2 hle
    obtain ⟨d, rfl⟩ := Nat.exists_eq_add_of_le hle
    rw [runN_add, r1] at r2
    have hs := step_leave_returned (c := deadEnd P) (cs := []) l1
    match d, r2 with
    | 0, r2 =>
      simp [runN, lone] at r2
      obtain ⟨rw2, rf⟩ := r2
      subst rw2 rf
      obtain ⟨_, _, _, fn1, hf1, hr1⟩ := l1
      obtain ⟨_, _, _, fn2, hf2, hr2⟩ := l2
      rw [hf1] at hf2
      cases hf2
      rw [hr1] at hr2
      simp at hr2
      exact hr2
    | 1, r2 =>
      have r3 : runN P (0 + 1) (lone fr1 [deadEnd P] w1) = .next (lone fr2 [deadEnd P] w2) := r2
      simp only [runN, hs, Stepped.next.injEq] at r3
      have r4 := congrArg (fun m : Machine => m.gs) r3
      simp [lone] at r4
    | d + 2, r2 =>
      have hf : (deadEnd P).finish v1 = deadEnd P := rfl
      rw [hf] at hs
      obtain ⟨o, ho⟩ := step_deadEnd P w1
      have r3 : runN P ((d + 1) + 1) (lone fr1 [deadEnd P] w1) = .next (lone fr2 [deadEnd P] w2) := r2
      simp only [runN, hs] at r3
      have r2 : runN P (d + 1) (lone (deadEnd P) [] w1) = .next (lone fr2 [deadEnd P] w2) := r3
      exact (runN_ended ho d _ r2).elim
  rcases Nat.le_total n1 n2 with h | h
  · exact key r1 r2 l1 l2 h
  · exact (key r2 r1 l2 l1 h).symm
end Go.Proofs.Ytjbbhfloomejoaa
