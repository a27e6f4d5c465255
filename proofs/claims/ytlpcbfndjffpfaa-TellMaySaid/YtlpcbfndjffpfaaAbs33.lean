/- A scope in which the code jumps back to one label. -/
import Derived.Test.YtlpcbfndjffpfaaAbs32
import Derived.Scope
set_option linter.unusedVariables false
set_option linter.unusedSimpArgs false
namespace Go.Abs
/-- By a goto to the label: K; by another one: no way out; else as Q. -/
def jumpQ (l : Nat) (K : List AV → Mem → Prop) (Q : Ex → List AV → Mem → Prop) : Ex → List AV → Mem → Prop
  | .goto l' => fun env M => l' = l ∧ K env M
  | e => Q e
theorem W_scope {P : Program} {Q : Ex → List AV → Mem → Prop} {env : List AV} {M : Mem} {c rest : Code} (l : Nat) (J : Nat → List AV → Mem → Prop) (hf : findLabel c l = some rest)
    (first : W P c (jumpQ l (fun env' M' => ∃ n, J n env' M') Q) env M)
    (pass : ∀ n env1 M1, J n env1 M1 → W P rest (jumpQ l (fun env' M' => ∃ m, m < n ∧ J m env' M') Q) env1 M1) : W P (.scope c) Q env M := by
  intro base μ w a hR h0 he b k cs
  have hg : gotoIn l (.inScope c :: k) = some (.code rest :: .inScope c :: k) := by simp [gotoIn, hf]
  have key : ∀ n env1 M1 μ1 a1 w1, J n env1 M1 → R base μ1 M1 w1 → 0 < M1.depth → EnvR μ1 M1.depth env1 a1 → ∃ e a' w', post Q base μ1 M1 w1 a1 e a' w' ∧ Arrives P (lone (b.at a1 (.code rest :: .inScope c :: k)) cs w1) b k cs e a' w' := by
    intro n
    induction n using Nat.strongRecOn with
    | _ n ih =>
      intro env1 M1 μ1 a1 w1 hJ hR1 h01 he1
      obtain ⟨e, a₁, w₁, hq, harr⟩ := pass n env1 M1 hJ base μ1 w1 a1 hR1 h01 he1 b (.inScope c :: k) cs
      cases e with
      | normal => exact ⟨.normal, a₁, w₁, hq, Steps.trans harr (.one step_inScope)⟩
      | exit id => exact ⟨.exit id, a₁, w₁, hq, fun k' hk => harr k' (by simp [exitTo, hk])⟩
      | goto l' =>
        obtain ⟨env2, M2, μ2, g1, g2, g3, rfl, m, hm, hJ2⟩ := hq
        obtain ⟨e₂, a₂, w₂, hq₂, harr₂⟩ := ih m hm env2 M2 μ2 a₁ w₁ hJ2 g3.r (by rw [g3.d]; exact h01) (by rw [g3.d]; exact g1)
        exact ⟨e₂, a₂, w₂, post_trans g3 g2 hq₂, .of_steps (harr _ hg) harr₂⟩
      | ret => exact ⟨.ret, a₁, w₁, hq, harr⟩
      | panic ch => exact ⟨.panic ch, a₁, w₁, hq, harr⟩
      | outgrown => exact ⟨.outgrown, a₁, w₁, hq, harr⟩
  obtain ⟨e, a₁, w₁, hq, harr⟩ := first base μ w a hR h0 he b (.inScope c :: k) cs
  cases e with
  | normal => exact ⟨.normal, a₁, w₁, hq, .head step_scope (Steps.trans harr (.one step_inScope))⟩
  | exit id => exact ⟨.exit id, a₁, w₁, hq, fun k' hk => .head step_scope (harr k' (by simp [exitTo, hk]))⟩
  | goto l' =>
    obtain ⟨env2, M2, μ2, g1, g2, g3, rfl, n, hJ⟩ := hq
    obtain ⟨e₂, a₂, w₂, hq₂, harr₂⟩ := key n env2 M2 μ2 a₁ w₁ hJ g3.r (by rw [g3.d]; exact h0) (by rw [g3.d]; exact g1)
    exact ⟨e₂, a₂, w₂, post_trans g3 g2 hq₂, .of_steps (.head step_scope (harr _ hg)) harr₂⟩
  | ret => exact ⟨.ret, a₁, w₁, hq, .of_steps (.one step_scope) harr⟩
  | panic ch => exact ⟨.panic ch, a₁, w₁, hq, .of_steps (.one step_scope) harr⟩
  | outgrown => exact ⟨.outgrown, a₁, w₁, hq, .of_steps (.one step_scope) harr⟩
end Go.Abs
