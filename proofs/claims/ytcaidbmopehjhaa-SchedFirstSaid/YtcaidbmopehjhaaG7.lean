/- Bodies in the calculus' own words. Printed by gen.py, a program of this claim's own. -/
import Derived.Test.YtcaidbmopehjhaaTy
set_option linter.unusedVariables false
set_option maxRecDepth 100000
namespace Go.AD
/-! ### tedder/tedderlaw21.few (function 23) -/
def an23 : An := { mu := [], cut := [], loop := [(5, [3, 9, 10, 11])] }
def L23_5 (env : Env) (I5 : Nat → List AV → AS → Prop) (m5 : Nat) (n3_l5 t9_l5 t10_l5 t11_l5 : AV) (σ : AS) (K : AV → AS → Prop) (X : PV → AS → Prop) : Prop :=
 (lock binD Go.Proofs.Try.prog .lss 3 t11_l5 t10_l5 fun t12 =>
 (condD t12
 (lock indexAddrD Go.Proofs.Try.prog 22 t9_l5 t11_l5 fun t13 =>
 (lock loadD Go.Proofs.Try.prog σ 3 t13 fun t14 =>
 (lock binD Go.Proofs.Try.prog .sub 3 (.pv (.int .i64 200)) n3_l5 fun t17 =>
 (lock binD Go.Proofs.Try.prog .gtr 3 t14 t17 fun t18 =>
 (condD t18
 (retV ((.pv (.bool false))) σ K)
 (lock (foldD max2D) t14 [(.pv (.int .i64 0))] fun t21 =>
 (lock binD Go.Proofs.Try.prog .add 3 n3_l5 t21 fun t22 =>
 (lock binD Go.Proofs.Try.prog .add 3 t11_l5 (.pv (.int .i64 1)) fun t23 =>
 (∃ m', m' < m5 ∧ I5 m' [t22, t9_l5, t10_l5, t23] σ)))))))))
 (retV ((.pv (.bool true))) σ K)))
theorem L23_5_eq (env : Env) (I5 : Nat → List AV → AS → Prop) (m5 : Nat) (n3_l5 t9_l5 t10_l5 t11_l5 : AV) (σ : AS) (K : AV → AS → Prop) (X : PV → AS → Prop) : L23_5 env I5 m5 n3_l5 t9_l5 t10_l5 t11_l5 σ K X = wpD Go.Proofs.Try.prog env an23 (subC (bodyC Go.Proofs.Try.f23) [1, 1, 1, 0, 1, 0, 0]) (contQ Go.Proofs.Try.prog env an23 (bodyC Go.Proofs.Try.f23) [1, 1, 1, 0, 1, 0, 0] [(I5, m5)] (rootQ Go.Proofs.Try.prog Go.Proofs.Try.f23 K X)) [(3, n3_l5), (9, t9_l5), (10, t10_l5), (11, t11_l5)] σ := by
  unfold L23_5
  kernel_rfl
theorem lp23_5 {α : Type} {env : Env}  {t9_l5 t10_l5 : AV} {σ : AS} {K : AV → AS → Prop} {X : PV → AS → Prop} (μ : α → AS → Nat) (I : α → AS → Prop) (en3_l5 et11_l5 : α → AV) (a0 : α) (h0 : I a0 σ)
 (h : ∀ a σ, I a σ → L23_5 env  (Inv (fun a => [en3_l5 a, t9_l5, t10_l5, et11_l5 a]) μ I) (μ a σ) (en3_l5 a) t9_l5 t10_l5 (et11_l5 a) σ K X) :
 ∃ I5 : Nat → List AV → AS → Prop, (∃ m, I5 m [en3_l5 a0, t9_l5, t10_l5, et11_l5 a0] σ) ∧ ∀ (m : Nat) (x0 x1 x2 x3 : AV), ∀ σ, I5 m [x0, x1, x2, x3] σ →
 L23_5 env  I5 m x0 x1 x2 x3 σ K X := by
  refine ⟨Inv (fun a => [en3_l5 a, t9_l5, t10_l5, et11_l5 a]) μ I, ⟨_, a0, rfl, rfl, h0⟩, ?_⟩
  rintro m x0 x1 x2 x3 σ' ⟨a, hv, rfl, hI⟩
  simp only [List.cons.injEq, and_true] at hv
  obtain ⟨rfl, rfl, rfl, rfl⟩ := hv
  exact h a σ' hI
def S23 (env : Env) (counts0_a : AV) (σ : AS) (K : AV → AS → Prop) (X : PV → AS → Prop) : Prop :=
 (lock lenD Go.Proofs.Try.prog 22 counts0_a fun t7 =>
 (lock binD Go.Proofs.Try.prog .gtr 3 t7 (.pv (.int .i64 40)) fun t8 =>
 (condD t8
 (retV ((.pv (.bool false))) σ K)
 (lock lenD Go.Proofs.Try.prog 22 counts0_a fun t10 =>
 (∃ I5 : Nat → List AV → AS → Prop, (∃ m, I5 m [(.pv (.int .i64 0)), counts0_a, t10, (.pv (.int .i64 0))] σ) ∧ ∀ (m5 : Nat) (n3_l5 t9_l5 t10_l5 t11_l5 : AV), ∀ σ1, I5 m5 [n3_l5, t9_l5, t10_l5, t11_l5] σ1 →
 (L23_5 env I5 m5 n3_l5 t9_l5 t10_l5 t11_l5 σ1 K X))))))
theorem S23_eq (env : Env) (counts0_a : AV) (σ : AS) (K : AV → AS → Prop) (X : PV → AS → Prop) : S23 env counts0_a σ K X = bodyD Go.Proofs.Try.prog env an23 Go.Proofs.Try.f23 [counts0_a] σ K X := by
  unfold S23
  simp only [L23_5_eq]
  kernel_rfl
theorem S23_ok : (match Go.Proofs.Try.f23.body with | some c => okCode an23 Go.Proofs.Try.prog Go.Proofs.Try.f23.ntmps c | none => false) = true := by kernel_rfl
end Go.AD
