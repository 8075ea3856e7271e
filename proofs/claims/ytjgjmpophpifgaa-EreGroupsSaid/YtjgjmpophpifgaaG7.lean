/- Bodies in the calculus' own words. Printed by gen.py, a program of this claim's own. -/
import Derived.Test.YtjgjmpophpifgaaTy
set_option linter.unusedVariables false
set_option maxRecDepth 100000
namespace Go.AD
/-! ### (*tedder/ere.reader).peek (function 58) -/
def an58 : An := { mu := [], cut := [], loop := [] }
def S58 (env : Env) (r0_a : AV) (σ : AS) (K : AV → AS → Prop) (X : PV → AS → Prop) : Prop :=
 (lock nilD r0_a fun t5 =>
 (lock fieldAddrD Go.Proofs.Try.prog 54 t5 0 fun t6 =>
 (lock loadD Go.Proofs.Try.prog σ 9 t6 fun t7 =>
 (lock binD Go.Proofs.Try.prog .eql 9 t7 (.pv (.str [])) fun t8 =>
 (condD t8
 (retV (.tuple [(.pv (.int .u8 0)), (.pv (.bool false))]) σ K)
 (lock nilD r0_a fun t10 =>
 (lock fieldAddrD Go.Proofs.Try.prog 54 t10 0 fun t11 =>
 (lock loadD Go.Proofs.Try.prog σ 9 t11 fun t12 =>
 (lock indexD Go.Proofs.Try.prog 9 t12 (.pv (.int .i64 0)) fun t13 =>
 (retV (.tuple [t13, (.pv (.bool true))]) σ K))))))))))
theorem S58_eq (env : Env) (r0_a : AV) (σ : AS) (K : AV → AS → Prop) (X : PV → AS → Prop) : S58 env r0_a σ K X = bodyD Go.Proofs.Try.prog env an58 Go.Proofs.Try.f58 [r0_a] σ K X := by
  unfold S58
  kernel_rfl
theorem S58_ok : (match Go.Proofs.Try.f58.body with | some c => okCode an58 Go.Proofs.Try.prog Go.Proofs.Try.f58.ntmps c | none => false) = true := by kernel_rfl
/-! ### (*tedder/ere.reader).take (function 48) -/
def an48 : An := { mu := [], cut := [], loop := [] }
def S48 (env : Env) (r0_a t1_a : AV) (σ : AS) (K : AV → AS → Prop) (X : PV → AS → Prop) : Prop :=
 (lock nilD r0_a fun t9 =>
 (lock fieldAddrD Go.Proofs.Try.prog 54 t9 0 fun t10 =>
 (lock loadD Go.Proofs.Try.prog σ 9 t10 fun t11 =>
 (env 61 [t11, t1_a] σ (fun t13 σ1 =>
 (lock extractD t13 0 fun t14 =>
 (lock extractD t13 1 fun t15 =>
 (lock nilD r0_a fun t18 =>
 (lock fieldAddrD Go.Proofs.Try.prog 54 t18 0 fun t19 =>
 (lock storeD Go.Proofs.Try.prog σ1 9 t19 t14 fun σ2 =>
 (retV (t15) σ2 K))))))) (panV X)))))
theorem S48_eq (env : Env) (r0_a t1_a : AV) (σ : AS) (K : AV → AS → Prop) (X : PV → AS → Prop) : S48 env r0_a t1_a σ K X = bodyD Go.Proofs.Try.prog env an48 Go.Proofs.Try.f48 [r0_a, t1_a] σ K X := by
  unfold S48
  kernel_rfl
theorem S48_ok : (match Go.Proofs.Try.f48.body with | some c => okCode an48 Go.Proofs.Try.prog Go.Proofs.Try.f48.ntmps c | none => false) = true := by kernel_rfl
/-! ### (*tedder/ere.reader).digits (function 73) -/
def an73 : An := { mu := [], cut := [(4, [0, 7])], loop := [(2, [0, 1, 2, 7])] }
def J73_4 (env : Env)  (r0_j4 n7_j4 : AV) (σ : AS) (K : AV → AS → Prop) (X : PV → AS → Prop) : Prop :=
 (lock nilD r0_j4 fun t43 =>
 (lock fieldAddrD Go.Proofs.Try.prog 54 t43 0 fun t44 =>
 (lock loadD Go.Proofs.Try.prog σ 9 t44 fun t45 =>
 (lock sliceD Go.Proofs.Try.prog 9 t45 none (some n7_j4) fun t47 =>
 (lock nilD r0_j4 fun t50 =>
 (lock fieldAddrD Go.Proofs.Try.prog 54 t50 0 fun t51 =>
 (lock loadD Go.Proofs.Try.prog σ 9 t51 fun t52 =>
 (lock sliceD Go.Proofs.Try.prog 9 t52 (some n7_j4) none fun t54 =>
 (lock nilD r0_j4 fun t55 =>
 (lock fieldAddrD Go.Proofs.Try.prog 54 t55 0 fun t56 =>
 (lock storeD Go.Proofs.Try.prog σ 9 t56 t54 fun σ2 =>
 (retV (t47) σ2 K))))))))))))
theorem J73_4_eq (env : Env)  (r0_j4 n7_j4 : AV) (σ : AS) (K : AV → AS → Prop) (X : PV → AS → Prop) : J73_4 env  r0_j4 n7_j4 σ K X = wpD Go.Proofs.Try.prog env an73 (subC (bodyC Go.Proofs.Try.f73) [1, 1, 1]) (contQ Go.Proofs.Try.prog env an73 (bodyC Go.Proofs.Try.f73) [1, 1, 1] [] (rootQ Go.Proofs.Try.prog Go.Proofs.Try.f73 K X)) [(0, r0_j4), (7, n7_j4)] σ := by
  unfold J73_4
  kernel_rfl
def L73_2 (env : Env) (I2 : Nat → List AV → AS → Prop) (m2 : Nat) (r0_l2 greatest1_l2 most2_l2 n7_l2 : AV) (σ : AS) (K : AV → AS → Prop) (X : PV → AS → Prop) : Prop :=
 (lock nilD r0_l2 fun t11 =>
 (lock fieldAddrD Go.Proofs.Try.prog 54 t11 0 fun t12 =>
 (lock loadD Go.Proofs.Try.prog σ 9 t12 fun t13 =>
 (lock lenD Go.Proofs.Try.prog 9 t13 fun t14 =>
 (lock binD Go.Proofs.Try.prog .lss 3 n7_l2 t14 fun t15 =>
 (guardD t15 true
 (lock binD Go.Proofs.Try.prog .lss 3 n7_l2 most2_l2 fun t19 =>
 (guardD t19 true
 (lock nilD r0_l2 fun t23 =>
 (lock fieldAddrD Go.Proofs.Try.prog 54 t23 0 fun t24 =>
 (lock loadD Go.Proofs.Try.prog σ 9 t24 fun t25 =>
 (lock indexD Go.Proofs.Try.prog 9 t25 n7_l2 fun t27 =>
 (lock binD Go.Proofs.Try.prog .leq 5 (.pv (.int .u8 48)) t27 fun t28 =>
 (guardD t28 true
 (lock nilD r0_l2 fun t32 =>
 (lock fieldAddrD Go.Proofs.Try.prog 54 t32 0 fun t33 =>
 (lock loadD Go.Proofs.Try.prog σ 9 t33 fun t34 =>
 (lock indexD Go.Proofs.Try.prog 9 t34 n7_l2 fun t36 =>
 (lock binD Go.Proofs.Try.prog .leq 5 t36 greatest1_l2 fun t38 =>
 (condD t38
 (lock binD Go.Proofs.Try.prog .add 3 n7_l2 (.pv (.int .i64 1)) fun t41 =>
 (∃ m', m' < m2 ∧ I2 m' [r0_l2, greatest1_l2, most2_l2, t41] σ))
 (J73_4 env  (r0_l2) (n7_l2) σ K X)))))))
 (J73_4 env  (r0_l2) (n7_l2) σ K X)))))))
 (J73_4 env  (r0_l2) (n7_l2) σ K X)))
 (J73_4 env  (r0_l2) (n7_l2) σ K X)))))))
theorem L73_2_eq (env : Env) (I2 : Nat → List AV → AS → Prop) (m2 : Nat) (r0_l2 greatest1_l2 most2_l2 n7_l2 : AV) (σ : AS) (K : AV → AS → Prop) (X : PV → AS → Prop) : L73_2 env I2 m2 r0_l2 greatest1_l2 most2_l2 n7_l2 σ K X = wpD Go.Proofs.Try.prog env an73 (subC (bodyC Go.Proofs.Try.f73) [1, 1, 0, 0, 0]) (contQ Go.Proofs.Try.prog env an73 (bodyC Go.Proofs.Try.f73) [1, 1, 0, 0, 0] [(I2, m2)] (rootQ Go.Proofs.Try.prog Go.Proofs.Try.f73 K X)) [(0, r0_l2), (1, greatest1_l2), (2, most2_l2), (7, n7_l2)] σ := by
  unfold L73_2
  kernel_rfl
theorem lp73_2 {α : Type} {env : Env}  {r0_l2 greatest1_l2 most2_l2 : AV} {σ : AS} {K : AV → AS → Prop} {X : PV → AS → Prop} (μ : α → AS → Nat) (I : α → AS → Prop) (en7_l2 : α → AV) (a0 : α) (h0 : I a0 σ)
 (h : ∀ a σ, I a σ → L73_2 env  (Inv (fun a => [r0_l2, greatest1_l2, most2_l2, en7_l2 a]) μ I) (μ a σ) r0_l2 greatest1_l2 most2_l2 (en7_l2 a) σ K X) :
 ∃ I2 : Nat → List AV → AS → Prop, (∃ m, I2 m [r0_l2, greatest1_l2, most2_l2, en7_l2 a0] σ) ∧ ∀ (m : Nat) (x0 x1 x2 x3 : AV), ∀ σ, I2 m [x0, x1, x2, x3] σ →
 L73_2 env  I2 m x0 x1 x2 x3 σ K X := by
  refine ⟨Inv (fun a => [r0_l2, greatest1_l2, most2_l2, en7_l2 a]) μ I, ⟨_, a0, rfl, rfl, h0⟩, ?_⟩
  rintro m x0 x1 x2 x3 σ' ⟨a, hv, rfl, hI⟩
  simp only [List.cons.injEq, and_true] at hv
  obtain ⟨rfl, rfl, rfl, rfl⟩ := hv
  exact h a σ' hI
def S73 (env : Env) (r0_a greatest1_a most2_a : AV) (σ : AS) (K : AV → AS → Prop) (X : PV → AS → Prop) : Prop :=
 (∃ I2 : Nat → List AV → AS → Prop, (∃ m, I2 m [r0_a, greatest1_a, most2_a, (.pv (.int .i64 0))] σ) ∧ ∀ (m2 : Nat) (r0_l2 greatest1_l2 most2_l2 n7_l2 : AV), ∀ σ1, I2 m2 [r0_l2, greatest1_l2, most2_l2, n7_l2] σ1 →
 (L73_2 env I2 m2 r0_l2 greatest1_l2 most2_l2 n7_l2 σ1 K X))
theorem S73_eq (env : Env) (r0_a greatest1_a most2_a : AV) (σ : AS) (K : AV → AS → Prop) (X : PV → AS → Prop) : S73 env r0_a greatest1_a most2_a σ K X = bodyD Go.Proofs.Try.prog env an73 Go.Proofs.Try.f73 [r0_a, greatest1_a, most2_a] σ K X := by
  unfold S73
  simp only [L73_2_eq]
  kernel_rfl
theorem S73_ok : (match Go.Proofs.Try.f73.body with | some c => okCode an73 Go.Proofs.Try.prog Go.Proofs.Try.f73.ntmps c | none => false) = true := by kernel_rfl
/-! ### (*tedder/ere.reader).escaped (function 69) -/
def an69 : An := { mu := [], cut := [(3, [0])], loop := [(7, [4, 20, 21, 22])] }
def L69_7 (env : Env) (I7 : Nat → List AV → AS → Prop) (m7 : Nat) (n4_l7 t20_l7 t21_l7 t22_l7 : AV) (σ : AS) (K : AV → AS → Prop) (X : PV → AS → Prop) : Prop :=
 (lock binD Go.Proofs.Try.prog .lss 3 t22_l7 t21_l7 fun t23 =>
 (condD t23
 (lock indexAddrD Go.Proofs.Try.prog 50 t20_l7 t22_l7 fun t24 =>
 (lock loadD Go.Proofs.Try.prog σ 5 t24 fun t25 =>
 (lock binD Go.Proofs.Try.prog .mul 3 n4_l7 (.pv (.int .i64 8)) fun t27 =>
 (lock binD Go.Proofs.Try.prog .sub 5 t25 (.pv (.int .u8 48)) fun t29 =>
 (lock convD Go.Proofs.Try.prog σ 5 3 t29 fun t30 =>
 (lock binD Go.Proofs.Try.prog .add 3 t27 t30 fun t31 =>
 (lock binD Go.Proofs.Try.prog .add 3 t22_l7 (.pv (.int .i64 1)) fun t32 =>
 (∃ m', m' < m7 ∧ I7 m' [t31, t20_l7, t21_l7, t32] σ))))))))
 (lock convD Go.Proofs.Try.prog σ 3 5 n4_l7 fun t34 =>
 (retV (t34) σ K))))
theorem L69_7_eq (env : Env) (I7 : Nat → List AV → AS → Prop) (m7 : Nat) (n4_l7 t20_l7 t21_l7 t22_l7 : AV) (σ : AS) (K : AV → AS → Prop) (X : PV → AS → Prop) : L69_7 env I7 m7 n4_l7 t20_l7 t21_l7 t22_l7 σ K X = wpD Go.Proofs.Try.prog env an69 (subC (bodyC Go.Proofs.Try.f69) [1, 1, 0, 1, 1, 0, 1, 0, 1, 0, 0]) (contQ Go.Proofs.Try.prog env an69 (bodyC Go.Proofs.Try.f69) [1, 1, 0, 1, 1, 0, 1, 0, 1, 0, 0] [(I7, m7)] (rootQ Go.Proofs.Try.prog Go.Proofs.Try.f69 K X)) [(4, n4_l7), (20, t20_l7), (21, t21_l7), (22, t22_l7)] σ := by
  unfold L69_7
  kernel_rfl
theorem lp69_7 {α : Type} {env : Env}  {t20_l7 t21_l7 : AV} {σ : AS} {K : AV → AS → Prop} {X : PV → AS → Prop} (μ : α → AS → Nat) (I : α → AS → Prop) (en4_l7 et22_l7 : α → AV) (a0 : α) (h0 : I a0 σ)
 (h : ∀ a σ, I a σ → L69_7 env  (Inv (fun a => [en4_l7 a, t20_l7, t21_l7, et22_l7 a]) μ I) (μ a σ) (en4_l7 a) t20_l7 t21_l7 (et22_l7 a) σ K X) :
 ∃ I7 : Nat → List AV → AS → Prop, (∃ m, I7 m [en4_l7 a0, t20_l7, t21_l7, et22_l7 a0] σ) ∧ ∀ (m : Nat) (x0 x1 x2 x3 : AV), ∀ σ, I7 m [x0, x1, x2, x3] σ →
 L69_7 env  I7 m x0 x1 x2 x3 σ K X := by
  refine ⟨Inv (fun a => [en4_l7 a, t20_l7, t21_l7, et22_l7 a]) μ I, ⟨_, a0, rfl, rfl, h0⟩, ?_⟩
  rintro m x0 x1 x2 x3 σ' ⟨a, hv, rfl, hI⟩
  simp only [List.cons.injEq, and_true] at hv
  obtain ⟨rfl, rfl, rfl, rfl⟩ := hv
  exact h a σ' hI
def J69_3 (env : Env)  (r0_j3 : AV) (σ : AS) (K : AV → AS → Prop) (X : PV → AS → Prop) : Prop :=
 (env 73 [r0_j3, (.pv (.int .u8 55)), (.pv (.int .i64 3))] σ (fun t16 σ1 =>
 (lock binD Go.Proofs.Try.prog .neq 9 t16 (.pv (.str [])) fun t18 =>
 (condD t18
 (lock bytesD Go.Proofs.Try.prog false σ1 9 50 t16 fun t20 σ2 =>
 (lock lenD Go.Proofs.Try.prog 50 t20 fun t21 =>
 (∃ I7 : Nat → List AV → AS → Prop, (∃ m, I7 m [(.pv (.int .i64 0)), t20, t21, (.pv (.int .i64 0))] σ2) ∧ ∀ (m7 : Nat) (n4_l7 t20_l7 t21_l7 t22_l7 : AV), ∀ σ3, I7 m7 [n4_l7, t20_l7, t21_l7, t22_l7] σ3 →
 (L69_7 env I7 m7 n4_l7 t20_l7 t21_l7 t22_l7 σ3 K X))))
 (lock nilD r0_j3 fun t36 =>
 (lock fieldAddrD Go.Proofs.Try.prog 54 t36 0 fun t37 =>
 (lock loadD Go.Proofs.Try.prog σ1 9 t37 fun t38 =>
 (lock indexD Go.Proofs.Try.prog 9 t38 (.pv (.int .i64 0)) fun t39 =>
 (lock nilD r0_j3 fun t42 =>
 (lock fieldAddrD Go.Proofs.Try.prog 54 t42 0 fun t43 =>
 (lock loadD Go.Proofs.Try.prog σ1 9 t43 fun t44 =>
 (lock sliceD Go.Proofs.Try.prog 9 t44 (some (.pv (.int .i64 1))) none fun t45 =>
 (lock nilD r0_j3 fun t46 =>
 (lock fieldAddrD Go.Proofs.Try.prog 54 t46 0 fun t47 =>
 (lock storeD Go.Proofs.Try.prog σ1 9 t47 t45 fun σ4 =>
 (env 46 [(.pv (.str [97, 98, 116, 110, 118, 102, 114])), t39] σ4 (fun t49 σ5 =>
 (lock binD Go.Proofs.Try.prog .geq 3 t49 (.pv (.int .i64 0)) fun t51 =>
 (condD t51
 (lock binD Go.Proofs.Try.prog .add 3 (.pv (.int .i64 7)) t49 fun t53 =>
 (lock convD Go.Proofs.Try.prog σ5 3 5 t53 fun t54 =>
 (retV (t54) σ5 K)))
 (retV (t39) σ5 K)))) (panV X)))))))))))))))) (panV X))
theorem J69_3_eq (env : Env)  (r0_j3 : AV) (σ : AS) (K : AV → AS → Prop) (X : PV → AS → Prop) : J69_3 env  r0_j3 σ K X = wpD Go.Proofs.Try.prog env an69 (subC (bodyC Go.Proofs.Try.f69) [1, 1]) (contQ Go.Proofs.Try.prog env an69 (bodyC Go.Proofs.Try.f69) [1, 1] [] (rootQ Go.Proofs.Try.prog Go.Proofs.Try.f69 K X)) [(0, r0_j3)] σ := by
  unfold J69_3
  simp only [L69_7_eq]
  kernel_rfl
def S69 (env : Env) (r0_a : AV) (σ : AS) (K : AV → AS → Prop) (X : PV → AS → Prop) : Prop :=
 (lock nilD r0_a fun t10 =>
 (lock fieldAddrD Go.Proofs.Try.prog 54 t10 0 fun t11 =>
 (lock loadD Go.Proofs.Try.prog σ 9 t11 fun t12 =>
 (lock binD Go.Proofs.Try.prog .eql 9 t12 (.pv (.str [])) fun t13 =>
 (condD t13
 (lock ifaceD Go.Proofs.Try.prog 51 (.pv (.int .i64 4)) fun t14 =>
 (lock panicD σ t14 (panV X)))
 (J69_3 env  (r0_a) σ K X))))))
theorem S69_eq (env : Env) (r0_a : AV) (σ : AS) (K : AV → AS → Prop) (X : PV → AS → Prop) : S69 env r0_a σ K X = bodyD Go.Proofs.Try.prog env an69 Go.Proofs.Try.f69 [r0_a] σ K X := by
  unfold S69
  kernel_rfl
theorem S69_ok : (match Go.Proofs.Try.f69.body with | some c => okCode an69 Go.Proofs.Try.prog Go.Proofs.Try.f69.ntmps c | none => false) = true := by kernel_rfl
/-! ### (*tedder/ere.bytes).put (function 76) -/
def an76 : An := { mu := [], cut := [], loop := [(1, [0, 2, 6])] }
def L76_1 (env : Env) (I1 : Nat → List AV → AS → Prop) (m1 : Nat) (b0_l1 to2_l1 c6_l1 : AV) (σ : AS) (K : AV → AS → Prop) (X : PV → AS → Prop) : Prop :=
 (lock convD Go.Proofs.Try.prog σ 5 3 to2_l1 fun t11 =>
 (lock binD Go.Proofs.Try.prog .leq 3 c6_l1 t11 fun t12 =>
 (condD t12
 (lock nilD b0_l1 fun t17 =>
 (lock indexAddrD Go.Proofs.Try.prog 83 t17 c6_l1 fun t18 =>
 (lock storeD Go.Proofs.Try.prog σ 4 t18 (.pv (.bool true)) fun σ2 =>
 (lock binD Go.Proofs.Try.prog .add 3 c6_l1 (.pv (.int .i64 1)) fun t14 =>
 (∃ m', m' < m1 ∧ I1 m' [b0_l1, to2_l1, t14] σ2)))))
 (retV (.tuple []) σ K))))
theorem L76_1_eq (env : Env) (I1 : Nat → List AV → AS → Prop) (m1 : Nat) (b0_l1 to2_l1 c6_l1 : AV) (σ : AS) (K : AV → AS → Prop) (X : PV → AS → Prop) : L76_1 env I1 m1 b0_l1 to2_l1 c6_l1 σ K X = wpD Go.Proofs.Try.prog env an76 (subC (bodyC Go.Proofs.Try.f76) [1, 0, 0]) (contQ Go.Proofs.Try.prog env an76 (bodyC Go.Proofs.Try.f76) [1, 0, 0] [(I1, m1)] (rootQ Go.Proofs.Try.prog Go.Proofs.Try.f76 K X)) [(0, b0_l1), (2, to2_l1), (6, c6_l1)] σ := by
  unfold L76_1
  kernel_rfl
theorem lp76_1 {α : Type} {env : Env}  {b0_l1 to2_l1 : AV} {σ : AS} {K : AV → AS → Prop} {X : PV → AS → Prop} (μ : α → AS → Nat) (I : α → AS → Prop) (ec6_l1 : α → AV) (a0 : α) (h0 : I a0 σ)
 (h : ∀ a σ, I a σ → L76_1 env  (Inv (fun a => [b0_l1, to2_l1, ec6_l1 a]) μ I) (μ a σ) b0_l1 to2_l1 (ec6_l1 a) σ K X) :
 ∃ I1 : Nat → List AV → AS → Prop, (∃ m, I1 m [b0_l1, to2_l1, ec6_l1 a0] σ) ∧ ∀ (m : Nat) (x0 x1 x2 : AV), ∀ σ, I1 m [x0, x1, x2] σ →
 L76_1 env  I1 m x0 x1 x2 σ K X := by
  refine ⟨Inv (fun a => [b0_l1, to2_l1, ec6_l1 a]) μ I, ⟨_, a0, rfl, rfl, h0⟩, ?_⟩
  rintro m x0 x1 x2 σ' ⟨a, hv, rfl, hI⟩
  simp only [List.cons.injEq, and_true] at hv
  obtain ⟨rfl, rfl, rfl⟩ := hv
  exact h a σ' hI
def S76 (env : Env) (b0_a from1_a to2_a : AV) (σ : AS) (K : AV → AS → Prop) (X : PV → AS → Prop) : Prop :=
 (lock convD Go.Proofs.Try.prog σ 5 3 from1_a fun t8 =>
 (∃ I1 : Nat → List AV → AS → Prop, (∃ m, I1 m [b0_a, to2_a, t8] σ) ∧ ∀ (m1 : Nat) (b0_l1 to2_l1 c6_l1 : AV), ∀ σ1, I1 m1 [b0_l1, to2_l1, c6_l1] σ1 →
 (L76_1 env I1 m1 b0_l1 to2_l1 c6_l1 σ1 K X)))
theorem S76_eq (env : Env) (b0_a from1_a to2_a : AV) (σ : AS) (K : AV → AS → Prop) (X : PV → AS → Prop) : S76 env b0_a from1_a to2_a σ K X = bodyD Go.Proofs.Try.prog env an76 Go.Proofs.Try.f76 [b0_a, from1_a, to2_a] σ K X := by
  unfold S76
  simp only [L76_1_eq]
  kernel_rfl
theorem S76_ok : (match Go.Proofs.Try.f76.body with | some c => okCode an76 Go.Proofs.Try.prog Go.Proofs.Try.f76.ntmps c | none => false) = true := by kernel_rfl
/-! ### (*tedder/ere.bytes).text (function 68) -/
def an68 : An := { mu := [], cut := [], loop := [(3, [1, 5, 8, 9])] }
def L68_3 (env : Env) (I3 : Nat → List AV → AS → Prop) (m3 : Nat) (in1_l3 l5_l3 t8_l3 t9_l3 : AV) (σ : AS) (K : AV → AS → Prop) (X : PV → AS → Prop) : Prop :=
 (lock binD Go.Proofs.Try.prog .lss 3 t9_l3 (.pv (.int .i64 256)) fun t10 =>
 (condD t10
 (lock nilD t8_l3 fun t12 =>
 (lock indexAddrD Go.Proofs.Try.prog 83 t12 t9_l3 fun t13 =>
 (lock loadD Go.Proofs.Try.prog σ 4 t13 fun t14 =>
 (lock binD Go.Proofs.Try.prog .eql 4 t14 in1_l3 fun t17 =>
 (condD t17
 (lock convD Go.Proofs.Try.prog σ 3 5 t9_l3 fun t20 =>
 (lock buildSliceD Go.Proofs.Try.prog false σ 50 1 1 [(0, t20)] fun t21 σ2 =>
 (lock appendD Go.Proofs.Try.prog false σ2 50 l5_l3 t21 fun t22 σ3 =>
 (lock binD Go.Proofs.Try.prog .add 3 t9_l3 (.pv (.int .i64 1)) fun t23 =>
 (∃ m', m' < m3 ∧ I3 m' [in1_l3, t22, t8_l3, t23] σ3)))))
 (lock binD Go.Proofs.Try.prog .add 3 t9_l3 (.pv (.int .i64 1)) fun t23 =>
 (∃ m', m' < m3 ∧ I3 m' [in1_l3, l5_l3, t8_l3, t23] σ)))))))
 (lock convD Go.Proofs.Try.prog σ 50 9 l5_l3 fun t25 =>
 (retV (t25) σ K))))
theorem L68_3_eq (env : Env) (I3 : Nat → List AV → AS → Prop) (m3 : Nat) (in1_l3 l5_l3 t8_l3 t9_l3 : AV) (σ : AS) (K : AV → AS → Prop) (X : PV → AS → Prop) : L68_3 env I3 m3 in1_l3 l5_l3 t8_l3 t9_l3 σ K X = wpD Go.Proofs.Try.prog env an68 (subC (bodyC Go.Proofs.Try.f68) [1, 1, 0, 1, 0, 0]) (contQ Go.Proofs.Try.prog env an68 (bodyC Go.Proofs.Try.f68) [1, 1, 0, 1, 0, 0] [(I3, m3)] (rootQ Go.Proofs.Try.prog Go.Proofs.Try.f68 K X)) [(1, in1_l3), (5, l5_l3), (8, t8_l3), (9, t9_l3)] σ := by
  unfold L68_3
  kernel_rfl
theorem lp68_3 {α : Type} {env : Env}  {in1_l3 t8_l3 : AV} {σ : AS} {K : AV → AS → Prop} {X : PV → AS → Prop} (μ : α → AS → Nat) (I : α → AS → Prop) (el5_l3 et9_l3 : α → AV) (a0 : α) (h0 : I a0 σ)
 (h : ∀ a σ, I a σ → L68_3 env  (Inv (fun a => [in1_l3, el5_l3 a, t8_l3, et9_l3 a]) μ I) (μ a σ) in1_l3 (el5_l3 a) t8_l3 (et9_l3 a) σ K X) :
 ∃ I3 : Nat → List AV → AS → Prop, (∃ m, I3 m [in1_l3, el5_l3 a0, t8_l3, et9_l3 a0] σ) ∧ ∀ (m : Nat) (x0 x1 x2 x3 : AV), ∀ σ, I3 m [x0, x1, x2, x3] σ →
 L68_3 env  I3 m x0 x1 x2 x3 σ K X := by
  refine ⟨Inv (fun a => [in1_l3, el5_l3 a, t8_l3, et9_l3 a]) μ I, ⟨_, a0, rfl, rfl, h0⟩, ?_⟩
  rintro m x0 x1 x2 x3 σ' ⟨a, hv, rfl, hI⟩
  simp only [List.cons.injEq, and_true] at hv
  obtain ⟨rfl, rfl, rfl, rfl⟩ := hv
  exact h a σ' hI
def S68 (env : Env) (b0_a in1_a : AV) (σ : AS) (K : AV → AS → Prop) (X : PV → AS → Prop) : Prop :=
 (∃ I3 : Nat → List AV → AS → Prop, (∃ m, I3 m [in1_a, (.nilS), b0_a, (.pv (.int .i64 0))] σ) ∧ ∀ (m3 : Nat) (in1_l3 l5_l3 t8_l3 t9_l3 : AV), ∀ σ1, I3 m3 [in1_l3, l5_l3, t8_l3, t9_l3] σ1 →
 (L68_3 env I3 m3 in1_l3 l5_l3 t8_l3 t9_l3 σ1 K X))
theorem S68_eq (env : Env) (b0_a in1_a : AV) (σ : AS) (K : AV → AS → Prop) (X : PV → AS → Prop) : S68 env b0_a in1_a σ K X = bodyD Go.Proofs.Try.prog env an68 Go.Proofs.Try.f68 [b0_a, in1_a] σ K X := by
  unfold S68
  simp only [L68_3_eq]
  kernel_rfl
theorem S68_ok : (match Go.Proofs.Try.f68.body with | some c => okCode an68 Go.Proofs.Try.prog Go.Proofs.Try.f68.ntmps c | none => false) = true := by kernel_rfl
/-! ### (*tedder/ere.bytes).class (function 81) -/
def an81 : An := { mu := [], cut := [(27, [0, 5])], loop := [(28, [0, 5, 6])] }
def L81_28 (env : Env) (I28 : Nat → List AV → AS → Prop) (m28 : Nat) (b0_l28 ends5_l28 i6_l28 : AV) (σ : AS) (K : AV → AS → Prop) (X : PV → AS → Prop) : Prop :=
 (lock lenD Go.Proofs.Try.prog 9 ends5_l28 fun t34 =>
 (lock binD Go.Proofs.Try.prog .lss 3 i6_l28 t34 fun t35 =>
 (condD t35
 (lock indexD Go.Proofs.Try.prog 9 ends5_l28 i6_l28 fun t41 =>
 (lock binD Go.Proofs.Try.prog .add 3 i6_l28 (.pv (.int .i64 1)) fun t44 =>
 (lock indexD Go.Proofs.Try.prog 9 ends5_l28 t44 fun t45 =>
 (env 76 [b0_l28, t41, t45] σ (fun t46 σ2 =>
 (lock binD Go.Proofs.Try.prog .add 3 i6_l28 (.pv (.int .i64 2)) fun t37 =>
 (∃ m', m' < m28 ∧ I28 m' [b0_l28, ends5_l28, t37] σ2))) (panV X)))))
 (lock binD Go.Proofs.Try.prog .neq 9 ends5_l28 (.pv (.str [])) fun t48 =>
 (retV (t48) σ K)))))
theorem L81_28_eq (env : Env) (I28 : Nat → List AV → AS → Prop) (m28 : Nat) (b0_l28 ends5_l28 i6_l28 : AV) (σ : AS) (K : AV → AS → Prop) (X : PV → AS → Prop) : L81_28 env I28 m28 b0_l28 ends5_l28 i6_l28 σ K X = wpD Go.Proofs.Try.prog env an81 (subC (bodyC Go.Proofs.Try.f81) [1, 1, 1, 0, 1, 0, 0]) (contQ Go.Proofs.Try.prog env an81 (bodyC Go.Proofs.Try.f81) [1, 1, 1, 0, 1, 0, 0] [(I28, m28)] (rootQ Go.Proofs.Try.prog Go.Proofs.Try.f81 K X)) [(0, b0_l28), (5, ends5_l28), (6, i6_l28)] σ := by
  unfold L81_28
  kernel_rfl
theorem lp81_28 {α : Type} {env : Env}  {b0_l28 ends5_l28 : AV} {σ : AS} {K : AV → AS → Prop} {X : PV → AS → Prop} (μ : α → AS → Nat) (I : α → AS → Prop) (ei6_l28 : α → AV) (a0 : α) (h0 : I a0 σ)
 (h : ∀ a σ, I a σ → L81_28 env  (Inv (fun a => [b0_l28, ends5_l28, ei6_l28 a]) μ I) (μ a σ) b0_l28 ends5_l28 (ei6_l28 a) σ K X) :
 ∃ I28 : Nat → List AV → AS → Prop, (∃ m, I28 m [b0_l28, ends5_l28, ei6_l28 a0] σ) ∧ ∀ (m : Nat) (x0 x1 x2 : AV), ∀ σ, I28 m [x0, x1, x2] σ →
 L81_28 env  I28 m x0 x1 x2 σ K X := by
  refine ⟨Inv (fun a => [b0_l28, ends5_l28, ei6_l28 a]) μ I, ⟨_, a0, rfl, rfl, h0⟩, ?_⟩
  rintro m x0 x1 x2 σ' ⟨a, hv, rfl, hI⟩
  simp only [List.cons.injEq, and_true] at hv
  obtain ⟨rfl, rfl, rfl⟩ := hv
  exact h a σ' hI
def J81_27 (env : Env)  (b0_j27 ends5_j27 : AV) (σ : AS) (K : AV → AS → Prop) (X : PV → AS → Prop) : Prop :=
 (∃ I28 : Nat → List AV → AS → Prop, (∃ m, I28 m [b0_j27, ends5_j27, (.pv (.int .i64 0))] σ) ∧ ∀ (m28 : Nat) (b0_l28 ends5_l28 i6_l28 : AV), ∀ σ1, I28 m28 [b0_l28, ends5_l28, i6_l28] σ1 →
 (L81_28 env I28 m28 b0_l28 ends5_l28 i6_l28 σ1 K X))
theorem J81_27_eq (env : Env)  (b0_j27 ends5_j27 : AV) (σ : AS) (K : AV → AS → Prop) (X : PV → AS → Prop) : J81_27 env  b0_j27 ends5_j27 σ K X = wpD Go.Proofs.Try.prog env an81 (subC (bodyC Go.Proofs.Try.f81) [1, 1, 1]) (contQ Go.Proofs.Try.prog env an81 (bodyC Go.Proofs.Try.f81) [1, 1, 1] [] (rootQ Go.Proofs.Try.prog Go.Proofs.Try.f81 K X)) [(0, b0_j27), (5, ends5_j27)] σ := by
  unfold J81_27
  simp only [L81_28_eq]
  kernel_rfl
def S81 (env : Env) (b0_a name1_a : AV) (σ : AS) (K : AV → AS → Prop) (X : PV → AS → Prop) : Prop :=
 (lock binD Go.Proofs.Try.prog .eql 9 name1_a (.pv (.str [97, 108, 112, 104, 97])) fun t9 =>
 (condD t9
 (J81_27 env  (b0_a) (.pv (.str [65, 90, 97, 122])) σ K X)
 (lock binD Go.Proofs.Try.prog .eql 9 name1_a (.pv (.str [100, 105, 103, 105, 116])) fun t11 =>
 (condD t11
 (J81_27 env  (b0_a) (.pv (.str [48, 57])) σ K X)
 (lock binD Go.Proofs.Try.prog .eql 9 name1_a (.pv (.str [97, 108, 110, 117, 109])) fun t13 =>
 (condD t13
 (J81_27 env  (b0_a) (.pv (.str [48, 57, 65, 90, 97, 122])) σ K X)
 (lock binD Go.Proofs.Try.prog .eql 9 name1_a (.pv (.str [117, 112, 112, 101, 114])) fun t15 =>
 (condD t15
 (J81_27 env  (b0_a) (.pv (.str [65, 90])) σ K X)
 (lock binD Go.Proofs.Try.prog .eql 9 name1_a (.pv (.str [108, 111, 119, 101, 114])) fun t17 =>
 (condD t17
 (J81_27 env  (b0_a) (.pv (.str [97, 122])) σ K X)
 (lock binD Go.Proofs.Try.prog .eql 9 name1_a (.pv (.str [115, 112, 97, 99, 101])) fun t19 =>
 (condD t19
 (J81_27 env  (b0_a) (.pv (.str [9, 13, 32, 32])) σ K X)
 (lock binD Go.Proofs.Try.prog .eql 9 name1_a (.pv (.str [98, 108, 97, 110, 107])) fun t21 =>
 (condD t21
 (J81_27 env  (b0_a) (.pv (.str [9, 9, 32, 32])) σ K X)
 (lock binD Go.Proofs.Try.prog .eql 9 name1_a (.pv (.str [112, 117, 110, 99, 116])) fun t23 =>
 (condD t23
 (J81_27 env  (b0_a) (.pv (.str [33, 47, 58, 64, 91, 96, 123, 126])) σ K X)
 (lock binD Go.Proofs.Try.prog .eql 9 name1_a (.pv (.str [112, 114, 105, 110, 116])) fun t25 =>
 (condD t25
 (J81_27 env  (b0_a) (.pv (.str [32, 126])) σ K X)
 (lock binD Go.Proofs.Try.prog .eql 9 name1_a (.pv (.str [103, 114, 97, 112, 104])) fun t27 =>
 (condD t27
 (J81_27 env  (b0_a) (.pv (.str [33, 126])) σ K X)
 (lock binD Go.Proofs.Try.prog .eql 9 name1_a (.pv (.str [99, 110, 116, 114, 108])) fun t29 =>
 (condD t29
 (J81_27 env  (b0_a) (.pv (.str [0, 31, 127, 127])) σ K X)
 (lock binD Go.Proofs.Try.prog .eql 9 name1_a (.pv (.str [120, 100, 105, 103, 105, 116])) fun t31 =>
 (condD t31
 (J81_27 env  (b0_a) (.pv (.str [48, 57, 65, 70, 97, 102])) σ K X)
 (J81_27 env  (b0_a) (.pv (.str [])) σ K X)))))))))))))))))))))))))
theorem S81_eq (env : Env) (b0_a name1_a : AV) (σ : AS) (K : AV → AS → Prop) (X : PV → AS → Prop) : S81 env b0_a name1_a σ K X = bodyD Go.Proofs.Try.prog env an81 Go.Proofs.Try.f81 [b0_a, name1_a] σ K X := by
  unfold S81
  kernel_rfl
theorem S81_ok : (match Go.Proofs.Try.f81.body with | some c => okCode an81 Go.Proofs.Try.prog Go.Proofs.Try.f81.ntmps c | none => false) = true := by kernel_rfl
/-! ### (*tedder/ere.reader).item (function 75) -/
def an75 : An := { mu := [], cut := [(5, [0, 7])], loop := [] }
def J75_5 (env : Env)  (r0_j5 rest7_j5 : AV) (σ : AS) (K : AV → AS → Prop) (X : PV → AS → Prop) : Prop :=
 (lock nilD r0_j5 fun t32 =>
 (lock fieldAddrD Go.Proofs.Try.prog 54 t32 0 fun t33 =>
 (lock storeD Go.Proofs.Try.prog σ 9 t33 rest7_j5 fun σ4 =>
 (retV (.tuple [(.pv (.int .u8 0)), (.pv (.bool false))]) σ4 K))))
theorem J75_5_eq (env : Env)  (r0_j5 rest7_j5 : AV) (σ : AS) (K : AV → AS → Prop) (X : PV → AS → Prop) : J75_5 env  r0_j5 rest7_j5 σ K X = wpD Go.Proofs.Try.prog env an75 (subC (bodyC Go.Proofs.Try.f75) [1, 0, 1, 0, 1, 1]) (contQ Go.Proofs.Try.prog env an75 (bodyC Go.Proofs.Try.f75) [1, 0, 1, 0, 1, 1] [] (rootQ Go.Proofs.Try.prog Go.Proofs.Try.f75 K X)) [(0, r0_j5), (7, rest7_j5)] σ := by
  unfold J75_5
  kernel_rfl
def S75 (env : Env) (r0_a b1_a : AV) (σ : AS) (K : AV → AS → Prop) (X : PV → AS → Prop) : Prop :=
 (env 48 [r0_a, (.pv (.str [91, 58]))] σ (fun t11 σ1 =>
 (condD t11
 (lock nilD r0_a fun t14 =>
 (lock fieldAddrD Go.Proofs.Try.prog 54 t14 0 fun t15 =>
 (lock loadD Go.Proofs.Try.prog σ1 9 t15 fun t16 =>
 (env 80 [t16, (.pv (.str [58, 93]))] σ1 (fun t17 σ2 =>
 (lock extractD t17 0 fun t18 =>
 (lock extractD t17 1 fun t19 =>
 (lock extractD t17 2 fun t20 =>
 (unD .not t20 fun t22 =>
 (guardD t22 false
 (env 81 [b1_a, t18] σ2 (fun t26 σ3 =>
 (unD .not t26 fun t27 =>
 (condD t27
 (lock ifaceD Go.Proofs.Try.prog 51 (.pv (.int .i64 2)) fun t29 =>
 (lock panicD σ3 t29 (panV X)))
 (J75_5 env  (r0_a) (t19) σ3 K X)))) (panV X))
 (lock ifaceD Go.Proofs.Try.prog 51 (.pv (.int .i64 2)) fun t29 =>
 (lock panicD σ2 t29 (panV X))))))))) (panV X)))))
 (env 48 [r0_a, (.pv (.str [92]))] σ1 (fun t35 σ5 =>
 (condD t35
 (env 69 [r0_a] σ5 (fun t37 σ6 =>
 (retV (.tuple [t37, (.pv (.bool true))]) σ6 K)) (panV X))
 (lock nilD r0_a fun t39 =>
 (lock fieldAddrD Go.Proofs.Try.prog 54 t39 0 fun t40 =>
 (lock loadD Go.Proofs.Try.prog σ5 9 t40 fun t41 =>
 (lock indexD Go.Proofs.Try.prog 9 t41 (.pv (.int .i64 0)) fun t42 =>
 (lock nilD r0_a fun t45 =>
 (lock fieldAddrD Go.Proofs.Try.prog 54 t45 0 fun t46 =>
 (lock loadD Go.Proofs.Try.prog σ5 9 t46 fun t47 =>
 (lock sliceD Go.Proofs.Try.prog 9 t47 (some (.pv (.int .i64 1))) none fun t48 =>
 (lock nilD r0_a fun t49 =>
 (lock fieldAddrD Go.Proofs.Try.prog 54 t49 0 fun t50 =>
 (lock storeD Go.Proofs.Try.prog σ5 9 t50 t48 fun σ7 =>
 (retV (.tuple [t42, (.pv (.bool true))]) σ7 K)))))))))))))) (panV X)))) (panV X))
theorem S75_eq (env : Env) (r0_a b1_a : AV) (σ : AS) (K : AV → AS → Prop) (X : PV → AS → Prop) : S75 env r0_a b1_a σ K X = bodyD Go.Proofs.Try.prog env an75 Go.Proofs.Try.f75 [r0_a, b1_a] σ K X := by
  unfold S75
  kernel_rfl
theorem S75_ok : (match Go.Proofs.Try.f75.body with | some c => okCode an75 Go.Proofs.Try.prog Go.Proofs.Try.f75.ntmps c | none => false) = true := by kernel_rfl
/-! ### (*tedder/ere.reader).set (function 67) -/
def an67 : An := { mu := [], cut := [(6, [0, 2, 3, 4]), (8, [0, 2, 3, 4]), (11, [0, 2, 3, 4, 6, 7, 8, 52]), (15, [0, 2, 3, 4, 6, 7, 8, 9]), (17, [0, 2, 3, 4, 6, 7, 8]), (19, [2, 3, 4])], loop := [(4, [0, 2, 3, 4, 5])] }
def J67_17 (env : Env) (I4 : Nat → List AV → AS → Prop) (m4 : Nat) (r0_j17 t2_j17 b3_j17 in4_j17 from6_j17 single7_j17 to8_j17 : AV) (σ : AS) (K : AV → AS → Prop) (X : PV → AS → Prop) : Prop :=
 (condD single7_j17
 (env 76 [b3_j17, from6_j17, to8_j17] σ (fun t84 σ10 =>
 (∃ m', m' < m4 ∧ I4 m' [r0_j17, t2_j17, b3_j17, in4_j17, (.pv (.bool false))] σ10)) (panV X))
 (∃ m', m' < m4 ∧ I4 m' [r0_j17, t2_j17, b3_j17, in4_j17, (.pv (.bool false))] σ))
theorem J67_17_eq (env : Env) (I4 : Nat → List AV → AS → Prop) (m4 : Nat) (r0_j17 t2_j17 b3_j17 in4_j17 from6_j17 single7_j17 to8_j17 : AV) (σ : AS) (K : AV → AS → Prop) (X : PV → AS → Prop) : J67_17 env I4 m4 r0_j17 t2_j17 b3_j17 in4_j17 from6_j17 single7_j17 to8_j17 σ K X = wpD Go.Proofs.Try.prog env an67 (subC (bodyC Go.Proofs.Try.f67) [1, 1, 1, 0, 1, 0, 0, 1, 0, 0, 1, 1, 1, 1]) (contQ Go.Proofs.Try.prog env an67 (bodyC Go.Proofs.Try.f67) [1, 1, 1, 0, 1, 0, 0, 1, 0, 0, 1, 1, 1, 1] [(I4, m4)] (rootQ Go.Proofs.Try.prog Go.Proofs.Try.f67 K X)) [(0, r0_j17), (2, t2_j17), (3, b3_j17), (4, in4_j17), (6, from6_j17), (7, single7_j17), (8, to8_j17)] σ := by
  unfold J67_17
  kernel_rfl
def J67_15 (env : Env) (I4 : Nat → List AV → AS → Prop) (m4 : Nat) (r0_j15 t2_j15 b3_j15 in4_j15 from6_j15 single7_j15 to8_j15 other9_j15 : AV) (σ : AS) (K : AV → AS → Prop) (X : PV → AS → Prop) : Prop :=
 (unD .not single7_j15 fun t70 =>
 (guardD t70 false
 (unD .not other9_j15 fun t73 =>
 (guardD t73 false
 (lock binD Go.Proofs.Try.prog .lss 5 to8_j15 from6_j15 fun t78 =>
 (condD t78
 (lock ifaceD Go.Proofs.Try.prog 51 (.pv (.int .i64 2)) fun t80 =>
 (lock panicD σ t80 (panV X)))
 (J67_17 env I4 m4 (r0_j15) (t2_j15) (b3_j15) (in4_j15) (from6_j15) (single7_j15) (to8_j15) σ K X)))
 (lock ifaceD Go.Proofs.Try.prog 51 (.pv (.int .i64 2)) fun t80 =>
 (lock panicD σ t80 (panV X)))))
 (lock ifaceD Go.Proofs.Try.prog 51 (.pv (.int .i64 2)) fun t80 =>
 (lock panicD σ t80 (panV X)))))
theorem J67_15_eq (env : Env) (I4 : Nat → List AV → AS → Prop) (m4 : Nat) (r0_j15 t2_j15 b3_j15 in4_j15 from6_j15 single7_j15 to8_j15 other9_j15 : AV) (σ : AS) (K : AV → AS → Prop) (X : PV → AS → Prop) : J67_15 env I4 m4 r0_j15 t2_j15 b3_j15 in4_j15 from6_j15 single7_j15 to8_j15 other9_j15 σ K X = wpD Go.Proofs.Try.prog env an67 (subC (bodyC Go.Proofs.Try.f67) [1, 1, 1, 0, 1, 0, 0, 1, 0, 0, 1, 1, 1, 0, 1, 0, 1, 1, 1]) (contQ Go.Proofs.Try.prog env an67 (bodyC Go.Proofs.Try.f67) [1, 1, 1, 0, 1, 0, 0, 1, 0, 0, 1, 1, 1, 0, 1, 0, 1, 1, 1] [(I4, m4)] (rootQ Go.Proofs.Try.prog Go.Proofs.Try.f67 K X)) [(0, r0_j15), (2, t2_j15), (3, b3_j15), (4, in4_j15), (6, from6_j15), (7, single7_j15), (8, to8_j15), (9, other9_j15)] σ := by
  unfold J67_15
  kernel_rfl
def J67_11 (env : Env) (I4 : Nat → List AV → AS → Prop) (m4 : Nat) (r0_j11 t2_j11 b3_j11 in4_j11 from6_j11 single7_j11 to8_j11 t52_j11 : AV) (σ : AS) (K : AV → AS → Prop) (X : PV → AS → Prop) : Prop :=
 (condD t52_j11
 (lock nilD r0_j11 fun t55 =>
 (lock fieldAddrD Go.Proofs.Try.prog 54 t55 0 fun t56 =>
 (lock loadD Go.Proofs.Try.prog σ 9 t56 fun t57 =>
 (lock sliceD Go.Proofs.Try.prog 9 t57 (some (.pv (.int .i64 1))) none fun t58 =>
 (lock nilD r0_j11 fun t59 =>
 (lock fieldAddrD Go.Proofs.Try.prog 54 t59 0 fun t60 =>
 (lock storeD Go.Proofs.Try.prog σ 9 t60 t58 fun σ7 =>
 (condD single7_j11
 (lock buildD Go.Proofs.Try.prog 83 [] fun t64 =>
 (lock boxD σ7 t64 fun t65 σ8 =>
 (env 75 [r0_j11, t65] σ8 (fun t66 σ9 =>
 (lock extractD t66 0 fun t67 =>
 (lock extractD t66 1 fun t68 =>
 (J67_15 env I4 m4 (r0_j11) (t2_j11) (b3_j11) (in4_j11) (from6_j11) (single7_j11) (t67) (t68) σ9 K X)))) (panV X))))
 (J67_15 env I4 m4 (r0_j11) (t2_j11) (b3_j11) (in4_j11) (from6_j11) (single7_j11) (to8_j11) (.pv (.bool false)) σ7 K X)))))))))
 (J67_17 env I4 m4 (r0_j11) (t2_j11) (b3_j11) (in4_j11) (from6_j11) (single7_j11) (to8_j11) σ K X))
theorem J67_11_eq (env : Env) (I4 : Nat → List AV → AS → Prop) (m4 : Nat) (r0_j11 t2_j11 b3_j11 in4_j11 from6_j11 single7_j11 to8_j11 t52_j11 : AV) (σ : AS) (K : AV → AS → Prop) (X : PV → AS → Prop) : J67_11 env I4 m4 r0_j11 t2_j11 b3_j11 in4_j11 from6_j11 single7_j11 to8_j11 t52_j11 σ K X = wpD Go.Proofs.Try.prog env an67 (subC (bodyC Go.Proofs.Try.f67) [1, 1, 1, 0, 1, 0, 0, 1, 0, 0, 1, 1, 1, 0, 1]) (contQ Go.Proofs.Try.prog env an67 (bodyC Go.Proofs.Try.f67) [1, 1, 1, 0, 1, 0, 0, 1, 0, 0, 1, 1, 1, 0, 1] [(I4, m4)] (rootQ Go.Proofs.Try.prog Go.Proofs.Try.f67 K X)) [(0, r0_j11), (2, t2_j11), (3, b3_j11), (4, in4_j11), (6, from6_j11), (7, single7_j11), (8, to8_j11), (52, t52_j11)] σ := by
  unfold J67_11
  kernel_rfl
def J67_8 (env : Env) (I4 : Nat → List AV → AS → Prop) (m4 : Nat) (r0_j8 t2_j8 b3_j8 in4_j8 : AV) (σ : AS) (K : AV → AS → Prop) (X : PV → AS → Prop) : Prop :=
 (env 75 [r0_j8, b3_j8] σ (fun t27 σ6 =>
 (lock extractD t27 0 fun t28 =>
 (lock extractD t27 1 fun t29 =>
 (lock nilD r0_j8 fun t32 =>
 (lock fieldAddrD Go.Proofs.Try.prog 54 t32 0 fun t33 =>
 (lock loadD Go.Proofs.Try.prog σ6 9 t33 fun t34 =>
 (lock lenD Go.Proofs.Try.prog 9 t34 fun t35 =>
 (lock binD Go.Proofs.Try.prog .gtr 3 t35 (.pv (.int .i64 1)) fun t36 =>
 (guardD t36 true
 (lock nilD r0_j8 fun t39 =>
 (lock fieldAddrD Go.Proofs.Try.prog 54 t39 0 fun t40 =>
 (lock loadD Go.Proofs.Try.prog σ6 9 t40 fun t41 =>
 (lock indexD Go.Proofs.Try.prog 9 t41 (.pv (.int .i64 0)) fun t42 =>
 (lock binD Go.Proofs.Try.prog .eql 5 t42 (.pv (.int .u8 45)) fun t43 =>
 (guardD t43 true
 (lock nilD r0_j8 fun t47 =>
 (lock fieldAddrD Go.Proofs.Try.prog 54 t47 0 fun t48 =>
 (lock loadD Go.Proofs.Try.prog σ6 9 t48 fun t49 =>
 (lock indexD Go.Proofs.Try.prog 9 t49 (.pv (.int .i64 1)) fun t50 =>
 (lock binD Go.Proofs.Try.prog .neq 5 t50 (.pv (.int .u8 93)) fun t51 =>
 (J67_11 env I4 m4 (r0_j8) (t2_j8) (b3_j8) (in4_j8) (t28) (t29) (t28) (t51) σ6 K X))))))
 (J67_11 env I4 m4 (r0_j8) (t2_j8) (b3_j8) (in4_j8) (t28) (t29) (t28) (.pv (.bool false)) σ6 K X)))))))
 (J67_11 env I4 m4 (r0_j8) (t2_j8) (b3_j8) (in4_j8) (t28) (t29) (t28) (.pv (.bool false)) σ6 K X)))))))))) (panV X))
theorem J67_8_eq (env : Env) (I4 : Nat → List AV → AS → Prop) (m4 : Nat) (r0_j8 t2_j8 b3_j8 in4_j8 : AV) (σ : AS) (K : AV → AS → Prop) (X : PV → AS → Prop) : J67_8 env I4 m4 r0_j8 t2_j8 b3_j8 in4_j8 σ K X = wpD Go.Proofs.Try.prog env an67 (subC (bodyC Go.Proofs.Try.f67) [1, 1, 1, 0, 1, 0, 0, 1, 0, 0, 1]) (contQ Go.Proofs.Try.prog env an67 (bodyC Go.Proofs.Try.f67) [1, 1, 1, 0, 1, 0, 0, 1, 0, 0, 1] [(I4, m4)] (rootQ Go.Proofs.Try.prog Go.Proofs.Try.f67 K X)) [(0, r0_j8), (2, t2_j8), (3, b3_j8), (4, in4_j8)] σ := by
  unfold J67_8
  kernel_rfl
def J67_6 (env : Env) (I4 : Nat → List AV → AS → Prop) (m4 : Nat) (r0_j6 t2_j6 b3_j6 in4_j6 : AV) (σ : AS) (K : AV → AS → Prop) (X : PV → AS → Prop) : Prop :=
 (lock nilD r0_j6 fun t20 =>
 (lock fieldAddrD Go.Proofs.Try.prog 54 t20 0 fun t21 =>
 (lock loadD Go.Proofs.Try.prog σ 9 t21 fun t22 =>
 (lock binD Go.Proofs.Try.prog .eql 9 t22 (.pv (.str [])) fun t23 =>
 (condD t23
 (lock ifaceD Go.Proofs.Try.prog 51 (.pv (.int .i64 2)) fun t24 =>
 (lock panicD σ t24 (panV X)))
 (J67_8 env I4 m4 (r0_j6) (t2_j6) (b3_j6) (in4_j6) σ K X))))))
theorem J67_6_eq (env : Env) (I4 : Nat → List AV → AS → Prop) (m4 : Nat) (r0_j6 t2_j6 b3_j6 in4_j6 : AV) (σ : AS) (K : AV → AS → Prop) (X : PV → AS → Prop) : J67_6 env I4 m4 r0_j6 t2_j6 b3_j6 in4_j6 σ K X = wpD Go.Proofs.Try.prog env an67 (subC (bodyC Go.Proofs.Try.f67) [1, 1, 1, 0, 1, 0, 0, 1]) (contQ Go.Proofs.Try.prog env an67 (bodyC Go.Proofs.Try.f67) [1, 1, 1, 0, 1, 0, 0, 1] [(I4, m4)] (rootQ Go.Proofs.Try.prog Go.Proofs.Try.f67 K X)) [(0, r0_j6), (2, t2_j6), (3, b3_j6), (4, in4_j6)] σ := by
  unfold J67_6
  kernel_rfl
def J67_19 (env : Env)  (t2_j19 b3_j19 in4_j19 : AV) (σ : AS) (K : AV → AS → Prop) (X : PV → AS → Prop) : Prop :=
 (env 68 [b3_j19, in4_j19] σ (fun t86 σ11 =>
 (lock buildD Go.Proofs.Try.prog 34 [(0, (.pv (.str [115, 101, 116]))), (1, t86)] fun t87 =>
 (lock storeD Go.Proofs.Try.prog σ11 34 t2_j19 t87 fun σ12 =>
 (lock loadD Go.Proofs.Try.prog σ12 34 t2_j19 fun r0 =>
 (retV (r0) σ12 K))))) (panV X))
theorem J67_19_eq (env : Env)  (t2_j19 b3_j19 in4_j19 : AV) (σ : AS) (K : AV → AS → Prop) (X : PV → AS → Prop) : J67_19 env  t2_j19 b3_j19 in4_j19 σ K X = wpD Go.Proofs.Try.prog env an67 (subC (bodyC Go.Proofs.Try.f67) [1, 1, 1, 1]) (contQ Go.Proofs.Try.prog env an67 (bodyC Go.Proofs.Try.f67) [1, 1, 1, 1] [] (rootQ Go.Proofs.Try.prog Go.Proofs.Try.f67 K X)) [(2, t2_j19), (3, b3_j19), (4, in4_j19)] σ := by
  unfold J67_19
  kernel_rfl
def L67_4 (env : Env) (I4 : Nat → List AV → AS → Prop) (m4 : Nat) (r0_l4 t2_l4 b3_l4 in4_l4 first5_l4 : AV) (σ : AS) (K : AV → AS → Prop) (X : PV → AS → Prop) : Prop :=
 (guardD first5_l4 false
 (env 48 [r0_l4, (.pv (.str [93]))] σ (fun t16 σ5 =>
 (unD .not t16 fun t17 =>
 (condD t17
 (J67_6 env I4 m4 (r0_l4) (t2_l4) (b3_l4) (in4_l4) σ5 K X)
 (J67_19 env  (t2_l4) (b3_l4) (in4_l4) σ5 K X)))) (panV X))
 (J67_6 env I4 m4 (r0_l4) (t2_l4) (b3_l4) (in4_l4) σ K X))
theorem L67_4_eq (env : Env) (I4 : Nat → List AV → AS → Prop) (m4 : Nat) (r0_l4 t2_l4 b3_l4 in4_l4 first5_l4 : AV) (σ : AS) (K : AV → AS → Prop) (X : PV → AS → Prop) : L67_4 env I4 m4 r0_l4 t2_l4 b3_l4 in4_l4 first5_l4 σ K X = wpD Go.Proofs.Try.prog env an67 (subC (bodyC Go.Proofs.Try.f67) [1, 1, 1, 0, 1, 0, 0]) (contQ Go.Proofs.Try.prog env an67 (bodyC Go.Proofs.Try.f67) [1, 1, 1, 0, 1, 0, 0] [(I4, m4)] (rootQ Go.Proofs.Try.prog Go.Proofs.Try.f67 K X)) [(0, r0_l4), (2, t2_l4), (3, b3_l4), (4, in4_l4), (5, first5_l4)] σ := by
  unfold L67_4
  kernel_rfl
theorem lp67_4 {α : Type} {env : Env}  {r0_l4 t2_l4 b3_l4 in4_l4 : AV} {σ : AS} {K : AV → AS → Prop} {X : PV → AS → Prop} (μ : α → AS → Nat) (I : α → AS → Prop) (efirst5_l4 : α → AV) (a0 : α) (h0 : I a0 σ)
 (h : ∀ a σ, I a σ → L67_4 env  (Inv (fun a => [r0_l4, t2_l4, b3_l4, in4_l4, efirst5_l4 a]) μ I) (μ a σ) r0_l4 t2_l4 b3_l4 in4_l4 (efirst5_l4 a) σ K X) :
 ∃ I4 : Nat → List AV → AS → Prop, (∃ m, I4 m [r0_l4, t2_l4, b3_l4, in4_l4, efirst5_l4 a0] σ) ∧ ∀ (m : Nat) (x0 x1 x2 x3 x4 : AV), ∀ σ, I4 m [x0, x1, x2, x3, x4] σ →
 L67_4 env  I4 m x0 x1 x2 x3 x4 σ K X := by
  refine ⟨Inv (fun a => [r0_l4, t2_l4, b3_l4, in4_l4, efirst5_l4 a]) μ I, ⟨_, a0, rfl, rfl, h0⟩, ?_⟩
  rintro m x0 x1 x2 x3 x4 σ' ⟨a, hv, rfl, hI⟩
  simp only [List.cons.injEq, and_true] at hv
  obtain ⟨rfl, rfl, rfl, rfl, rfl⟩ := hv
  exact h a σ' hI
def S67 (env : Env) (r0_a : AV) (σ : AS) (K : AV → AS → Prop) (X : PV → AS → Prop) : Prop :=
 (lock allocD Go.Proofs.Try.prog σ 34 fun t2 σ1 =>
 (lock allocD Go.Proofs.Try.prog σ1 83 fun t3 σ2 =>
 (env 48 [r0_a, (.pv (.str [94]))] σ2 (fun t11 σ3 =>
 (unD .not t11 fun t12 =>
 (∃ I4 : Nat → List AV → AS → Prop, (∃ m, I4 m [r0_a, t2, t3, t12, (.pv (.bool true))] σ3) ∧ ∀ (m4 : Nat) (r0_l4 t2_l4 b3_l4 in4_l4 first5_l4 : AV), ∀ σ4, I4 m4 [r0_l4, t2_l4, b3_l4, in4_l4, first5_l4] σ4 →
 (L67_4 env I4 m4 r0_l4 t2_l4 b3_l4 in4_l4 first5_l4 σ4 K X)))) (panV X))))
theorem S67_eq (env : Env) (r0_a : AV) (σ : AS) (K : AV → AS → Prop) (X : PV → AS → Prop) : S67 env r0_a σ K X = bodyD Go.Proofs.Try.prog env an67 Go.Proofs.Try.f67 [r0_a] σ K X := by
  unfold S67
  simp only [L67_4_eq]
  kernel_rfl
theorem S67_ok : (match Go.Proofs.Try.f67.body with | some c => okCode an67 Go.Proofs.Try.prog Go.Proofs.Try.f67.ntmps c | none => false) = true := by kernel_rfl
/-! ### tedder/ere.count (function 74) -/
def an74 : An := { mu := [], cut := [], loop := [(3, [3, 7, 8, 9])] }
def L74_3 (env : Env) (I3 : Nat → List AV → AS → Prop) (m3 : Nat) (n3_l3 t7_l3 t8_l3 t9_l3 : AV) (σ : AS) (K : AV → AS → Prop) (X : PV → AS → Prop) : Prop :=
 (lock binD Go.Proofs.Try.prog .lss 3 t9_l3 t8_l3 fun t10 =>
 (condD t10
 (lock indexAddrD Go.Proofs.Try.prog 50 t7_l3 t9_l3 fun t11 =>
 (lock loadD Go.Proofs.Try.prog σ 5 t11 fun t12 =>
 (lock binD Go.Proofs.Try.prog .mul 3 n3_l3 (.pv (.int .i64 10)) fun t14 =>
 (lock binD Go.Proofs.Try.prog .sub 5 t12 (.pv (.int .u8 48)) fun t16 =>
 (lock convD Go.Proofs.Try.prog σ 5 3 t16 fun t17 =>
 (lock binD Go.Proofs.Try.prog .add 3 t14 t17 fun t18 =>
 (lock binD Go.Proofs.Try.prog .gtr 3 t18 (.pv (.int .i64 255)) fun t20 =>
 (condD t20
 (lock ifaceD Go.Proofs.Try.prog 51 (.pv (.int .i64 3)) fun t21 =>
 (lock panicD σ t21 (panV X)))
 (lock binD Go.Proofs.Try.prog .add 3 t9_l3 (.pv (.int .i64 1)) fun t22 =>
 (∃ m', m' < m3 ∧ I3 m' [t18, t7_l3, t8_l3, t22] σ))))))))))
 (retV (n3_l3) σ K)))
theorem L74_3_eq (env : Env) (I3 : Nat → List AV → AS → Prop) (m3 : Nat) (n3_l3 t7_l3 t8_l3 t9_l3 : AV) (σ : AS) (K : AV → AS → Prop) (X : PV → AS → Prop) : L74_3 env I3 m3 n3_l3 t7_l3 t8_l3 t9_l3 σ K X = wpD Go.Proofs.Try.prog env an74 (subC (bodyC Go.Proofs.Try.f74) [1, 1, 0, 1, 0, 0]) (contQ Go.Proofs.Try.prog env an74 (bodyC Go.Proofs.Try.f74) [1, 1, 0, 1, 0, 0] [(I3, m3)] (rootQ Go.Proofs.Try.prog Go.Proofs.Try.f74 K X)) [(3, n3_l3), (7, t7_l3), (8, t8_l3), (9, t9_l3)] σ := by
  unfold L74_3
  kernel_rfl
theorem lp74_3 {α : Type} {env : Env}  {t7_l3 t8_l3 : AV} {σ : AS} {K : AV → AS → Prop} {X : PV → AS → Prop} (μ : α → AS → Nat) (I : α → AS → Prop) (en3_l3 et9_l3 : α → AV) (a0 : α) (h0 : I a0 σ)
 (h : ∀ a σ, I a σ → L74_3 env  (Inv (fun a => [en3_l3 a, t7_l3, t8_l3, et9_l3 a]) μ I) (μ a σ) (en3_l3 a) t7_l3 t8_l3 (et9_l3 a) σ K X) :
 ∃ I3 : Nat → List AV → AS → Prop, (∃ m, I3 m [en3_l3 a0, t7_l3, t8_l3, et9_l3 a0] σ) ∧ ∀ (m : Nat) (x0 x1 x2 x3 : AV), ∀ σ, I3 m [x0, x1, x2, x3] σ →
 L74_3 env  I3 m x0 x1 x2 x3 σ K X := by
  refine ⟨Inv (fun a => [en3_l3 a, t7_l3, t8_l3, et9_l3 a]) μ I, ⟨_, a0, rfl, rfl, h0⟩, ?_⟩
  rintro m x0 x1 x2 x3 σ' ⟨a, hv, rfl, hI⟩
  simp only [List.cons.injEq, and_true] at hv
  obtain ⟨rfl, rfl, rfl, rfl⟩ := hv
  exact h a σ' hI
def S74 (env : Env) (d0_a : AV) (σ : AS) (K : AV → AS → Prop) (X : PV → AS → Prop) : Prop :=
 (lock bytesD Go.Proofs.Try.prog false σ 9 50 d0_a fun t7 σ1 =>
 (lock lenD Go.Proofs.Try.prog 50 t7 fun t8 =>
 (∃ I3 : Nat → List AV → AS → Prop, (∃ m, I3 m [(.pv (.int .i64 0)), t7, t8, (.pv (.int .i64 0))] σ1) ∧ ∀ (m3 : Nat) (n3_l3 t7_l3 t8_l3 t9_l3 : AV), ∀ σ2, I3 m3 [n3_l3, t7_l3, t8_l3, t9_l3] σ2 →
 (L74_3 env I3 m3 n3_l3 t7_l3 t8_l3 t9_l3 σ2 K X))))
theorem S74_eq (env : Env) (d0_a : AV) (σ : AS) (K : AV → AS → Prop) (X : PV → AS → Prop) : S74 env d0_a σ K X = bodyD Go.Proofs.Try.prog env an74 Go.Proofs.Try.f74 [d0_a] σ K X := by
  unfold S74
  simp only [L74_3_eq]
  kernel_rfl
theorem S74_ok : (match Go.Proofs.Try.f74.body with | some c => okCode an74 Go.Proofs.Try.prog Go.Proofs.Try.f74.ntmps c | none => false) = true := by kernel_rfl
/-! ### (*tedder/ere.reader).interval (function 65) -/
def an65 : An := { mu := [], cut := [(5, [0, 4, 5]), (9, [6, 7, 8]), (11, [7, 8])], loop := [] }
def J65_11 (env : Env)  (lo7_j11 hi8_j11 : AV) (σ : AS) (K : AV → AS → Prop) (X : PV → AS → Prop) : Prop :=
 (retV (.tuple [lo7_j11, hi8_j11]) σ K)
theorem J65_11_eq (env : Env)  (lo7_j11 hi8_j11 : AV) (σ : AS) (K : AV → AS → Prop) (X : PV → AS → Prop) : J65_11 env  lo7_j11 hi8_j11 σ K X = wpD Go.Proofs.Try.prog env an65 (subC (bodyC Go.Proofs.Try.f65) [1, 1, 1, 1, 1, 1, 1, 1]) (contQ Go.Proofs.Try.prog env an65 (bodyC Go.Proofs.Try.f65) [1, 1, 1, 1, 1, 1, 1, 1] [] (rootQ Go.Proofs.Try.prog Go.Proofs.Try.f65 K X)) [(7, lo7_j11), (8, hi8_j11)] σ := by
  unfold J65_11
  kernel_rfl
def J65_9 (env : Env)  (closed6_j9 lo7_j9 hi8_j9 : AV) (σ : AS) (K : AV → AS → Prop) (X : PV → AS → Prop) : Prop :=
 (unD .not closed6_j9 fun t35 =>
 (guardD t35 false
 (lock binD Go.Proofs.Try.prog .geq 3 hi8_j9 (.pv (.int .i64 0)) fun t38 =>
 (guardD t38 true
 (lock binD Go.Proofs.Try.prog .gtr 3 lo7_j9 hi8_j9 fun t42 =>
 (condD t42
 (lock ifaceD Go.Proofs.Try.prog 51 (.pv (.int .i64 3)) fun t45 =>
 (lock panicD σ t45 (panV X)))
 (J65_11 env  (lo7_j9) (hi8_j9) σ K X)))
 (J65_11 env  (lo7_j9) (hi8_j9) σ K X)))
 (lock ifaceD Go.Proofs.Try.prog 51 (.pv (.int .i64 3)) fun t45 =>
 (lock panicD σ t45 (panV X)))))
theorem J65_9_eq (env : Env)  (closed6_j9 lo7_j9 hi8_j9 : AV) (σ : AS) (K : AV → AS → Prop) (X : PV → AS → Prop) : J65_9 env  closed6_j9 lo7_j9 hi8_j9 σ K X = wpD Go.Proofs.Try.prog env an65 (subC (bodyC Go.Proofs.Try.f65) [1, 1, 1, 1, 1, 1, 1]) (contQ Go.Proofs.Try.prog env an65 (bodyC Go.Proofs.Try.f65) [1, 1, 1, 1, 1, 1, 1] [] (rootQ Go.Proofs.Try.prog Go.Proofs.Try.f65 K X)) [(6, closed6_j9), (7, lo7_j9), (8, hi8_j9)] σ := by
  unfold J65_9
  kernel_rfl
def J65_5 (env : Env)  (r0_j5 from4_j5 to5_j5 : AV) (σ : AS) (K : AV → AS → Prop) (X : PV → AS → Prop) : Prop :=
 (env 48 [r0_j5, (.pv (.str [125]))] σ (fun t27 σ4 =>
 (env 74 [from4_j5] σ4 (fun t29 σ5 =>
 (lock binD Go.Proofs.Try.prog .neq 9 to5_j5 (.pv (.str [])) fun t31 =>
 (condD t31
 (env 74 [to5_j5] σ5 (fun t33 σ6 =>
 (J65_9 env  (t27) (t29) (t33) σ6 K X)) (panV X))
 (J65_9 env  (t27) (t29) (.pv (.int .i64 (-1))) σ5 K X)))) (panV X))) (panV X))
theorem J65_5_eq (env : Env)  (r0_j5 from4_j5 to5_j5 : AV) (σ : AS) (K : AV → AS → Prop) (X : PV → AS → Prop) : J65_5 env  r0_j5 from4_j5 to5_j5 σ K X = wpD Go.Proofs.Try.prog env an65 (subC (bodyC Go.Proofs.Try.f65) [1, 1, 1, 1]) (contQ Go.Proofs.Try.prog env an65 (bodyC Go.Proofs.Try.f65) [1, 1, 1, 1] [] (rootQ Go.Proofs.Try.prog Go.Proofs.Try.f65 K X)) [(0, r0_j5), (4, from4_j5), (5, to5_j5)] σ := by
  unfold J65_5
  kernel_rfl
def S65 (env : Env) (r0_a : AV) (σ : AS) (K : AV → AS → Prop) (X : PV → AS → Prop) : Prop :=
 (lock nilD r0_a fun t11 =>
 (lock fieldAddrD Go.Proofs.Try.prog 54 t11 0 fun t12 =>
 (lock loadD Go.Proofs.Try.prog σ 9 t12 fun t13 =>
 (lock lenD Go.Proofs.Try.prog 9 t13 fun t14 =>
 (env 73 [r0_a, (.pv (.int .u8 57)), t14] σ (fun t15 σ1 =>
 (env 48 [r0_a, (.pv (.str [44]))] σ1 (fun t18 σ2 =>
 (condD t18
 (lock nilD r0_a fun t21 =>
 (lock fieldAddrD Go.Proofs.Try.prog 54 t21 0 fun t22 =>
 (lock loadD Go.Proofs.Try.prog σ2 9 t22 fun t23 =>
 (lock lenD Go.Proofs.Try.prog 9 t23 fun t24 =>
 (env 73 [r0_a, (.pv (.int .u8 57)), t24] σ2 (fun t25 σ3 =>
 (J65_5 env  (r0_a) (t15) (t25) σ3 K X)) (panV X))))))
 (J65_5 env  (r0_a) (t15) (t15) σ2 K X))) (panV X))) (panV X))))))
theorem S65_eq (env : Env) (r0_a : AV) (σ : AS) (K : AV → AS → Prop) (X : PV → AS → Prop) : S65 env r0_a σ K X = bodyD Go.Proofs.Try.prog env an65 Go.Proofs.Try.f65 [r0_a] σ K X := by
  unfold S65
  kernel_rfl
theorem S65_ok : (match Go.Proofs.Try.f65.body with | some c => okCode an65 Go.Proofs.Try.prog Go.Proofs.Try.f65.ntmps c | none => false) = true := by kernel_rfl
/-! ### (*tedder/ere.reader).repeat (function 59) -/
def an59 : An := { mu := [], cut := [(8, [0, 14])], loop := [] }
def J59_8 (env : Env)  (r0_j8 t14_j8 : AV) (σ : AS) (K : AV → AS → Prop) (X : PV → AS → Prop) : Prop :=
 (condD t14_j8
 (lock nilD r0_j8 fun t47 =>
 (lock fieldAddrD Go.Proofs.Try.prog 54 t47 0 fun t48 =>
 (lock loadD Go.Proofs.Try.prog σ 9 t48 fun t49 =>
 (lock sliceD Go.Proofs.Try.prog 9 t49 (some (.pv (.int .i64 1))) none fun t50 =>
 (lock nilD r0_j8 fun t51 =>
 (lock fieldAddrD Go.Proofs.Try.prog 54 t51 0 fun t52 =>
 (lock storeD Go.Proofs.Try.prog σ 9 t52 t50 fun σ4 =>
 (env 65 [r0_j8] σ4 (fun t55 σ5 =>
 (lock extractD t55 0 fun t56 =>
 (lock extractD t55 1 fun t57 =>
 (retV (.tuple [t56, t57, (.pv (.bool true))]) σ5 K)))) (panV X)))))))))
 (retV (.tuple [(.pv (.int .i64 0)), (.pv (.int .i64 0)), (.pv (.bool false))]) σ K))
theorem J59_8_eq (env : Env)  (r0_j8 t14_j8 : AV) (σ : AS) (K : AV → AS → Prop) (X : PV → AS → Prop) : J59_8 env  r0_j8 t14_j8 σ K X = wpD Go.Proofs.Try.prog env an59 (subC (bodyC Go.Proofs.Try.f59) [1, 0, 0, 1, 1, 1, 1, 1, 1, 1]) (contQ Go.Proofs.Try.prog env an59 (bodyC Go.Proofs.Try.f59) [1, 0, 0, 1, 1, 1, 1, 1, 1, 1] [] (rootQ Go.Proofs.Try.prog Go.Proofs.Try.f59 K X)) [(0, r0_j8), (14, t14_j8)] σ := by
  unfold J59_8
  kernel_rfl
def S59 (env : Env) (r0_a : AV) (σ : AS) (K : AV → AS → Prop) (X : PV → AS → Prop) : Prop :=
 (env 48 [r0_a, (.pv (.str [42]))] σ (fun t7 σ1 =>
 (condD t7
 (retV (.tuple [(.pv (.int .i64 0)), (.pv (.int .i64 (-1))), (.pv (.bool true))]) σ1 K)
 (env 48 [r0_a, (.pv (.str [43]))] σ1 (fun t10 σ2 =>
 (condD t10
 (retV (.tuple [(.pv (.int .i64 1)), (.pv (.int .i64 (-1))), (.pv (.bool true))]) σ2 K)
 (env 48 [r0_a, (.pv (.str [63]))] σ2 (fun t13 σ3 =>
 (condD t13
 (retV (.tuple [(.pv (.int .i64 0)), (.pv (.int .i64 1)), (.pv (.bool true))]) σ3 K)
 (lock nilD r0_a fun t16 =>
 (lock fieldAddrD Go.Proofs.Try.prog 54 t16 0 fun t17 =>
 (lock loadD Go.Proofs.Try.prog σ3 9 t17 fun t18 =>
 (lock lenD Go.Proofs.Try.prog 9 t18 fun t19 =>
 (lock binD Go.Proofs.Try.prog .gtr 3 t19 (.pv (.int .i64 1)) fun t20 =>
 (guardD t20 true
 (lock nilD r0_a fun t23 =>
 (lock fieldAddrD Go.Proofs.Try.prog 54 t23 0 fun t24 =>
 (lock loadD Go.Proofs.Try.prog σ3 9 t24 fun t25 =>
 (lock indexD Go.Proofs.Try.prog 9 t25 (.pv (.int .i64 0)) fun t26 =>
 (lock binD Go.Proofs.Try.prog .eql 5 t26 (.pv (.int .u8 123)) fun t27 =>
 (guardD t27 true
 (lock nilD r0_a fun t31 =>
 (lock fieldAddrD Go.Proofs.Try.prog 54 t31 0 fun t32 =>
 (lock loadD Go.Proofs.Try.prog σ3 9 t32 fun t33 =>
 (lock indexD Go.Proofs.Try.prog 9 t33 (.pv (.int .i64 1)) fun t34 =>
 (lock binD Go.Proofs.Try.prog .leq 5 (.pv (.int .u8 48)) t34 fun t35 =>
 (guardD t35 true
 (lock nilD r0_a fun t39 =>
 (lock fieldAddrD Go.Proofs.Try.prog 54 t39 0 fun t40 =>
 (lock loadD Go.Proofs.Try.prog σ3 9 t40 fun t41 =>
 (lock indexD Go.Proofs.Try.prog 9 t41 (.pv (.int .i64 1)) fun t42 =>
 (lock binD Go.Proofs.Try.prog .leq 5 t42 (.pv (.int .u8 57)) fun t43 =>
 (J59_8 env  (r0_a) (t43) σ3 K X))))))
 (J59_8 env  (r0_a) (.pv (.bool false)) σ3 K X)))))))
 (J59_8 env  (r0_a) (.pv (.bool false)) σ3 K X)))))))
 (J59_8 env  (r0_a) (.pv (.bool false)) σ3 K X))))))))) (panV X)))) (panV X)))) (panV X))
theorem S59_eq (env : Env) (r0_a : AV) (σ : AS) (K : AV → AS → Prop) (X : PV → AS → Prop) : S59 env r0_a σ K X = bodyD Go.Proofs.Try.prog env an59 Go.Proofs.Try.f59 [r0_a] σ K X := by
  unfold S59
  kernel_rfl
theorem S59_ok : (match Go.Proofs.Try.f59.body with | some c => okCode an59 Go.Proofs.Try.prog Go.Proofs.Try.f59.ntmps c | none => false) = true := by kernel_rfl
end Go.AD
