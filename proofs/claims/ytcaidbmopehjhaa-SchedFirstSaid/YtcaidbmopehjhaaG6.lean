/- Bodies in the calculus' own words. Printed by gen.py, a program of this claim's own. -/
import Derived.Test.YtcaidbmopehjhaaTy
set_option linter.unusedVariables false
set_option maxRecDepth 100000
namespace Go.AD
/-! ### tedder/sched.right (function 44) -/
def an44 : An := { mu := [], cut := [(3, [0]), (9, [6, 8, 25, 26, 27])], loop := [(5, [6, 25, 26, 27])] }
def J44_9 (env : Env) (I5 : Nat → List AV → AS → Prop) (m5 : Nat) (n6_j9 c8_j9 t25_j9 t26_j9 t27_j9 : AV) (σ : AS) (K : AV → AS → Prop) (X : PV → AS → Prop) : Prop :=
 (lock binD Go.Proofs.Try.prog .add 3 n6_j9 c8_j9 fun t41 =>
 (lock binD Go.Proofs.Try.prog .add 3 t27_j9 (.pv (.int .i64 1)) fun t42 =>
 (∃ m', m' < m5 ∧ I5 m' [t41, t25_j9, t26_j9, t42] σ)))
theorem J44_9_eq (env : Env) (I5 : Nat → List AV → AS → Prop) (m5 : Nat) (n6_j9 c8_j9 t25_j9 t26_j9 t27_j9 : AV) (σ : AS) (K : AV → AS → Prop) (X : PV → AS → Prop) : J44_9 env I5 m5 n6_j9 c8_j9 t25_j9 t26_j9 t27_j9 σ K X = wpD Go.Proofs.Try.prog env an44 (subC (bodyC Go.Proofs.Try.f44) [1, 1, 1, 0, 1, 0, 0, 1, 1, 0, 0, 1, 1]) (contQ Go.Proofs.Try.prog env an44 (bodyC Go.Proofs.Try.f44) [1, 1, 1, 0, 1, 0, 0, 1, 1, 0, 0, 1, 1] [(I5, m5)] (rootQ Go.Proofs.Try.prog Go.Proofs.Try.f44 K X)) [(6, n6_j9), (8, c8_j9), (25, t25_j9), (26, t26_j9), (27, t27_j9)] σ := by
  unfold J44_9
  kernel_rfl
def L44_5 (env : Env) (I5 : Nat → List AV → AS → Prop) (m5 : Nat) (n6_l5 t25_l5 t26_l5 t27_l5 : AV) (σ : AS) (K : AV → AS → Prop) (X : PV → AS → Prop) : Prop :=
 (lock binD Go.Proofs.Try.prog .lss 3 t27_l5 t26_l5 fun t28 =>
 (condD t28
 (lock indexAddrD Go.Proofs.Try.prog 22 t25_l5 t27_l5 fun t29 =>
 (lock loadD Go.Proofs.Try.prog σ 3 t29 fun t30 =>
 (lock binD Go.Proofs.Try.prog .lss 3 t30 (.pv (.int .i64 0)) fun t32 =>
 (guardD t32 false
 (lock binD Go.Proofs.Try.prog .sub 3 (.pv (.int .i64 1048576)) n6_l5 fun t36 =>
 (lock binD Go.Proofs.Try.prog .gtr 3 t30 t36 fun t37 =>
 (condD t37
 (retV (.tuple [(.pv (.int .i64 0)), (.pv (.bool false))]) σ K)
 (J44_9 env I5 m5 (n6_l5) (t30) (t25_l5) (t26_l5) (t27_l5) σ K X))))
 (retV (.tuple [(.pv (.int .i64 0)), (.pv (.bool false))]) σ K)))))
 (retV (.tuple [n6_l5, (.pv (.bool true))]) σ K)))
theorem L44_5_eq (env : Env) (I5 : Nat → List AV → AS → Prop) (m5 : Nat) (n6_l5 t25_l5 t26_l5 t27_l5 : AV) (σ : AS) (K : AV → AS → Prop) (X : PV → AS → Prop) : L44_5 env I5 m5 n6_l5 t25_l5 t26_l5 t27_l5 σ K X = wpD Go.Proofs.Try.prog env an44 (subC (bodyC Go.Proofs.Try.f44) [1, 1, 1, 0, 1, 0, 0]) (contQ Go.Proofs.Try.prog env an44 (bodyC Go.Proofs.Try.f44) [1, 1, 1, 0, 1, 0, 0] [(I5, m5)] (rootQ Go.Proofs.Try.prog Go.Proofs.Try.f44 K X)) [(6, n6_l5), (25, t25_l5), (26, t26_l5), (27, t27_l5)] σ := by
  unfold L44_5
  kernel_rfl
theorem lp44_5 {α : Type} {env : Env}  {t25_l5 t26_l5 : AV} {σ : AS} {K : AV → AS → Prop} {X : PV → AS → Prop} (μ : α → AS → Nat) (I : α → AS → Prop) (en6_l5 et27_l5 : α → AV) (a0 : α) (h0 : I a0 σ)
 (h : ∀ a σ, I a σ → L44_5 env  (Inv (fun a => [en6_l5 a, t25_l5, t26_l5, et27_l5 a]) μ I) (μ a σ) (en6_l5 a) t25_l5 t26_l5 (et27_l5 a) σ K X) :
 ∃ I5 : Nat → List AV → AS → Prop, (∃ m, I5 m [en6_l5 a0, t25_l5, t26_l5, et27_l5 a0] σ) ∧ ∀ (m : Nat) (x0 x1 x2 x3 : AV), ∀ σ, I5 m [x0, x1, x2, x3] σ →
 L44_5 env  I5 m x0 x1 x2 x3 σ K X := by
  refine ⟨Inv (fun a => [en6_l5 a, t25_l5, t26_l5, et27_l5 a]) μ I, ⟨_, a0, rfl, rfl, h0⟩, ?_⟩
  rintro m x0 x1 x2 x3 σ' ⟨a, hv, rfl, hI⟩
  simp only [List.cons.injEq, and_true] at hv
  obtain ⟨rfl, rfl, rfl, rfl⟩ := hv
  exact h a σ' hI
def J44_3 (env : Env)  (counts0_j3 : AV) (σ : AS) (K : AV → AS → Prop) (X : PV → AS → Prop) : Prop :=
 (lock lenD Go.Proofs.Try.prog 22 counts0_j3 fun t26 =>
 (∃ I5 : Nat → List AV → AS → Prop, (∃ m, I5 m [(.pv (.int .i64 0)), counts0_j3, t26, (.pv (.int .i64 0))] σ) ∧ ∀ (m5 : Nat) (n6_l5 t25_l5 t26_l5 t27_l5 : AV), ∀ σ1, I5 m5 [n6_l5, t25_l5, t26_l5, t27_l5] σ1 →
 (L44_5 env I5 m5 n6_l5 t25_l5 t26_l5 t27_l5 σ1 K X)))
theorem J44_3_eq (env : Env)  (counts0_j3 : AV) (σ : AS) (K : AV → AS → Prop) (X : PV → AS → Prop) : J44_3 env  counts0_j3 σ K X = wpD Go.Proofs.Try.prog env an44 (subC (bodyC Go.Proofs.Try.f44) [1, 1]) (contQ Go.Proofs.Try.prog env an44 (bodyC Go.Proofs.Try.f44) [1, 1] [] (rootQ Go.Proofs.Try.prog Go.Proofs.Try.f44 K X)) [(0, counts0_j3)] σ := by
  unfold J44_3
  simp only [L44_5_eq]
  kernel_rfl
def S44 (env : Env) (counts0_a room1_a : AV) (σ : AS) (K : AV → AS → Prop) (X : PV → AS → Prop) : Prop :=
 (lock lenD Go.Proofs.Try.prog 22 counts0_a fun t10 =>
 (lock binD Go.Proofs.Try.prog .lss 3 t10 (.pv (.int .i64 1)) fun t11 =>
 (guardD t11 false
 (lock lenD Go.Proofs.Try.prog 22 counts0_a fun t14 =>
 (lock binD Go.Proofs.Try.prog .gtr 3 t14 (.pv (.int .i64 4096)) fun t15 =>
 (guardD t15 false
 (lock binD Go.Proofs.Try.prog .lss 3 room1_a (.pv (.int .i64 1)) fun t19 =>
 (guardD t19 false
 (lock binD Go.Proofs.Try.prog .gtr 3 room1_a (.pv (.int .i64 4096)) fun t23 =>
 (condD t23
 (retV (.tuple [(.pv (.int .i64 0)), (.pv (.bool false))]) σ K)
 (J44_3 env  (counts0_a) σ K X)))
 (retV (.tuple [(.pv (.int .i64 0)), (.pv (.bool false))]) σ K)))
 (retV (.tuple [(.pv (.int .i64 0)), (.pv (.bool false))]) σ K))))
 (retV (.tuple [(.pv (.int .i64 0)), (.pv (.bool false))]) σ K))))
theorem S44_eq (env : Env) (counts0_a room1_a : AV) (σ : AS) (K : AV → AS → Prop) (X : PV → AS → Prop) : S44 env counts0_a room1_a σ K X = bodyD Go.Proofs.Try.prog env an44 Go.Proofs.Try.f44 [counts0_a, room1_a] σ K X := by
  unfold S44
  kernel_rfl
theorem S44_ok : (match Go.Proofs.Try.f44.body with | some c => okCode an44 Go.Proofs.Try.prog Go.Proofs.Try.f44.ntmps c | none => false) = true := by kernel_rfl
/-! ### tedder/sched.newTree (function 45) -/
def an45 : An := { mu := [12], cut := [], loop := [(2, [0, 3])] }
def L45_2 (env : Env) (I2 : Nat → List AV → AS → Prop) (m2 : Nat) (k0_l2 n3_l2 : AV) (σ : AS) (K : AV → AS → Prop) (X : PV → AS → Prop) : Prop :=
 (lock binD Go.Proofs.Try.prog .lss 3 n3_l2 k0_l2 fun t6 =>
 (condD t6
 (lock binD Go.Proofs.Try.prog .mul 3 n3_l2 (.pv (.int .i64 2)) fun t8 =>
 (∃ m', m' < m2 ∧ I2 m' [k0_l2, t8] σ))
 (lock binD Go.Proofs.Try.prog .mul 3 (.pv (.int .i64 2)) n3_l2 fun t11 =>
 (lock makeSliceD Go.Proofs.Try.prog true σ 22 t11 t11 fun t12 σ2 =>
 (lock buildD Go.Proofs.Try.prog 79 [(0, n3_l2), (1, t12)] fun t13 =>
 (lock boxD σ2 t13 fun t14 σ3 =>
 (retV (t14) σ3 K)))))))
theorem L45_2_eq (env : Env) (I2 : Nat → List AV → AS → Prop) (m2 : Nat) (k0_l2 n3_l2 : AV) (σ : AS) (K : AV → AS → Prop) (X : PV → AS → Prop) : L45_2 env I2 m2 k0_l2 n3_l2 σ K X = wpD Go.Proofs.Try.prog env an45 (subC (bodyC Go.Proofs.Try.f45) [1, 1, 0, 0, 0]) (contQ Go.Proofs.Try.prog env an45 (bodyC Go.Proofs.Try.f45) [1, 1, 0, 0, 0] [(I2, m2)] (rootQ Go.Proofs.Try.prog Go.Proofs.Try.f45 K X)) [(0, k0_l2), (3, n3_l2)] σ := by
  unfold L45_2
  kernel_rfl
theorem lp45_2 {α : Type} {env : Env}  {k0_l2 : AV} {σ : AS} {K : AV → AS → Prop} {X : PV → AS → Prop} (μ : α → AS → Nat) (I : α → AS → Prop) (en3_l2 : α → AV) (a0 : α) (h0 : I a0 σ)
 (h : ∀ a σ, I a σ → L45_2 env  (Inv (fun a => [k0_l2, en3_l2 a]) μ I) (μ a σ) k0_l2 (en3_l2 a) σ K X) :
 ∃ I2 : Nat → List AV → AS → Prop, (∃ m, I2 m [k0_l2, en3_l2 a0] σ) ∧ ∀ (m : Nat) (x0 x1 : AV), ∀ σ, I2 m [x0, x1] σ →
 L45_2 env  I2 m x0 x1 σ K X := by
  refine ⟨Inv (fun a => [k0_l2, en3_l2 a]) μ I, ⟨_, a0, rfl, rfl, h0⟩, ?_⟩
  rintro m x0 x1 σ' ⟨a, hv, rfl, hI⟩
  simp only [List.cons.injEq, and_true] at hv
  obtain ⟨rfl, rfl⟩ := hv
  exact h a σ' hI
def S45 (env : Env) (k0_a : AV) (σ : AS) (K : AV → AS → Prop) (X : PV → AS → Prop) : Prop :=
 (∃ I2 : Nat → List AV → AS → Prop, (∃ m, I2 m [k0_a, (.pv (.int .i64 1))] σ) ∧ ∀ (m2 : Nat) (k0_l2 n3_l2 : AV), ∀ σ1, I2 m2 [k0_l2, n3_l2] σ1 →
 (L45_2 env I2 m2 k0_l2 n3_l2 σ1 K X))
theorem S45_eq (env : Env) (k0_a : AV) (σ : AS) (K : AV → AS → Prop) (X : PV → AS → Prop) : S45 env k0_a σ K X = bodyD Go.Proofs.Try.prog env an45 Go.Proofs.Try.f45 [k0_a] σ K X := by
  unfold S45
  simp only [L45_2_eq]
  kernel_rfl
theorem S45_ok : (match Go.Proofs.Try.f45.body with | some c => okCode an45 Go.Proofs.Try.prog Go.Proofs.Try.f45.ntmps c | none => false) = true := by kernel_rfl
/-! ### (*tedder/sched.tree).set (function 55) -/
def an55 : An := { mu := [], cut := [(3, [0, 1, 6]), (6, [0, 7, 8])], loop := [(4, [0, 7, 8])] }
def J55_6 (env : Env) (I4 : Nat → List AV → AS → Prop) (m4 : Nat) (t0_j6 d7_j6 at8_j6 : AV) (σ : AS) (K : AV → AS → Prop) (X : PV → AS → Prop) : Prop :=
 (lock nilD t0_j6 fun t39 =>
 (lock fieldAddrD Go.Proofs.Try.prog 79 t39 1 fun t40 =>
 (lock loadD Go.Proofs.Try.prog σ 22 t40 fun t41 =>
 (lock indexAddrD Go.Proofs.Try.prog 22 t41 at8_j6 fun t43 =>
 (lock loadD Go.Proofs.Try.prog σ 3 t43 fun t44 =>
 (lock binD Go.Proofs.Try.prog .add 3 t44 d7_j6 fun t46 =>
 (lock indexAddrD Go.Proofs.Try.prog 22 t41 at8_j6 fun t47 =>
 (lock storeD Go.Proofs.Try.prog σ 3 t47 t46 fun σ2 =>
 (lock binD Go.Proofs.Try.prog .quo 3 at8_j6 (.pv (.int .i64 2)) fun t37 =>
 (∃ m', m' < m4 ∧ I4 m' [t0_j6, d7_j6, t37] σ2))))))))))
theorem J55_6_eq (env : Env) (I4 : Nat → List AV → AS → Prop) (m4 : Nat) (t0_j6 d7_j6 at8_j6 : AV) (σ : AS) (K : AV → AS → Prop) (X : PV → AS → Prop) : J55_6 env I4 m4 t0_j6 d7_j6 at8_j6 σ K X = wpD Go.Proofs.Try.prog env an55 (subC (bodyC Go.Proofs.Try.f55) [1, 1, 1, 0, 0, 1]) (contQ Go.Proofs.Try.prog env an55 (bodyC Go.Proofs.Try.f55) [1, 1, 1, 0, 0, 1] [(I4, m4)] (rootQ Go.Proofs.Try.prog Go.Proofs.Try.f55 K X)) [(0, t0_j6), (7, d7_j6), (8, at8_j6)] σ := by
  unfold J55_6
  kernel_rfl
def L55_4 (env : Env) (I4 : Nat → List AV → AS → Prop) (m4 : Nat) (t0_l4 d7_l4 at8_l4 : AV) (σ : AS) (K : AV → AS → Prop) (X : PV → AS → Prop) : Prop :=
 (lock binD Go.Proofs.Try.prog .neq 3 d7_l4 (.pv (.int .i64 0)) fun t31 =>
 (guardD t31 true
 (lock binD Go.Proofs.Try.prog .gtr 3 at8_l4 (.pv (.int .i64 0)) fun t34 =>
 (condD t34
 (J55_6 env I4 m4 (t0_l4) (d7_l4) (at8_l4) σ K X)
 (retV (.tuple []) σ K)))
 (retV (.tuple []) σ K)))
theorem L55_4_eq (env : Env) (I4 : Nat → List AV → AS → Prop) (m4 : Nat) (t0_l4 d7_l4 at8_l4 : AV) (σ : AS) (K : AV → AS → Prop) (X : PV → AS → Prop) : L55_4 env I4 m4 t0_l4 d7_l4 at8_l4 σ K X = wpD Go.Proofs.Try.prog env an55 (subC (bodyC Go.Proofs.Try.f55) [1, 1, 1, 0, 0]) (contQ Go.Proofs.Try.prog env an55 (bodyC Go.Proofs.Try.f55) [1, 1, 1, 0, 0] [(I4, m4)] (rootQ Go.Proofs.Try.prog Go.Proofs.Try.f55 K X)) [(0, t0_l4), (7, d7_l4), (8, at8_l4)] σ := by
  unfold L55_4
  kernel_rfl
theorem lp55_4 {α : Type} {env : Env}  {t0_l4 d7_l4 : AV} {σ : AS} {K : AV → AS → Prop} {X : PV → AS → Prop} (μ : α → AS → Nat) (I : α → AS → Prop) (eat8_l4 : α → AV) (a0 : α) (h0 : I a0 σ)
 (h : ∀ a σ, I a σ → L55_4 env  (Inv (fun a => [t0_l4, d7_l4, eat8_l4 a]) μ I) (μ a σ) t0_l4 d7_l4 (eat8_l4 a) σ K X) :
 ∃ I4 : Nat → List AV → AS → Prop, (∃ m, I4 m [t0_l4, d7_l4, eat8_l4 a0] σ) ∧ ∀ (m : Nat) (x0 x1 x2 : AV), ∀ σ, I4 m [x0, x1, x2] σ →
 L55_4 env  I4 m x0 x1 x2 σ K X := by
  refine ⟨Inv (fun a => [t0_l4, d7_l4, eat8_l4 a]) μ I, ⟨_, a0, rfl, rfl, h0⟩, ?_⟩
  rintro m x0 x1 x2 σ' ⟨a, hv, rfl, hI⟩
  simp only [List.cons.injEq, and_true] at hv
  obtain ⟨rfl, rfl, rfl⟩ := hv
  exact h a σ' hI
def J55_3 (env : Env)  (t0_j3 i1_j3 v6_j3 : AV) (σ : AS) (K : AV → AS → Prop) (X : PV → AS → Prop) : Prop :=
 (lock nilD t0_j3 fun t12 =>
 (lock fieldAddrD Go.Proofs.Try.prog 79 t12 1 fun t13 =>
 (lock loadD Go.Proofs.Try.prog σ 22 t13 fun t14 =>
 (lock nilD t0_j3 fun t16 =>
 (lock fieldAddrD Go.Proofs.Try.prog 79 t16 0 fun t17 =>
 (lock loadD Go.Proofs.Try.prog σ 3 t17 fun t18 =>
 (lock binD Go.Proofs.Try.prog .add 3 t18 i1_j3 fun t20 =>
 (lock indexAddrD Go.Proofs.Try.prog 22 t14 t20 fun t21 =>
 (lock loadD Go.Proofs.Try.prog σ 3 t21 fun t22 =>
 (lock binD Go.Proofs.Try.prog .sub 3 v6_j3 t22 fun t23 =>
 (lock nilD t0_j3 fun t25 =>
 (lock fieldAddrD Go.Proofs.Try.prog 79 t25 0 fun t26 =>
 (lock loadD Go.Proofs.Try.prog σ 3 t26 fun t27 =>
 (lock binD Go.Proofs.Try.prog .add 3 t27 i1_j3 fun t29 =>
 (∃ I4 : Nat → List AV → AS → Prop, (∃ m, I4 m [t0_j3, t23, t29] σ) ∧ ∀ (m4 : Nat) (t0_l4 d7_l4 at8_l4 : AV), ∀ σ1, I4 m4 [t0_l4, d7_l4, at8_l4] σ1 →
 (L55_4 env I4 m4 t0_l4 d7_l4 at8_l4 σ1 K X))))))))))))))))
theorem J55_3_eq (env : Env)  (t0_j3 i1_j3 v6_j3 : AV) (σ : AS) (K : AV → AS → Prop) (X : PV → AS → Prop) : J55_3 env  t0_j3 i1_j3 v6_j3 σ K X = wpD Go.Proofs.Try.prog env an55 (subC (bodyC Go.Proofs.Try.f55) [1, 1]) (contQ Go.Proofs.Try.prog env an55 (bodyC Go.Proofs.Try.f55) [1, 1] [] (rootQ Go.Proofs.Try.prog Go.Proofs.Try.f55 K X)) [(0, t0_j3), (1, i1_j3), (6, v6_j3)] σ := by
  unfold J55_3
  simp only [L55_4_eq]
  kernel_rfl
def S55 (env : Env) (t0_a i1_a may2_a : AV) (σ : AS) (K : AV → AS → Prop) (X : PV → AS → Prop) : Prop :=
 (condD may2_a
 (J55_3 env  (t0_a) (i1_a) (.pv (.int .i64 1)) σ K X)
 (J55_3 env  (t0_a) (i1_a) (.pv (.int .i64 0)) σ K X))
theorem S55_eq (env : Env) (t0_a i1_a may2_a : AV) (σ : AS) (K : AV → AS → Prop) (X : PV → AS → Prop) : S55 env t0_a i1_a may2_a σ K X = bodyD Go.Proofs.Try.prog env an55 Go.Proofs.Try.f55 [t0_a, i1_a, may2_a] σ K X := by
  unfold S55
  kernel_rfl
theorem S55_ok : (match Go.Proofs.Try.f55.body with | some c => okCode an55 Go.Proofs.Try.prog Go.Proofs.Try.f55.ntmps c | none => false) = true := by kernel_rfl
/-! ### (*tedder/sched.tree).find (function 57) -/
def an57 : An := { mu := [], cut := [], loop := [(2, [0, 1, 5])] }
def L57_2 (env : Env) (I2 : Nat → List AV → AS → Prop) (m2 : Nat) (t0_l2 n1_l2 at5_l2 : AV) (σ : AS) (K : AV → AS → Prop) (X : PV → AS → Prop) : Prop :=
 (lock nilD t0_l2 fun t8 =>
 (lock fieldAddrD Go.Proofs.Try.prog 79 t8 0 fun t9 =>
 (lock loadD Go.Proofs.Try.prog σ 3 t9 fun t10 =>
 (lock binD Go.Proofs.Try.prog .lss 3 at5_l2 t10 fun t11 =>
 (condD t11
 (lock binD Go.Proofs.Try.prog .mul 3 at5_l2 (.pv (.int .i64 2)) fun t13 =>
 (lock nilD t0_l2 fun t16 =>
 (lock fieldAddrD Go.Proofs.Try.prog 79 t16 1 fun t17 =>
 (lock loadD Go.Proofs.Try.prog σ 22 t17 fun t18 =>
 (lock indexAddrD Go.Proofs.Try.prog 22 t18 t13 fun t20 =>
 (lock loadD Go.Proofs.Try.prog σ 3 t20 fun t21 =>
 (lock binD Go.Proofs.Try.prog .geq 3 n1_l2 t21 fun t22 =>
 (condD t22
 (lock nilD t0_l2 fun t25 =>
 (lock fieldAddrD Go.Proofs.Try.prog 79 t25 1 fun t26 =>
 (lock loadD Go.Proofs.Try.prog σ 22 t26 fun t27 =>
 (lock indexAddrD Go.Proofs.Try.prog 22 t27 t13 fun t29 =>
 (lock loadD Go.Proofs.Try.prog σ 3 t29 fun t30 =>
 (lock binD Go.Proofs.Try.prog .sub 3 n1_l2 t30 fun t31 =>
 (lock binD Go.Proofs.Try.prog .add 3 t13 (.pv (.int .i64 1)) fun t33 =>
 (∃ m', m' < m2 ∧ I2 m' [t0_l2, t31, t33] σ))))))))
 (∃ m', m' < m2 ∧ I2 m' [t0_l2, n1_l2, t13] σ)))))))))
 (lock nilD t0_l2 fun t36 =>
 (lock fieldAddrD Go.Proofs.Try.prog 79 t36 0 fun t37 =>
 (lock loadD Go.Proofs.Try.prog σ 3 t37 fun t38 =>
 (lock binD Go.Proofs.Try.prog .sub 3 at5_l2 t38 fun t39 =>
 (retV (t39) σ K))))))))))
theorem L57_2_eq (env : Env) (I2 : Nat → List AV → AS → Prop) (m2 : Nat) (t0_l2 n1_l2 at5_l2 : AV) (σ : AS) (K : AV → AS → Prop) (X : PV → AS → Prop) : L57_2 env I2 m2 t0_l2 n1_l2 at5_l2 σ K X = wpD Go.Proofs.Try.prog env an57 (subC (bodyC Go.Proofs.Try.f57) [1, 1, 0, 0, 0]) (contQ Go.Proofs.Try.prog env an57 (bodyC Go.Proofs.Try.f57) [1, 1, 0, 0, 0] [(I2, m2)] (rootQ Go.Proofs.Try.prog Go.Proofs.Try.f57 K X)) [(0, t0_l2), (1, n1_l2), (5, at5_l2)] σ := by
  unfold L57_2
  kernel_rfl
theorem lp57_2 {α : Type} {env : Env}  {t0_l2 : AV} {σ : AS} {K : AV → AS → Prop} {X : PV → AS → Prop} (μ : α → AS → Nat) (I : α → AS → Prop) (en1_l2 eat5_l2 : α → AV) (a0 : α) (h0 : I a0 σ)
 (h : ∀ a σ, I a σ → L57_2 env  (Inv (fun a => [t0_l2, en1_l2 a, eat5_l2 a]) μ I) (μ a σ) t0_l2 (en1_l2 a) (eat5_l2 a) σ K X) :
 ∃ I2 : Nat → List AV → AS → Prop, (∃ m, I2 m [t0_l2, en1_l2 a0, eat5_l2 a0] σ) ∧ ∀ (m : Nat) (x0 x1 x2 : AV), ∀ σ, I2 m [x0, x1, x2] σ →
 L57_2 env  I2 m x0 x1 x2 σ K X := by
  refine ⟨Inv (fun a => [t0_l2, en1_l2 a, eat5_l2 a]) μ I, ⟨_, a0, rfl, rfl, h0⟩, ?_⟩
  rintro m x0 x1 x2 σ' ⟨a, hv, rfl, hI⟩
  simp only [List.cons.injEq, and_true] at hv
  obtain ⟨rfl, rfl, rfl⟩ := hv
  exact h a σ' hI
def S57 (env : Env) (t0_a n1_a : AV) (σ : AS) (K : AV → AS → Prop) (X : PV → AS → Prop) : Prop :=
 (∃ I2 : Nat → List AV → AS → Prop, (∃ m, I2 m [t0_a, n1_a, (.pv (.int .i64 1))] σ) ∧ ∀ (m2 : Nat) (t0_l2 n1_l2 at5_l2 : AV), ∀ σ1, I2 m2 [t0_l2, n1_l2, at5_l2] σ1 →
 (L57_2 env I2 m2 t0_l2 n1_l2 at5_l2 σ1 K X))
theorem S57_eq (env : Env) (t0_a n1_a : AV) (σ : AS) (K : AV → AS → Prop) (X : PV → AS → Prop) : S57 env t0_a n1_a σ K X = bodyD Go.Proofs.Try.prog env an57 Go.Proofs.Try.f57 [t0_a, n1_a] σ K X := by
  unfold S57
  simp only [L57_2_eq]
  kernel_rfl
theorem S57_ok : (match Go.Proofs.Try.f57.body with | some c => okCode an57 Go.Proofs.Try.prog Go.Proofs.Try.f57.ntmps c | none => false) = true := by kernel_rfl
/-! ### (*tedder/sched.machine).may (function 46) -/
def an46 : An := { mu := [], cut := [], loop := [] }
def S46 (env : Env) (m0_a i1_a : AV) (σ : AS) (K : AV → AS → Prop) (X : PV → AS → Prop) : Prop :=
 (lock nilD m0_a fun t5 =>
 (lock fieldAddrD Go.Proofs.Try.prog 70 t5 8 fun t6 =>
 (lock loadD Go.Proofs.Try.prog σ 67 t6 fun t7 =>
 (lock nilD m0_a fun t10 =>
 (lock fieldAddrD Go.Proofs.Try.prog 70 t10 1 fun t11 =>
 (lock loadD Go.Proofs.Try.prog σ 22 t11 fun t12 =>
 (lock indexAddrD Go.Proofs.Try.prog 22 t12 i1_a fun t14 =>
 (lock loadD Go.Proofs.Try.prog σ 3 t14 fun t15 =>
 (lock nilD m0_a fun t17 =>
 (lock fieldAddrD Go.Proofs.Try.prog 70 t17 0 fun t18 =>
 (lock loadD Go.Proofs.Try.prog σ 22 t18 fun t19 =>
 (lock indexAddrD Go.Proofs.Try.prog 22 t19 i1_a fun t21 =>
 (lock loadD Go.Proofs.Try.prog σ 3 t21 fun t22 =>
 (lock binD Go.Proofs.Try.prog .lss 3 t15 t22 fun t23 =>
 (guardD t23 false
 (lock nilD m0_a fun t26 =>
 (lock fieldAddrD Go.Proofs.Try.prog 70 t26 2 fun t27 =>
 (lock loadD Go.Proofs.Try.prog σ 22 t27 fun t28 =>
 (lock indexAddrD Go.Proofs.Try.prog 22 t28 i1_a fun t30 =>
 (lock loadD Go.Proofs.Try.prog σ 3 t30 fun t31 =>
 (lock binD Go.Proofs.Try.prog .eql 3 t31 (.pv (.int .i64 1)) fun t32 =>
 (guardD t32 true
 (lock nilD m0_a fun t35 =>
 (lock fieldAddrD Go.Proofs.Try.prog 70 t35 9 fun t36 =>
 (lock loadD Go.Proofs.Try.prog σ 4 t36 fun t37 =>
 (env 55 [t7, i1_a, t37] σ (fun t40 σ1 =>
 (retV (.tuple []) σ1 K)) (panV X)))))
 (env 55 [t7, i1_a, (.pv (.bool false))] σ (fun t40 σ2 =>
 (retV (.tuple []) σ2 K)) (panV X)))))))))
 (env 55 [t7, i1_a, (.pv (.bool true))] σ (fun t40 σ3 =>
 (retV (.tuple []) σ3 K)) (panV X)))))))))))))))))
theorem S46_eq (env : Env) (m0_a i1_a : AV) (σ : AS) (K : AV → AS → Prop) (X : PV → AS → Prop) : S46 env m0_a i1_a σ K X = bodyD Go.Proofs.Try.prog env an46 Go.Proofs.Try.f46 [m0_a, i1_a] σ K X := by
  unfold S46
  kernel_rfl
theorem S46_ok : (match Go.Proofs.Try.f46.body with | some c => okCode an46 Go.Proofs.Try.prog Go.Proofs.Try.f46.ntmps c | none => false) = true := by kernel_rfl
/-! ### (*tedder/sched.machine).gate (function 58) -/
def an58 : An := { mu := [], cut := [], loop := [(4, [0, 28, 29, 30])] }
def L58_4 (env : Env) (I4 : Nat → List AV → AS → Prop) (m4 : Nat) (m0_l4 t28_l4 t29_l4 t30_l4 : AV) (σ : AS) (K : AV → AS → Prop) (X : PV → AS → Prop) : Prop :=
 (lock binD Go.Proofs.Try.prog .lss 3 t30_l4 t29_l4 fun t31 =>
 (condD t31
 (lock indexAddrD Go.Proofs.Try.prog 22 t28_l4 t30_l4 fun t33 =>
 (lock loadD Go.Proofs.Try.prog σ 3 t33 fun t34 =>
 (lock binD Go.Proofs.Try.prog .eql 3 t34 (.pv (.int .i64 1)) fun t36 =>
 (condD t36
 (env 46 [m0_l4, t30_l4] σ (fun t39 σ3 =>
 (lock binD Go.Proofs.Try.prog .add 3 t30_l4 (.pv (.int .i64 1)) fun t40 =>
 (∃ m', m' < m4 ∧ I4 m' [m0_l4, t28_l4, t29_l4, t40] σ3))) (panV X))
 (lock binD Go.Proofs.Try.prog .add 3 t30_l4 (.pv (.int .i64 1)) fun t40 =>
 (∃ m', m' < m4 ∧ I4 m' [m0_l4, t28_l4, t29_l4, t40] σ))))))
 (retV (.tuple []) σ K)))
theorem L58_4_eq (env : Env) (I4 : Nat → List AV → AS → Prop) (m4 : Nat) (m0_l4 t28_l4 t29_l4 t30_l4 : AV) (σ : AS) (K : AV → AS → Prop) (X : PV → AS → Prop) : L58_4 env I4 m4 m0_l4 t28_l4 t29_l4 t30_l4 σ K X = wpD Go.Proofs.Try.prog env an58 (subC (bodyC Go.Proofs.Try.f58) [1, 1, 0, 1, 1, 0, 0]) (contQ Go.Proofs.Try.prog env an58 (bodyC Go.Proofs.Try.f58) [1, 1, 0, 1, 1, 0, 0] [(I4, m4)] (rootQ Go.Proofs.Try.prog Go.Proofs.Try.f58 K X)) [(0, m0_l4), (28, t28_l4), (29, t29_l4), (30, t30_l4)] σ := by
  unfold L58_4
  kernel_rfl
theorem lp58_4 {α : Type} {env : Env}  {m0_l4 t28_l4 t29_l4 : AV} {σ : AS} {K : AV → AS → Prop} {X : PV → AS → Prop} (μ : α → AS → Nat) (I : α → AS → Prop) (et30_l4 : α → AV) (a0 : α) (h0 : I a0 σ)
 (h : ∀ a σ, I a σ → L58_4 env  (Inv (fun a => [m0_l4, t28_l4, t29_l4, et30_l4 a]) μ I) (μ a σ) m0_l4 t28_l4 t29_l4 (et30_l4 a) σ K X) :
 ∃ I4 : Nat → List AV → AS → Prop, (∃ m, I4 m [m0_l4, t28_l4, t29_l4, et30_l4 a0] σ) ∧ ∀ (m : Nat) (x0 x1 x2 x3 : AV), ∀ σ, I4 m [x0, x1, x2, x3] σ →
 L58_4 env  I4 m x0 x1 x2 x3 σ K X := by
  refine ⟨Inv (fun a => [m0_l4, t28_l4, t29_l4, et30_l4 a]) μ I, ⟨_, a0, rfl, rfl, h0⟩, ?_⟩
  rintro m x0 x1 x2 x3 σ' ⟨a, hv, rfl, hI⟩
  simp only [List.cons.injEq, and_true] at hv
  obtain ⟨rfl, rfl, rfl, rfl⟩ := hv
  exact h a σ' hI
def S58 (env : Env) (m0_a : AV) (σ : AS) (K : AV → AS → Prop) (X : PV → AS → Prop) : Prop :=
 (lock nilD m0_a fun t6 =>
 (lock fieldAddrD Go.Proofs.Try.prog 70 t6 4 fun t7 =>
 (lock loadD Go.Proofs.Try.prog σ 22 t7 fun t8 =>
 (lock lenD Go.Proofs.Try.prog 22 t8 fun t9 =>
 (lock nilD m0_a fun t11 =>
 (lock fieldAddrD Go.Proofs.Try.prog 70 t11 5 fun t12 =>
 (lock loadD Go.Proofs.Try.prog σ 3 t12 fun t13 =>
 (lock binD Go.Proofs.Try.prog .lss 3 t9 t13 fun t14 =>
 (lock nilD m0_a fun t17 =>
 (lock fieldAddrD Go.Proofs.Try.prog 70 t17 9 fun t18 =>
 (lock loadD Go.Proofs.Try.prog σ 4 t18 fun t19 =>
 (lock binD Go.Proofs.Try.prog .neq 4 t14 t19 fun t20 =>
 (condD t20
 (lock nilD m0_a fun t23 =>
 (lock fieldAddrD Go.Proofs.Try.prog 70 t23 9 fun t24 =>
 (lock storeD Go.Proofs.Try.prog σ 4 t24 t14 fun σ1 =>
 (lock nilD m0_a fun t26 =>
 (lock fieldAddrD Go.Proofs.Try.prog 70 t26 2 fun t27 =>
 (lock loadD Go.Proofs.Try.prog σ1 22 t27 fun t28 =>
 (lock lenD Go.Proofs.Try.prog 22 t28 fun t29 =>
 (∃ I4 : Nat → List AV → AS → Prop, (∃ m, I4 m [m0_a, t28, t29, (.pv (.int .i64 0))] σ1) ∧ ∀ (m4 : Nat) (m0_l4 t28_l4 t29_l4 t30_l4 : AV), ∀ σ2, I4 m4 [m0_l4, t28_l4, t29_l4, t30_l4] σ2 →
 (L58_4 env I4 m4 m0_l4 t28_l4 t29_l4 t30_l4 σ2 K X)))))))))
 (retV (.tuple []) σ K))))))))))))))
theorem S58_eq (env : Env) (m0_a : AV) (σ : AS) (K : AV → AS → Prop) (X : PV → AS → Prop) : S58 env m0_a σ K X = bodyD Go.Proofs.Try.prog env an58 Go.Proofs.Try.f58 [m0_a] σ K X := by
  unfold S58
  simp only [L58_4_eq]
  kernel_rfl
theorem S58_ok : (match Go.Proofs.Try.f58.body with | some c => okCode an58 Go.Proofs.Try.prog Go.Proofs.Try.f58.ntmps c | none => false) = true := by kernel_rfl
/-! ### (*tedder/sched.machine).worker (function 56) -/
def an56 : An := { mu := [], cut := [(5, [0, 1, 4])], loop := [] }
def J56_5 (env : Env)  (m0_j5 i1_j5 t4_j5 : AV) (σ : AS) (K : AV → AS → Prop) (X : PV → AS → Prop) : Prop :=
 (env 46 [m0_j5, i1_j5] σ (fun t52 σ4 =>
 (lock nilD m0_j5 fun t55 =>
 (lock fieldAddrD Go.Proofs.Try.prog 70 t55 1 fun t56 =>
 (lock loadD Go.Proofs.Try.prog σ4 22 t56 fun t57 =>
 (lock indexAddrD Go.Proofs.Try.prog 22 t57 i1_j5 fun t59 =>
 (lock loadD Go.Proofs.Try.prog σ4 3 t59 fun t60 =>
 (lock binD Go.Proofs.Try.prog .sub 3 t60 (.pv (.int .i64 1)) fun t61 =>
 (lock buildD Go.Proofs.Try.prog 42 [(0, (.pv (.str [119, 111, 114, 107]))), (1, i1_j5), (2, t61)] fun t62 =>
 (lock storeD Go.Proofs.Try.prog σ4 42 t4_j5 t62 fun σ5 =>
 (lock loadD Go.Proofs.Try.prog σ5 42 t4_j5 fun r0 =>
 (retV (r0) σ5 K))))))))))) (panV X))
theorem J56_5_eq (env : Env)  (m0_j5 i1_j5 t4_j5 : AV) (σ : AS) (K : AV → AS → Prop) (X : PV → AS → Prop) : J56_5 env  m0_j5 i1_j5 t4_j5 σ K X = wpD Go.Proofs.Try.prog env an56 (subC (bodyC Go.Proofs.Try.f56) [1, 0, 1, 0, 1, 1]) (contQ Go.Proofs.Try.prog env an56 (bodyC Go.Proofs.Try.f56) [1, 0, 1, 0, 1, 1] [] (rootQ Go.Proofs.Try.prog Go.Proofs.Try.f56 K X)) [(0, m0_j5), (1, i1_j5), (4, t4_j5)] σ := by
  unfold J56_5
  kernel_rfl
def S56 (env : Env) (m0_a i1_a : AV) (σ : AS) (K : AV → AS → Prop) (X : PV → AS → Prop) : Prop :=
 (lock allocD Go.Proofs.Try.prog σ 42 fun t4 σ1 =>
 (lock nilD m0_a fun t6 =>
 (lock fieldAddrD Go.Proofs.Try.prog 70 t6 1 fun t7 =>
 (lock loadD Go.Proofs.Try.prog σ1 22 t7 fun t8 =>
 (lock indexAddrD Go.Proofs.Try.prog 22 t8 i1_a fun t10 =>
 (lock loadD Go.Proofs.Try.prog σ1 3 t10 fun t11 =>
 (lock nilD m0_a fun t13 =>
 (lock fieldAddrD Go.Proofs.Try.prog 70 t13 0 fun t14 =>
 (lock loadD Go.Proofs.Try.prog σ1 22 t14 fun t15 =>
 (lock indexAddrD Go.Proofs.Try.prog 22 t15 i1_a fun t17 =>
 (lock loadD Go.Proofs.Try.prog σ1 3 t17 fun t18 =>
 (lock binD Go.Proofs.Try.prog .lss 3 t11 t18 fun t19 =>
 (condD t19
 (lock nilD m0_a fun t21 =>
 (lock fieldAddrD Go.Proofs.Try.prog 70 t21 1 fun t22 =>
 (lock loadD Go.Proofs.Try.prog σ1 22 t22 fun t23 =>
 (lock indexAddrD Go.Proofs.Try.prog 22 t23 i1_a fun t25 =>
 (lock loadD Go.Proofs.Try.prog σ1 3 t25 fun t26 =>
 (lock binD Go.Proofs.Try.prog .add 3 t26 (.pv (.int .i64 1)) fun t27 =>
 (lock indexAddrD Go.Proofs.Try.prog 22 t23 i1_a fun t28 =>
 (lock storeD Go.Proofs.Try.prog σ1 3 t28 t27 fun σ2 =>
 (lock nilD m0_a fun t30 =>
 (lock fieldAddrD Go.Proofs.Try.prog 70 t30 1 fun t31 =>
 (lock loadD Go.Proofs.Try.prog σ2 22 t31 fun t32 =>
 (lock indexAddrD Go.Proofs.Try.prog 22 t32 i1_a fun t34 =>
 (lock loadD Go.Proofs.Try.prog σ2 3 t34 fun t35 =>
 (lock nilD m0_a fun t37 =>
 (lock fieldAddrD Go.Proofs.Try.prog 70 t37 0 fun t38 =>
 (lock loadD Go.Proofs.Try.prog σ2 22 t38 fun t39 =>
 (lock indexAddrD Go.Proofs.Try.prog 22 t39 i1_a fun t41 =>
 (lock loadD Go.Proofs.Try.prog σ2 3 t41 fun t42 =>
 (lock binD Go.Proofs.Try.prog .eql 3 t35 t42 fun t43 =>
 (condD t43
 (lock nilD m0_a fun t45 =>
 (lock fieldAddrD Go.Proofs.Try.prog 70 t45 2 fun t46 =>
 (lock loadD Go.Proofs.Try.prog σ2 22 t46 fun t47 =>
 (lock indexAddrD Go.Proofs.Try.prog 22 t47 i1_a fun t49 =>
 (lock storeD Go.Proofs.Try.prog σ2 3 t49 (.pv (.int .i64 1)) fun σ3 =>
 (J56_5 env  (m0_a) (i1_a) (t4) σ3 K X))))))
 (J56_5 env  (m0_a) (i1_a) (t4) σ2 K X)))))))))))))))))))))
 (lock nilD m0_a fun t64 =>
 (lock fieldAddrD Go.Proofs.Try.prog 70 t64 2 fun t65 =>
 (lock loadD Go.Proofs.Try.prog σ1 22 t65 fun t66 =>
 (lock indexAddrD Go.Proofs.Try.prog 22 t66 i1_a fun t68 =>
 (lock storeD Go.Proofs.Try.prog σ1 3 t68 (.pv (.int .i64 0)) fun σ6 =>
 (lock nilD m0_a fun t71 =>
 (lock fieldAddrD Go.Proofs.Try.prog 70 t71 4 fun t72 =>
 (lock loadD Go.Proofs.Try.prog σ6 22 t72 fun t73 =>
 (lock buildSliceD Go.Proofs.Try.prog false σ6 22 1 1 [(0, i1_a)] fun t75 σ7 =>
 (lock appendD Go.Proofs.Try.prog false σ7 22 t73 t75 fun t76 σ8 =>
 (lock nilD m0_a fun t77 =>
 (lock fieldAddrD Go.Proofs.Try.prog 70 t77 4 fun t78 =>
 (lock storeD Go.Proofs.Try.prog σ8 22 t78 t76 fun σ9 =>
 (lock nilD m0_a fun t80 =>
 (lock fieldAddrD Go.Proofs.Try.prog 70 t80 7 fun t81 =>
 (lock loadD Go.Proofs.Try.prog σ9 3 t81 fun t82 =>
 (lock binD Go.Proofs.Try.prog .add 3 t82 (.pv (.int .i64 1)) fun t83 =>
 (lock nilD m0_a fun t84 =>
 (lock fieldAddrD Go.Proofs.Try.prog 70 t84 7 fun t85 =>
 (lock storeD Go.Proofs.Try.prog σ9 3 t85 t83 fun σ10 =>
 (env 46 [m0_a, i1_a] σ10 (fun t88 σ11 =>
 (env 58 [m0_a] σ11 (fun t90 σ12 =>
 (lock buildD Go.Proofs.Try.prog 42 [(0, (.pv (.str [115, 101, 110, 100]))), (1, i1_a)] fun t92 =>
 (lock storeD Go.Proofs.Try.prog σ12 42 t4 t92 fun σ13 =>
 (lock loadD Go.Proofs.Try.prog σ13 42 t4 fun r0 =>
 (retV (r0) σ13 K))))) (panV X))) (panV X)))))))))))))))))))))))))))))))))))
theorem S56_eq (env : Env) (m0_a i1_a : AV) (σ : AS) (K : AV → AS → Prop) (X : PV → AS → Prop) : S56 env m0_a i1_a σ K X = bodyD Go.Proofs.Try.prog env an56 Go.Proofs.Try.f56 [m0_a, i1_a] σ K X := by
  unfold S56
  kernel_rfl
theorem S56_ok : (match Go.Proofs.Try.f56.body with | some c => okCode an56 Go.Proofs.Try.prog Go.Proofs.Try.f56.ntmps c | none => false) = true := by kernel_rfl
/-! ### (*tedder/sched.machine).step (function 47) -/
def an47 : An := { mu := [72], cut := [(5, [0, 1, 4, 5, 6, 7]), (7, [0, 1, 4, 5, 6, 7]), (11, [0, 4, 53])], loop := [] }
def J47_11 (env : Env)  (m0_j11 t4_j11 t53_j11 : AV) (σ : AS) (K : AV → AS → Prop) (X : PV → AS → Prop) : Prop :=
 (condD t53_j11
 (lock nilD m0_j11 fun t62 =>
 (lock fieldAddrD Go.Proofs.Try.prog 70 t62 4 fun t63 =>
 (lock loadD Go.Proofs.Try.prog σ 22 t63 fun t64 =>
 (lock indexAddrD Go.Proofs.Try.prog 22 t64 (.pv (.int .i64 0)) fun t65 =>
 (lock loadD Go.Proofs.Try.prog σ 3 t65 fun t66 =>
 (lock nilD m0_j11 fun t69 =>
 (lock fieldAddrD Go.Proofs.Try.prog 70 t69 4 fun t70 =>
 (lock loadD Go.Proofs.Try.prog σ 22 t70 fun t71 =>
 (lock takeOverD Go.Proofs.Try.prog σ 22 t71 (some (.pv (.int .i64 1))) none fun t72 σ5 =>
 (lock nilD m0_j11 fun t73 =>
 (lock fieldAddrD Go.Proofs.Try.prog 70 t73 4 fun t74 =>
 (lock storeD Go.Proofs.Try.prog σ5 22 t74 t72 fun σ6 =>
 (lock nilD m0_j11 fun t76 =>
 (lock fieldAddrD Go.Proofs.Try.prog 70 t76 3 fun t77 =>
 (lock loadD Go.Proofs.Try.prog σ6 66 t77 fun t78 =>
 (lock indexAddrD Go.Proofs.Try.prog 66 t78 t66 fun t80 =>
 (lock storeD Go.Proofs.Try.prog σ6 4 t80 (.pv (.bool true)) fun σ7 =>
 (env 58 [m0_j11] σ7 (fun t82 σ8 =>
 (lock buildD Go.Proofs.Try.prog 42 [(0, (.pv (.str [116, 97, 107, 101]))), (1, t66)] fun t84 =>
 (lock storeD Go.Proofs.Try.prog σ8 42 t4_j11 t84 fun σ9 =>
 (lock loadD Go.Proofs.Try.prog σ9 42 t4_j11 fun r0 =>
 (retV (r0) σ9 K))))) (panV X)))))))))))))))))))
 (lock nilD m0_j11 fun t86 =>
 (lock fieldAddrD Go.Proofs.Try.prog 70 t86 7 fun t87 =>
 (lock loadD Go.Proofs.Try.prog σ 3 t87 fun t88 =>
 (lock binD Go.Proofs.Try.prog .sub 3 t88 (.pv (.int .i64 1)) fun t89 =>
 (lock nilD m0_j11 fun t90 =>
 (lock fieldAddrD Go.Proofs.Try.prog 70 t90 7 fun t91 =>
 (lock storeD Go.Proofs.Try.prog σ 3 t91 t89 fun σ10 =>
 (lock nilD m0_j11 fun t93 =>
 (lock fieldAddrD Go.Proofs.Try.prog 70 t93 6 fun t94 =>
 (lock loadD Go.Proofs.Try.prog σ10 3 t94 fun t95 =>
 (lock binD Go.Proofs.Try.prog .add 3 t95 (.pv (.int .i64 1)) fun t96 =>
 (lock nilD m0_j11 fun t97 =>
 (lock fieldAddrD Go.Proofs.Try.prog 70 t97 6 fun t98 =>
 (lock storeD Go.Proofs.Try.prog σ10 3 t98 t96 fun σ11 =>
 (lock nilD m0_j11 fun t100 =>
 (lock fieldAddrD Go.Proofs.Try.prog 70 t100 6 fun t101 =>
 (lock loadD Go.Proofs.Try.prog σ11 3 t101 fun t102 =>
 (lock binD Go.Proofs.Try.prog .sub 3 t102 (.pv (.int .i64 1)) fun t103 =>
 (lock buildD Go.Proofs.Try.prog 42 [(0, (.pv (.str [102, 108, 117, 115, 104]))), (1, t103)] fun t104 =>
 (lock storeD Go.Proofs.Try.prog σ11 42 t4_j11 t104 fun σ12 =>
 (lock loadD Go.Proofs.Try.prog σ12 42 t4_j11 fun r0 =>
 (retV (r0) σ12 K)))))))))))))))))))))))
theorem J47_11_eq (env : Env)  (m0_j11 t4_j11 t53_j11 : AV) (σ : AS) (K : AV → AS → Prop) (X : PV → AS → Prop) : J47_11 env  m0_j11 t4_j11 t53_j11 σ K X = wpD Go.Proofs.Try.prog env an47 (subC (bodyC Go.Proofs.Try.f47) [1, 1, 1, 1, 1, 0, 1, 0, 1, 1, 1]) (contQ Go.Proofs.Try.prog env an47 (bodyC Go.Proofs.Try.f47) [1, 1, 1, 1, 1, 0, 1, 0, 1, 1, 1] [] (rootQ Go.Proofs.Try.prog Go.Proofs.Try.f47 K X)) [(0, m0_j11), (4, t4_j11), (53, t53_j11)] σ := by
  unfold J47_11
  kernel_rfl
def J47_7 (env : Env)  (m0_j7 pick1_j7 t4_j7 workers5_j7 take6_j7 flush7_j7 : AV) (σ : AS) (K : AV → AS → Prop) (X : PV → AS → Prop) : Prop :=
 (lock binD Go.Proofs.Try.prog .add 3 workers5_j7 take6_j7 fun t37 =>
 (lock binD Go.Proofs.Try.prog .add 3 t37 flush7_j7 fun t39 =>
 (lock binD Go.Proofs.Try.prog .rem 3 pick1_j7 t39 fun t40 =>
 (lock binD Go.Proofs.Try.prog .lss 3 t40 workers5_j7 fun t44 =>
 (condD t44
 (lock nilD m0_j7 fun t47 =>
 (lock fieldAddrD Go.Proofs.Try.prog 70 t47 8 fun t48 =>
 (lock loadD Go.Proofs.Try.prog σ 67 t48 fun t49 =>
 (env 57 [t49, t40] σ (fun t51 σ2 =>
 (env 56 [m0_j7, t51] σ2 (fun t52 σ3 =>
 (lock storeD Go.Proofs.Try.prog σ3 42 t4_j7 t52 fun σ4 =>
 (lock loadD Go.Proofs.Try.prog σ4 42 t4_j7 fun r0 =>
 (retV (r0) σ4 K)))) (panV X))) (panV X)))))
 (lock binD Go.Proofs.Try.prog .eql 3 t40 workers5_j7 fun t56 =>
 (guardD t56 true
 (lock binD Go.Proofs.Try.prog .eql 3 take6_j7 (.pv (.int .i64 1)) fun t59 =>
 (J47_11 env  (m0_j7) (t4_j7) (t59) σ K X))
 (J47_11 env  (m0_j7) (t4_j7) (.pv (.bool false)) σ K X))))))))
theorem J47_7_eq (env : Env)  (m0_j7 pick1_j7 t4_j7 workers5_j7 take6_j7 flush7_j7 : AV) (σ : AS) (K : AV → AS → Prop) (X : PV → AS → Prop) : J47_7 env  m0_j7 pick1_j7 t4_j7 workers5_j7 take6_j7 flush7_j7 σ K X = wpD Go.Proofs.Try.prog env an47 (subC (bodyC Go.Proofs.Try.f47) [1, 1, 1, 1, 1]) (contQ Go.Proofs.Try.prog env an47 (bodyC Go.Proofs.Try.f47) [1, 1, 1, 1, 1] [] (rootQ Go.Proofs.Try.prog Go.Proofs.Try.f47 K X)) [(0, m0_j7), (1, pick1_j7), (4, t4_j7), (5, workers5_j7), (6, take6_j7), (7, flush7_j7)] σ := by
  unfold J47_7
  kernel_rfl
def J47_5 (env : Env)  (m0_j5 pick1_j5 t4_j5 workers5_j5 take6_j5 flush7_j5 : AV) (σ : AS) (K : AV → AS → Prop) (X : PV → AS → Prop) : Prop :=
 (lock nilD m0_j5 fun t25 =>
 (lock fieldAddrD Go.Proofs.Try.prog 70 t25 3 fun t26 =>
 (lock loadD Go.Proofs.Try.prog σ 66 t26 fun t27 =>
 (lock nilD m0_j5 fun t29 =>
 (lock fieldAddrD Go.Proofs.Try.prog 70 t29 6 fun t30 =>
 (lock loadD Go.Proofs.Try.prog σ 3 t30 fun t31 =>
 (lock indexAddrD Go.Proofs.Try.prog 66 t27 t31 fun t32 =>
 (lock loadD Go.Proofs.Try.prog σ 4 t32 fun t33 =>
 (condD t33
 (J47_7 env  (m0_j5) (pick1_j5) (t4_j5) (workers5_j5) (take6_j5) (.pv (.int .i64 1)) σ K X)
 (J47_7 env  (m0_j5) (pick1_j5) (t4_j5) (workers5_j5) (take6_j5) (flush7_j5) σ K X))))))))))
theorem J47_5_eq (env : Env)  (m0_j5 pick1_j5 t4_j5 workers5_j5 take6_j5 flush7_j5 : AV) (σ : AS) (K : AV → AS → Prop) (X : PV → AS → Prop) : J47_5 env  m0_j5 pick1_j5 t4_j5 workers5_j5 take6_j5 flush7_j5 σ K X = wpD Go.Proofs.Try.prog env an47 (subC (bodyC Go.Proofs.Try.f47) [1, 1, 1, 1]) (contQ Go.Proofs.Try.prog env an47 (bodyC Go.Proofs.Try.f47) [1, 1, 1, 1] [] (rootQ Go.Proofs.Try.prog Go.Proofs.Try.f47 K X)) [(0, m0_j5), (1, pick1_j5), (4, t4_j5), (5, workers5_j5), (6, take6_j5), (7, flush7_j5)] σ := by
  unfold J47_5
  kernel_rfl
def S47 (env : Env) (m0_a pick1_a : AV) (σ : AS) (K : AV → AS → Prop) (X : PV → AS → Prop) : Prop :=
 (lock allocD Go.Proofs.Try.prog σ 42 fun t4 σ1 =>
 (lock nilD m0_a fun t10 =>
 (lock fieldAddrD Go.Proofs.Try.prog 70 t10 8 fun t11 =>
 (lock loadD Go.Proofs.Try.prog σ1 67 t11 fun t12 =>
 (lock nilD t12 fun t13 =>
 (lock fieldAddrD Go.Proofs.Try.prog 79 t13 1 fun t14 =>
 (lock loadD Go.Proofs.Try.prog σ1 22 t14 fun t15 =>
 (lock indexAddrD Go.Proofs.Try.prog 22 t15 (.pv (.int .i64 1)) fun t16 =>
 (lock loadD Go.Proofs.Try.prog σ1 3 t16 fun t17 =>
 (lock nilD m0_a fun t19 =>
 (lock fieldAddrD Go.Proofs.Try.prog 70 t19 4 fun t20 =>
 (lock loadD Go.Proofs.Try.prog σ1 22 t20 fun t21 =>
 (lock lenD Go.Proofs.Try.prog 22 t21 fun t22 =>
 (lock binD Go.Proofs.Try.prog .gtr 3 t22 (.pv (.int .i64 0)) fun t23 =>
 (condD t23
 (J47_5 env  (m0_a) (pick1_a) (t4) (t17) (.pv (.int .i64 1)) (.pv (.int .i64 0)) σ1 K X)
 (J47_5 env  (m0_a) (pick1_a) (t4) (t17) (.pv (.int .i64 0)) (.pv (.int .i64 0)) σ1 K X))))))))))))))))
theorem S47_eq (env : Env) (m0_a pick1_a : AV) (σ : AS) (K : AV → AS → Prop) (X : PV → AS → Prop) : S47 env m0_a pick1_a σ K X = bodyD Go.Proofs.Try.prog env an47 Go.Proofs.Try.f47 [m0_a, pick1_a] σ K X := by
  unfold S47
  kernel_rfl
theorem S47_ok : (match Go.Proofs.Try.f47.body with | some c => okCode an47 Go.Proofs.Try.prog Go.Proofs.Try.f47.ntmps c | none => false) = true := by kernel_rfl
/-! ### tedder/sched.Plan (function 24) -/
def an24 : An := { mu := [29, 31, 33], cut := [(19, [2, 10, 11, 14, 15, 16])], loop := [(7, [2, 8, 10, 11, 39, 40, 41]), (15, [2, 10, 11, 14, 15])], any := [5] }
def J24_19 (env : Env) (I15 : Nat → List AV → AS → Prop) (m15 : Nat) (picks2_j19 k10_j19 m11_j19 out14_j19 held15_j19 pick16_j19 : AV) (σ : AS) (K : AV → AS → Prop) (X : PV → AS → Prop) : Prop :=
 (env 47 [m11_j19, pick16_j19] σ (fun t83 σ13 =>
 (lock buildSliceD Go.Proofs.Try.prog false σ13 36 1 1 [(0, t83)] fun t84 σ14 =>
 (lock appendD Go.Proofs.Try.prog false σ14 36 out14_j19 t84 fun t85 σ15 =>
 (lock nilD m11_j19 fun t88 =>
 (lock fieldAddrD Go.Proofs.Try.prog 70 t88 7 fun t89 =>
 (lock loadD Go.Proofs.Try.prog σ15 3 t89 fun t90 =>
 (lock (foldD max2D) held15_j19 [t90] fun t91 =>
 (∃ m', m' < m15 ∧ I15 m' [picks2_j19, k10_j19, m11_j19, t85, t91] σ15)))))))) (panV X))
theorem J24_19_eq (env : Env) (I15 : Nat → List AV → AS → Prop) (m15 : Nat) (picks2_j19 k10_j19 m11_j19 out14_j19 held15_j19 pick16_j19 : AV) (σ : AS) (K : AV → AS → Prop) (X : PV → AS → Prop) : J24_19 env I15 m15 picks2_j19 k10_j19 m11_j19 out14_j19 held15_j19 pick16_j19 σ K X = wpD Go.Proofs.Try.prog env an24 (subC (bodyC Go.Proofs.Try.f24) [1, 1, 1, 1, 1, 1, 1, 1, 0, 0, 0, 1, 0, 1, 1]) (contQ Go.Proofs.Try.prog env an24 (bodyC Go.Proofs.Try.f24) [1, 1, 1, 1, 1, 1, 1, 1, 0, 0, 0, 1, 0, 1, 1] [(I15, m15)] (rootQ Go.Proofs.Try.prog Go.Proofs.Try.f24 K X)) [(2, picks2_j19), (10, k10_j19), (11, m11_j19), (14, out14_j19), (15, held15_j19), (16, pick16_j19)] σ := by
  unfold J24_19
  kernel_rfl
def L24_15 (env : Env) (I15 : Nat → List AV → AS → Prop) (m15 : Nat) (picks2_l15 k10_l15 m11_l15 out14_l15 held15_l15 : AV) (σ : AS) (K : AV → AS → Prop) (X : PV → AS → Prop) : Prop :=
 (lock nilD m11_l15 fun t64 =>
 (lock fieldAddrD Go.Proofs.Try.prog 70 t64 6 fun t65 =>
 (lock loadD Go.Proofs.Try.prog σ 3 t65 fun t66 =>
 (lock binD Go.Proofs.Try.prog .lss 3 t66 k10_l15 fun t68 =>
 (condD t68
 (lock lenD Go.Proofs.Try.prog 36 out14_l15 fun t70 =>
 (lock lenD Go.Proofs.Try.prog 22 picks2_l15 fun t72 =>
 (lock binD Go.Proofs.Try.prog .lss 3 t70 t72 fun t73 =>
 (condD t73
 (lock lenD Go.Proofs.Try.prog 36 out14_l15 fun t76 =>
 (lock indexAddrD Go.Proofs.Try.prog 22 picks2_l15 t76 fun t77 =>
 (lock loadD Go.Proofs.Try.prog σ 3 t77 fun t78 =>
 (lock (foldD max2D) t78 [(.pv (.int .i64 0))] fun t79 =>
 (J24_19 env I15 m15 (picks2_l15) (k10_l15) (m11_l15) (out14_l15) (held15_l15) (t79) σ K X)))))
 (J24_19 env I15 m15 (picks2_l15) (k10_l15) (m11_l15) (out14_l15) (held15_l15) (.pv (.int .i64 0)) σ K X)))))
 (retV (.tuple [out14_l15, held15_l15]) σ K))))))
theorem L24_15_eq (env : Env) (I15 : Nat → List AV → AS → Prop) (m15 : Nat) (picks2_l15 k10_l15 m11_l15 out14_l15 held15_l15 : AV) (σ : AS) (K : AV → AS → Prop) (X : PV → AS → Prop) : L24_15 env I15 m15 picks2_l15 k10_l15 m11_l15 out14_l15 held15_l15 σ K X = wpD Go.Proofs.Try.prog env an24 (subC (bodyC Go.Proofs.Try.f24) [1, 1, 1, 1, 1, 1, 1, 1, 0, 0, 0]) (contQ Go.Proofs.Try.prog env an24 (bodyC Go.Proofs.Try.f24) [1, 1, 1, 1, 1, 1, 1, 1, 0, 0, 0] [(I15, m15)] (rootQ Go.Proofs.Try.prog Go.Proofs.Try.f24 K X)) [(2, picks2_l15), (10, k10_l15), (11, m11_l15), (14, out14_l15), (15, held15_l15)] σ := by
  unfold L24_15
  kernel_rfl
theorem lp24_15 {α : Type} {env : Env}  {picks2_l15 k10_l15 m11_l15 : AV} {σ : AS} {K : AV → AS → Prop} {X : PV → AS → Prop} (μ : α → AS → Nat) (I : α → AS → Prop) (eout14_l15 eheld15_l15 : α → AV) (a0 : α) (h0 : I a0 σ)
 (h : ∀ a σ, I a σ → L24_15 env  (Inv (fun a => [picks2_l15, k10_l15, m11_l15, eout14_l15 a, eheld15_l15 a]) μ I) (μ a σ) picks2_l15 k10_l15 m11_l15 (eout14_l15 a) (eheld15_l15 a) σ K X) :
 ∃ I15 : Nat → List AV → AS → Prop, (∃ m, I15 m [picks2_l15, k10_l15, m11_l15, eout14_l15 a0, eheld15_l15 a0] σ) ∧ ∀ (m : Nat) (x0 x1 x2 x3 x4 : AV), ∀ σ, I15 m [x0, x1, x2, x3, x4] σ →
 L24_15 env  I15 m x0 x1 x2 x3 x4 σ K X := by
  refine ⟨Inv (fun a => [picks2_l15, k10_l15, m11_l15, eout14_l15 a, eheld15_l15 a]) μ I, ⟨_, a0, rfl, rfl, h0⟩, ?_⟩
  rintro m x0 x1 x2 x3 x4 σ' ⟨a, hv, rfl, hI⟩
  simp only [List.cons.injEq, and_true] at hv
  obtain ⟨rfl, rfl, rfl, rfl, rfl⟩ := hv
  exact h a σ' hI
def L24_7 (env : Env) (I7 : Nat → List AV → AS → Prop) (m7 : Nat) (picks2_l7 n8_l7 k10_l7 m11_l7 t39_l7 t40_l7 t41_l7 : AV) (σ : AS) (K : AV → AS → Prop) (X : PV → AS → Prop) : Prop :=
 (lock binD Go.Proofs.Try.prog .lss 3 t41_l7 t40_l7 fun t42 =>
 (condD t42
 (lock indexAddrD Go.Proofs.Try.prog 22 t39_l7 t41_l7 fun t44 =>
 (lock loadD Go.Proofs.Try.prog σ 3 t44 fun t45 =>
 (lock binD Go.Proofs.Try.prog .eql 3 t45 (.pv (.int .i64 0)) fun t47 =>
 (condD t47
 (lock nilD m11_l7 fun t49 =>
 (lock fieldAddrD Go.Proofs.Try.prog 70 t49 2 fun t50 =>
 (lock loadD Go.Proofs.Try.prog σ 22 t50 fun t51 =>
 (lock indexAddrD Go.Proofs.Try.prog 22 t51 t41_l7 fun t53 =>
 (lock storeD Go.Proofs.Try.prog σ 3 t53 (.pv (.int .i64 1)) fun σ8 =>
 (env 46 [m11_l7, t41_l7] σ8 (fun t56 σ9 =>
 (lock binD Go.Proofs.Try.prog .add 3 t41_l7 (.pv (.int .i64 1)) fun t57 =>
 (∃ m', m' < m7 ∧ I7 m' [picks2_l7, n8_l7, k10_l7, m11_l7, t39_l7, t40_l7, t57] σ9))) (panV X)))))))
 (env 46 [m11_l7, t41_l7] σ (fun t56 σ10 =>
 (lock binD Go.Proofs.Try.prog .add 3 t41_l7 (.pv (.int .i64 1)) fun t57 =>
 (∃ m', m' < m7 ∧ I7 m' [picks2_l7, n8_l7, k10_l7, m11_l7, t39_l7, t40_l7, t57] σ10))) (panV X))))))
 (lock binD Go.Proofs.Try.prog .mul 3 (.pv (.int .i64 3)) k10_l7 fun t60 =>
 (lock binD Go.Proofs.Try.prog .add 3 n8_l7 t60 fun t61 =>
 (lock makeSliceD Go.Proofs.Try.prog false σ 36 (.pv (.int .i64 0)) t61 fun t62 σ11 =>
 (∃ I15 : Nat → List AV → AS → Prop, (∃ m, I15 m [picks2_l7, k10_l7, m11_l7, t62, (.pv (.int .i64 0))] σ11) ∧ ∀ (m15 : Nat) (picks2_l15 k10_l15 m11_l15 out14_l15 held15_l15 : AV), ∀ σ12, I15 m15 [picks2_l15, k10_l15, m11_l15, out14_l15, held15_l15] σ12 →
 (L24_15 env I15 m15 picks2_l15 k10_l15 m11_l15 out14_l15 held15_l15 σ12 K X)))))))
theorem L24_7_eq (env : Env) (I7 : Nat → List AV → AS → Prop) (m7 : Nat) (picks2_l7 n8_l7 k10_l7 m11_l7 t39_l7 t40_l7 t41_l7 : AV) (σ : AS) (K : AV → AS → Prop) (X : PV → AS → Prop) : L24_7 env I7 m7 picks2_l7 n8_l7 k10_l7 m11_l7 t39_l7 t40_l7 t41_l7 σ K X = wpD Go.Proofs.Try.prog env an24 (subC (bodyC Go.Proofs.Try.f24) [1, 1, 1, 1, 1, 0, 1, 0, 0]) (contQ Go.Proofs.Try.prog env an24 (bodyC Go.Proofs.Try.f24) [1, 1, 1, 1, 1, 0, 1, 0, 0] [(I7, m7)] (rootQ Go.Proofs.Try.prog Go.Proofs.Try.f24 K X)) [(2, picks2_l7), (8, n8_l7), (10, k10_l7), (11, m11_l7), (39, t39_l7), (40, t40_l7), (41, t41_l7)] σ := by
  unfold L24_7
  simp only [L24_15_eq]
  kernel_rfl
theorem lp24_7 {α : Type} {env : Env}  {picks2_l7 n8_l7 k10_l7 m11_l7 t39_l7 t40_l7 : AV} {σ : AS} {K : AV → AS → Prop} {X : PV → AS → Prop} (μ : α → AS → Nat) (I : α → AS → Prop) (et41_l7 : α → AV) (a0 : α) (h0 : I a0 σ)
 (h : ∀ a σ, I a σ → L24_7 env  (Inv (fun a => [picks2_l7, n8_l7, k10_l7, m11_l7, t39_l7, t40_l7, et41_l7 a]) μ I) (μ a σ) picks2_l7 n8_l7 k10_l7 m11_l7 t39_l7 t40_l7 (et41_l7 a) σ K X) :
 ∃ I7 : Nat → List AV → AS → Prop, (∃ m, I7 m [picks2_l7, n8_l7, k10_l7, m11_l7, t39_l7, t40_l7, et41_l7 a0] σ) ∧ ∀ (m : Nat) (x0 x1 x2 x3 x4 x5 x6 : AV), ∀ σ, I7 m [x0, x1, x2, x3, x4, x5, x6] σ →
 L24_7 env  I7 m x0 x1 x2 x3 x4 x5 x6 σ K X := by
  refine ⟨Inv (fun a => [picks2_l7, n8_l7, k10_l7, m11_l7, t39_l7, t40_l7, et41_l7 a]) μ I, ⟨_, a0, rfl, rfl, h0⟩, ?_⟩
  rintro m x0 x1 x2 x3 x4 x5 x6 σ' ⟨a, hv, rfl, hI⟩
  simp only [List.cons.injEq, and_true] at hv
  obtain ⟨rfl, rfl, rfl, rfl, rfl, rfl, rfl⟩ := hv
  exact h a σ' hI
def S24 (env : Env) (counts0_a room1_a picks2_a : AV) (σ : AS) (K : AV → AS → Prop) (X : PV → AS → Prop) : Prop :=
 (env 44 [counts0_a, room1_a] σ (fun t20 σ1 =>
 (lock extractD t20 0 fun t21 =>
 (lock extractD t20 1 fun t22 =>
 (unD .not t22 fun t24 =>
 (condD t24
 (retV (.tuple [(.nilS), (.pv (.int .i64 0))]) σ1 K)
 (lock lenD Go.Proofs.Try.prog 22 counts0_a fun t26 =>
 ((lock makeSliceD Go.Proofs.Try.prog true σ1 22 t26 t26 fun t29 σ94 =>
 ((lock makeSliceD Go.Proofs.Try.prog true σ94 22 t26 t26 fun t31 σ113 =>
 ((lock makeSliceD Go.Proofs.Try.prog true σ113 66 t26 t26 fun t33 σ118 =>
 ((env 45 [t26] σ118 (fun t36 σ119 =>
 ((lock buildD Go.Proofs.Try.prog 70 [(0, counts0_a), (1, t29), (2, t31), (3, t33), (5, room1_a), (8, t36), (9, (.pv (.bool true)))] fun t37 =>
 ((lock boxD σ119 t37 fun t38 σ120 =>
 (lock lenD Go.Proofs.Try.prog 22 counts0_a fun t40 =>
 (∃ I7 : Nat → List AV → AS → Prop, (∃ m, I7 m [picks2_a, t21, t26, t38, counts0_a, t40, (.pv (.int .i64 0))] σ120) ∧ ∀ (m7 : Nat) (picks2_l7 n8_l7 k10_l7 m11_l7 t39_l7 t40_l7 t41_l7 : AV), ∀ σ121, I7 m7 [picks2_l7, n8_l7, k10_l7, m11_l7, t39_l7, t40_l7, t41_l7] σ121 →
 (L24_7 env I7 m7 picks2_l7 n8_l7 k10_l7 m11_l7 t39_l7 t40_l7 t41_l7 σ121 K X)))) ∧ True)) ∧ True)) (panV X)) ∧ True)) ∧ ((env 45 [t26] σ113 (fun t36 σ114 =>
 ((lock makeSliceD Go.Proofs.Try.prog true σ114 66 t26 t26 fun t33 σ115 =>
 ((lock buildD Go.Proofs.Try.prog 70 [(0, counts0_a), (1, t29), (2, t31), (3, t33), (5, room1_a), (8, t36), (9, (.pv (.bool true)))] fun t37 =>
 ((lock boxD σ115 t37 fun t38 σ116 =>
 (lock lenD Go.Proofs.Try.prog 22 counts0_a fun t40 =>
 (∃ I7 : Nat → List AV → AS → Prop, (∃ m, I7 m [picks2_a, t21, t26, t38, counts0_a, t40, (.pv (.int .i64 0))] σ116) ∧ ∀ (m7 : Nat) (picks2_l7 n8_l7 k10_l7 m11_l7 t39_l7 t40_l7 t41_l7 : AV), ∀ σ117, I7 m7 [picks2_l7, n8_l7, k10_l7, m11_l7, t39_l7, t40_l7, t41_l7] σ117 →
 (L24_7 env I7 m7 picks2_l7 n8_l7 k10_l7 m11_l7 t39_l7 t40_l7 t41_l7 σ117 K X)))) ∧ True)) ∧ True)) ∧ True)) (panV X)) ∧ True))) ∧ ((lock makeSliceD Go.Proofs.Try.prog true σ94 66 t26 t26 fun t33 σ104 =>
 ((lock makeSliceD Go.Proofs.Try.prog true σ104 22 t26 t26 fun t31 σ109 =>
 ((env 45 [t26] σ109 (fun t36 σ110 =>
 ((lock buildD Go.Proofs.Try.prog 70 [(0, counts0_a), (1, t29), (2, t31), (3, t33), (5, room1_a), (8, t36), (9, (.pv (.bool true)))] fun t37 =>
 ((lock boxD σ110 t37 fun t38 σ111 =>
 (lock lenD Go.Proofs.Try.prog 22 counts0_a fun t40 =>
 (∃ I7 : Nat → List AV → AS → Prop, (∃ m, I7 m [picks2_a, t21, t26, t38, counts0_a, t40, (.pv (.int .i64 0))] σ111) ∧ ∀ (m7 : Nat) (picks2_l7 n8_l7 k10_l7 m11_l7 t39_l7 t40_l7 t41_l7 : AV), ∀ σ112, I7 m7 [picks2_l7, n8_l7, k10_l7, m11_l7, t39_l7, t40_l7, t41_l7] σ112 →
 (L24_7 env I7 m7 picks2_l7 n8_l7 k10_l7 m11_l7 t39_l7 t40_l7 t41_l7 σ112 K X)))) ∧ True)) ∧ True)) (panV X)) ∧ True)) ∧ ((env 45 [t26] σ104 (fun t36 σ105 =>
 ((lock makeSliceD Go.Proofs.Try.prog true σ105 22 t26 t26 fun t31 σ106 =>
 ((lock buildD Go.Proofs.Try.prog 70 [(0, counts0_a), (1, t29), (2, t31), (3, t33), (5, room1_a), (8, t36), (9, (.pv (.bool true)))] fun t37 =>
 ((lock boxD σ106 t37 fun t38 σ107 =>
 (lock lenD Go.Proofs.Try.prog 22 counts0_a fun t40 =>
 (∃ I7 : Nat → List AV → AS → Prop, (∃ m, I7 m [picks2_a, t21, t26, t38, counts0_a, t40, (.pv (.int .i64 0))] σ107) ∧ ∀ (m7 : Nat) (picks2_l7 n8_l7 k10_l7 m11_l7 t39_l7 t40_l7 t41_l7 : AV), ∀ σ108, I7 m7 [picks2_l7, n8_l7, k10_l7, m11_l7, t39_l7, t40_l7, t41_l7] σ108 →
 (L24_7 env I7 m7 picks2_l7 n8_l7 k10_l7 m11_l7 t39_l7 t40_l7 t41_l7 σ108 K X)))) ∧ True)) ∧ True)) ∧ True)) (panV X)) ∧ True))) ∧ ((env 45 [t26] σ94 (fun t36 σ95 =>
 ((lock makeSliceD Go.Proofs.Try.prog true σ95 22 t26 t26 fun t31 σ100 =>
 ((lock makeSliceD Go.Proofs.Try.prog true σ100 66 t26 t26 fun t33 σ101 =>
 ((lock buildD Go.Proofs.Try.prog 70 [(0, counts0_a), (1, t29), (2, t31), (3, t33), (5, room1_a), (8, t36), (9, (.pv (.bool true)))] fun t37 =>
 ((lock boxD σ101 t37 fun t38 σ102 =>
 (lock lenD Go.Proofs.Try.prog 22 counts0_a fun t40 =>
 (∃ I7 : Nat → List AV → AS → Prop, (∃ m, I7 m [picks2_a, t21, t26, t38, counts0_a, t40, (.pv (.int .i64 0))] σ102) ∧ ∀ (m7 : Nat) (picks2_l7 n8_l7 k10_l7 m11_l7 t39_l7 t40_l7 t41_l7 : AV), ∀ σ103, I7 m7 [picks2_l7, n8_l7, k10_l7, m11_l7, t39_l7, t40_l7, t41_l7] σ103 →
 (L24_7 env I7 m7 picks2_l7 n8_l7 k10_l7 m11_l7 t39_l7 t40_l7 t41_l7 σ103 K X)))) ∧ True)) ∧ True)) ∧ True)) ∧ ((lock makeSliceD Go.Proofs.Try.prog true σ95 66 t26 t26 fun t33 σ96 =>
 ((lock makeSliceD Go.Proofs.Try.prog true σ96 22 t26 t26 fun t31 σ97 =>
 ((lock buildD Go.Proofs.Try.prog 70 [(0, counts0_a), (1, t29), (2, t31), (3, t33), (5, room1_a), (8, t36), (9, (.pv (.bool true)))] fun t37 =>
 ((lock boxD σ97 t37 fun t38 σ98 =>
 (lock lenD Go.Proofs.Try.prog 22 counts0_a fun t40 =>
 (∃ I7 : Nat → List AV → AS → Prop, (∃ m, I7 m [picks2_a, t21, t26, t38, counts0_a, t40, (.pv (.int .i64 0))] σ98) ∧ ∀ (m7 : Nat) (picks2_l7 n8_l7 k10_l7 m11_l7 t39_l7 t40_l7 t41_l7 : AV), ∀ σ99, I7 m7 [picks2_l7, n8_l7, k10_l7, m11_l7, t39_l7, t40_l7, t41_l7] σ99 →
 (L24_7 env I7 m7 picks2_l7 n8_l7 k10_l7 m11_l7 t39_l7 t40_l7 t41_l7 σ99 K X)))) ∧ True)) ∧ True)) ∧ True)) ∧ True))) (panV X)) ∧ True)))) ∧ ((lock makeSliceD Go.Proofs.Try.prog true σ1 22 t26 t26 fun t31 σ66 =>
 ((lock makeSliceD Go.Proofs.Try.prog true σ66 22 t26 t26 fun t29 σ85 =>
 ((lock makeSliceD Go.Proofs.Try.prog true σ85 66 t26 t26 fun t33 σ90 =>
 ((env 45 [t26] σ90 (fun t36 σ91 =>
 ((lock buildD Go.Proofs.Try.prog 70 [(0, counts0_a), (1, t29), (2, t31), (3, t33), (5, room1_a), (8, t36), (9, (.pv (.bool true)))] fun t37 =>
 ((lock boxD σ91 t37 fun t38 σ92 =>
 (lock lenD Go.Proofs.Try.prog 22 counts0_a fun t40 =>
 (∃ I7 : Nat → List AV → AS → Prop, (∃ m, I7 m [picks2_a, t21, t26, t38, counts0_a, t40, (.pv (.int .i64 0))] σ92) ∧ ∀ (m7 : Nat) (picks2_l7 n8_l7 k10_l7 m11_l7 t39_l7 t40_l7 t41_l7 : AV), ∀ σ93, I7 m7 [picks2_l7, n8_l7, k10_l7, m11_l7, t39_l7, t40_l7, t41_l7] σ93 →
 (L24_7 env I7 m7 picks2_l7 n8_l7 k10_l7 m11_l7 t39_l7 t40_l7 t41_l7 σ93 K X)))) ∧ True)) ∧ True)) (panV X)) ∧ True)) ∧ ((env 45 [t26] σ85 (fun t36 σ86 =>
 ((lock makeSliceD Go.Proofs.Try.prog true σ86 66 t26 t26 fun t33 σ87 =>
 ((lock buildD Go.Proofs.Try.prog 70 [(0, counts0_a), (1, t29), (2, t31), (3, t33), (5, room1_a), (8, t36), (9, (.pv (.bool true)))] fun t37 =>
 ((lock boxD σ87 t37 fun t38 σ88 =>
 (lock lenD Go.Proofs.Try.prog 22 counts0_a fun t40 =>
 (∃ I7 : Nat → List AV → AS → Prop, (∃ m, I7 m [picks2_a, t21, t26, t38, counts0_a, t40, (.pv (.int .i64 0))] σ88) ∧ ∀ (m7 : Nat) (picks2_l7 n8_l7 k10_l7 m11_l7 t39_l7 t40_l7 t41_l7 : AV), ∀ σ89, I7 m7 [picks2_l7, n8_l7, k10_l7, m11_l7, t39_l7, t40_l7, t41_l7] σ89 →
 (L24_7 env I7 m7 picks2_l7 n8_l7 k10_l7 m11_l7 t39_l7 t40_l7 t41_l7 σ89 K X)))) ∧ True)) ∧ True)) ∧ True)) (panV X)) ∧ True))) ∧ ((lock makeSliceD Go.Proofs.Try.prog true σ66 66 t26 t26 fun t33 σ76 =>
 ((lock makeSliceD Go.Proofs.Try.prog true σ76 22 t26 t26 fun t29 σ81 =>
 ((env 45 [t26] σ81 (fun t36 σ82 =>
 ((lock buildD Go.Proofs.Try.prog 70 [(0, counts0_a), (1, t29), (2, t31), (3, t33), (5, room1_a), (8, t36), (9, (.pv (.bool true)))] fun t37 =>
 ((lock boxD σ82 t37 fun t38 σ83 =>
 (lock lenD Go.Proofs.Try.prog 22 counts0_a fun t40 =>
 (∃ I7 : Nat → List AV → AS → Prop, (∃ m, I7 m [picks2_a, t21, t26, t38, counts0_a, t40, (.pv (.int .i64 0))] σ83) ∧ ∀ (m7 : Nat) (picks2_l7 n8_l7 k10_l7 m11_l7 t39_l7 t40_l7 t41_l7 : AV), ∀ σ84, I7 m7 [picks2_l7, n8_l7, k10_l7, m11_l7, t39_l7, t40_l7, t41_l7] σ84 →
 (L24_7 env I7 m7 picks2_l7 n8_l7 k10_l7 m11_l7 t39_l7 t40_l7 t41_l7 σ84 K X)))) ∧ True)) ∧ True)) (panV X)) ∧ True)) ∧ ((env 45 [t26] σ76 (fun t36 σ77 =>
 ((lock makeSliceD Go.Proofs.Try.prog true σ77 22 t26 t26 fun t29 σ78 =>
 ((lock buildD Go.Proofs.Try.prog 70 [(0, counts0_a), (1, t29), (2, t31), (3, t33), (5, room1_a), (8, t36), (9, (.pv (.bool true)))] fun t37 =>
 ((lock boxD σ78 t37 fun t38 σ79 =>
 (lock lenD Go.Proofs.Try.prog 22 counts0_a fun t40 =>
 (∃ I7 : Nat → List AV → AS → Prop, (∃ m, I7 m [picks2_a, t21, t26, t38, counts0_a, t40, (.pv (.int .i64 0))] σ79) ∧ ∀ (m7 : Nat) (picks2_l7 n8_l7 k10_l7 m11_l7 t39_l7 t40_l7 t41_l7 : AV), ∀ σ80, I7 m7 [picks2_l7, n8_l7, k10_l7, m11_l7, t39_l7, t40_l7, t41_l7] σ80 →
 (L24_7 env I7 m7 picks2_l7 n8_l7 k10_l7 m11_l7 t39_l7 t40_l7 t41_l7 σ80 K X)))) ∧ True)) ∧ True)) ∧ True)) (panV X)) ∧ True))) ∧ ((env 45 [t26] σ66 (fun t36 σ67 =>
 ((lock makeSliceD Go.Proofs.Try.prog true σ67 22 t26 t26 fun t29 σ72 =>
 ((lock makeSliceD Go.Proofs.Try.prog true σ72 66 t26 t26 fun t33 σ73 =>
 ((lock buildD Go.Proofs.Try.prog 70 [(0, counts0_a), (1, t29), (2, t31), (3, t33), (5, room1_a), (8, t36), (9, (.pv (.bool true)))] fun t37 =>
 ((lock boxD σ73 t37 fun t38 σ74 =>
 (lock lenD Go.Proofs.Try.prog 22 counts0_a fun t40 =>
 (∃ I7 : Nat → List AV → AS → Prop, (∃ m, I7 m [picks2_a, t21, t26, t38, counts0_a, t40, (.pv (.int .i64 0))] σ74) ∧ ∀ (m7 : Nat) (picks2_l7 n8_l7 k10_l7 m11_l7 t39_l7 t40_l7 t41_l7 : AV), ∀ σ75, I7 m7 [picks2_l7, n8_l7, k10_l7, m11_l7, t39_l7, t40_l7, t41_l7] σ75 →
 (L24_7 env I7 m7 picks2_l7 n8_l7 k10_l7 m11_l7 t39_l7 t40_l7 t41_l7 σ75 K X)))) ∧ True)) ∧ True)) ∧ True)) ∧ ((lock makeSliceD Go.Proofs.Try.prog true σ67 66 t26 t26 fun t33 σ68 =>
 ((lock makeSliceD Go.Proofs.Try.prog true σ68 22 t26 t26 fun t29 σ69 =>
 ((lock buildD Go.Proofs.Try.prog 70 [(0, counts0_a), (1, t29), (2, t31), (3, t33), (5, room1_a), (8, t36), (9, (.pv (.bool true)))] fun t37 =>
 ((lock boxD σ69 t37 fun t38 σ70 =>
 (lock lenD Go.Proofs.Try.prog 22 counts0_a fun t40 =>
 (∃ I7 : Nat → List AV → AS → Prop, (∃ m, I7 m [picks2_a, t21, t26, t38, counts0_a, t40, (.pv (.int .i64 0))] σ70) ∧ ∀ (m7 : Nat) (picks2_l7 n8_l7 k10_l7 m11_l7 t39_l7 t40_l7 t41_l7 : AV), ∀ σ71, I7 m7 [picks2_l7, n8_l7, k10_l7, m11_l7, t39_l7, t40_l7, t41_l7] σ71 →
 (L24_7 env I7 m7 picks2_l7 n8_l7 k10_l7 m11_l7 t39_l7 t40_l7 t41_l7 σ71 K X)))) ∧ True)) ∧ True)) ∧ True)) ∧ True))) (panV X)) ∧ True)))) ∧ ((lock makeSliceD Go.Proofs.Try.prog true σ1 66 t26 t26 fun t33 σ38 =>
 ((lock makeSliceD Go.Proofs.Try.prog true σ38 22 t26 t26 fun t29 σ57 =>
 ((lock makeSliceD Go.Proofs.Try.prog true σ57 22 t26 t26 fun t31 σ62 =>
 ((env 45 [t26] σ62 (fun t36 σ63 =>
 ((lock buildD Go.Proofs.Try.prog 70 [(0, counts0_a), (1, t29), (2, t31), (3, t33), (5, room1_a), (8, t36), (9, (.pv (.bool true)))] fun t37 =>
 ((lock boxD σ63 t37 fun t38 σ64 =>
 (lock lenD Go.Proofs.Try.prog 22 counts0_a fun t40 =>
 (∃ I7 : Nat → List AV → AS → Prop, (∃ m, I7 m [picks2_a, t21, t26, t38, counts0_a, t40, (.pv (.int .i64 0))] σ64) ∧ ∀ (m7 : Nat) (picks2_l7 n8_l7 k10_l7 m11_l7 t39_l7 t40_l7 t41_l7 : AV), ∀ σ65, I7 m7 [picks2_l7, n8_l7, k10_l7, m11_l7, t39_l7, t40_l7, t41_l7] σ65 →
 (L24_7 env I7 m7 picks2_l7 n8_l7 k10_l7 m11_l7 t39_l7 t40_l7 t41_l7 σ65 K X)))) ∧ True)) ∧ True)) (panV X)) ∧ True)) ∧ ((env 45 [t26] σ57 (fun t36 σ58 =>
 ((lock makeSliceD Go.Proofs.Try.prog true σ58 22 t26 t26 fun t31 σ59 =>
 ((lock buildD Go.Proofs.Try.prog 70 [(0, counts0_a), (1, t29), (2, t31), (3, t33), (5, room1_a), (8, t36), (9, (.pv (.bool true)))] fun t37 =>
 ((lock boxD σ59 t37 fun t38 σ60 =>
 (lock lenD Go.Proofs.Try.prog 22 counts0_a fun t40 =>
 (∃ I7 : Nat → List AV → AS → Prop, (∃ m, I7 m [picks2_a, t21, t26, t38, counts0_a, t40, (.pv (.int .i64 0))] σ60) ∧ ∀ (m7 : Nat) (picks2_l7 n8_l7 k10_l7 m11_l7 t39_l7 t40_l7 t41_l7 : AV), ∀ σ61, I7 m7 [picks2_l7, n8_l7, k10_l7, m11_l7, t39_l7, t40_l7, t41_l7] σ61 →
 (L24_7 env I7 m7 picks2_l7 n8_l7 k10_l7 m11_l7 t39_l7 t40_l7 t41_l7 σ61 K X)))) ∧ True)) ∧ True)) ∧ True)) (panV X)) ∧ True))) ∧ ((lock makeSliceD Go.Proofs.Try.prog true σ38 22 t26 t26 fun t31 σ48 =>
 ((lock makeSliceD Go.Proofs.Try.prog true σ48 22 t26 t26 fun t29 σ53 =>
 ((env 45 [t26] σ53 (fun t36 σ54 =>
 ((lock buildD Go.Proofs.Try.prog 70 [(0, counts0_a), (1, t29), (2, t31), (3, t33), (5, room1_a), (8, t36), (9, (.pv (.bool true)))] fun t37 =>
 ((lock boxD σ54 t37 fun t38 σ55 =>
 (lock lenD Go.Proofs.Try.prog 22 counts0_a fun t40 =>
 (∃ I7 : Nat → List AV → AS → Prop, (∃ m, I7 m [picks2_a, t21, t26, t38, counts0_a, t40, (.pv (.int .i64 0))] σ55) ∧ ∀ (m7 : Nat) (picks2_l7 n8_l7 k10_l7 m11_l7 t39_l7 t40_l7 t41_l7 : AV), ∀ σ56, I7 m7 [picks2_l7, n8_l7, k10_l7, m11_l7, t39_l7, t40_l7, t41_l7] σ56 →
 (L24_7 env I7 m7 picks2_l7 n8_l7 k10_l7 m11_l7 t39_l7 t40_l7 t41_l7 σ56 K X)))) ∧ True)) ∧ True)) (panV X)) ∧ True)) ∧ ((env 45 [t26] σ48 (fun t36 σ49 =>
 ((lock makeSliceD Go.Proofs.Try.prog true σ49 22 t26 t26 fun t29 σ50 =>
 ((lock buildD Go.Proofs.Try.prog 70 [(0, counts0_a), (1, t29), (2, t31), (3, t33), (5, room1_a), (8, t36), (9, (.pv (.bool true)))] fun t37 =>
 ((lock boxD σ50 t37 fun t38 σ51 =>
 (lock lenD Go.Proofs.Try.prog 22 counts0_a fun t40 =>
 (∃ I7 : Nat → List AV → AS → Prop, (∃ m, I7 m [picks2_a, t21, t26, t38, counts0_a, t40, (.pv (.int .i64 0))] σ51) ∧ ∀ (m7 : Nat) (picks2_l7 n8_l7 k10_l7 m11_l7 t39_l7 t40_l7 t41_l7 : AV), ∀ σ52, I7 m7 [picks2_l7, n8_l7, k10_l7, m11_l7, t39_l7, t40_l7, t41_l7] σ52 →
 (L24_7 env I7 m7 picks2_l7 n8_l7 k10_l7 m11_l7 t39_l7 t40_l7 t41_l7 σ52 K X)))) ∧ True)) ∧ True)) ∧ True)) (panV X)) ∧ True))) ∧ ((env 45 [t26] σ38 (fun t36 σ39 =>
 ((lock makeSliceD Go.Proofs.Try.prog true σ39 22 t26 t26 fun t29 σ44 =>
 ((lock makeSliceD Go.Proofs.Try.prog true σ44 22 t26 t26 fun t31 σ45 =>
 ((lock buildD Go.Proofs.Try.prog 70 [(0, counts0_a), (1, t29), (2, t31), (3, t33), (5, room1_a), (8, t36), (9, (.pv (.bool true)))] fun t37 =>
 ((lock boxD σ45 t37 fun t38 σ46 =>
 (lock lenD Go.Proofs.Try.prog 22 counts0_a fun t40 =>
 (∃ I7 : Nat → List AV → AS → Prop, (∃ m, I7 m [picks2_a, t21, t26, t38, counts0_a, t40, (.pv (.int .i64 0))] σ46) ∧ ∀ (m7 : Nat) (picks2_l7 n8_l7 k10_l7 m11_l7 t39_l7 t40_l7 t41_l7 : AV), ∀ σ47, I7 m7 [picks2_l7, n8_l7, k10_l7, m11_l7, t39_l7, t40_l7, t41_l7] σ47 →
 (L24_7 env I7 m7 picks2_l7 n8_l7 k10_l7 m11_l7 t39_l7 t40_l7 t41_l7 σ47 K X)))) ∧ True)) ∧ True)) ∧ True)) ∧ ((lock makeSliceD Go.Proofs.Try.prog true σ39 22 t26 t26 fun t31 σ40 =>
 ((lock makeSliceD Go.Proofs.Try.prog true σ40 22 t26 t26 fun t29 σ41 =>
 ((lock buildD Go.Proofs.Try.prog 70 [(0, counts0_a), (1, t29), (2, t31), (3, t33), (5, room1_a), (8, t36), (9, (.pv (.bool true)))] fun t37 =>
 ((lock boxD σ41 t37 fun t38 σ42 =>
 (lock lenD Go.Proofs.Try.prog 22 counts0_a fun t40 =>
 (∃ I7 : Nat → List AV → AS → Prop, (∃ m, I7 m [picks2_a, t21, t26, t38, counts0_a, t40, (.pv (.int .i64 0))] σ42) ∧ ∀ (m7 : Nat) (picks2_l7 n8_l7 k10_l7 m11_l7 t39_l7 t40_l7 t41_l7 : AV), ∀ σ43, I7 m7 [picks2_l7, n8_l7, k10_l7, m11_l7, t39_l7, t40_l7, t41_l7] σ43 →
 (L24_7 env I7 m7 picks2_l7 n8_l7 k10_l7 m11_l7 t39_l7 t40_l7 t41_l7 σ43 K X)))) ∧ True)) ∧ True)) ∧ True)) ∧ True))) (panV X)) ∧ True)))) ∧ ((env 45 [t26] σ1 (fun t36 σ2 =>
 ((lock makeSliceD Go.Proofs.Try.prog true σ2 22 t26 t26 fun t29 σ29 =>
 ((lock makeSliceD Go.Proofs.Try.prog true σ29 22 t26 t26 fun t31 σ34 =>
 ((lock makeSliceD Go.Proofs.Try.prog true σ34 66 t26 t26 fun t33 σ35 =>
 ((lock buildD Go.Proofs.Try.prog 70 [(0, counts0_a), (1, t29), (2, t31), (3, t33), (5, room1_a), (8, t36), (9, (.pv (.bool true)))] fun t37 =>
 ((lock boxD σ35 t37 fun t38 σ36 =>
 (lock lenD Go.Proofs.Try.prog 22 counts0_a fun t40 =>
 (∃ I7 : Nat → List AV → AS → Prop, (∃ m, I7 m [picks2_a, t21, t26, t38, counts0_a, t40, (.pv (.int .i64 0))] σ36) ∧ ∀ (m7 : Nat) (picks2_l7 n8_l7 k10_l7 m11_l7 t39_l7 t40_l7 t41_l7 : AV), ∀ σ37, I7 m7 [picks2_l7, n8_l7, k10_l7, m11_l7, t39_l7, t40_l7, t41_l7] σ37 →
 (L24_7 env I7 m7 picks2_l7 n8_l7 k10_l7 m11_l7 t39_l7 t40_l7 t41_l7 σ37 K X)))) ∧ True)) ∧ True)) ∧ True)) ∧ ((lock makeSliceD Go.Proofs.Try.prog true σ29 66 t26 t26 fun t33 σ30 =>
 ((lock makeSliceD Go.Proofs.Try.prog true σ30 22 t26 t26 fun t31 σ31 =>
 ((lock buildD Go.Proofs.Try.prog 70 [(0, counts0_a), (1, t29), (2, t31), (3, t33), (5, room1_a), (8, t36), (9, (.pv (.bool true)))] fun t37 =>
 ((lock boxD σ31 t37 fun t38 σ32 =>
 (lock lenD Go.Proofs.Try.prog 22 counts0_a fun t40 =>
 (∃ I7 : Nat → List AV → AS → Prop, (∃ m, I7 m [picks2_a, t21, t26, t38, counts0_a, t40, (.pv (.int .i64 0))] σ32) ∧ ∀ (m7 : Nat) (picks2_l7 n8_l7 k10_l7 m11_l7 t39_l7 t40_l7 t41_l7 : AV), ∀ σ33, I7 m7 [picks2_l7, n8_l7, k10_l7, m11_l7, t39_l7, t40_l7, t41_l7] σ33 →
 (L24_7 env I7 m7 picks2_l7 n8_l7 k10_l7 m11_l7 t39_l7 t40_l7 t41_l7 σ33 K X)))) ∧ True)) ∧ True)) ∧ True)) ∧ True))) ∧ ((lock makeSliceD Go.Proofs.Try.prog true σ2 22 t26 t26 fun t31 σ20 =>
 ((lock makeSliceD Go.Proofs.Try.prog true σ20 22 t26 t26 fun t29 σ25 =>
 ((lock makeSliceD Go.Proofs.Try.prog true σ25 66 t26 t26 fun t33 σ26 =>
 ((lock buildD Go.Proofs.Try.prog 70 [(0, counts0_a), (1, t29), (2, t31), (3, t33), (5, room1_a), (8, t36), (9, (.pv (.bool true)))] fun t37 =>
 ((lock boxD σ26 t37 fun t38 σ27 =>
 (lock lenD Go.Proofs.Try.prog 22 counts0_a fun t40 =>
 (∃ I7 : Nat → List AV → AS → Prop, (∃ m, I7 m [picks2_a, t21, t26, t38, counts0_a, t40, (.pv (.int .i64 0))] σ27) ∧ ∀ (m7 : Nat) (picks2_l7 n8_l7 k10_l7 m11_l7 t39_l7 t40_l7 t41_l7 : AV), ∀ σ28, I7 m7 [picks2_l7, n8_l7, k10_l7, m11_l7, t39_l7, t40_l7, t41_l7] σ28 →
 (L24_7 env I7 m7 picks2_l7 n8_l7 k10_l7 m11_l7 t39_l7 t40_l7 t41_l7 σ28 K X)))) ∧ True)) ∧ True)) ∧ True)) ∧ ((lock makeSliceD Go.Proofs.Try.prog true σ20 66 t26 t26 fun t33 σ21 =>
 ((lock makeSliceD Go.Proofs.Try.prog true σ21 22 t26 t26 fun t29 σ22 =>
 ((lock buildD Go.Proofs.Try.prog 70 [(0, counts0_a), (1, t29), (2, t31), (3, t33), (5, room1_a), (8, t36), (9, (.pv (.bool true)))] fun t37 =>
 ((lock boxD σ22 t37 fun t38 σ23 =>
 (lock lenD Go.Proofs.Try.prog 22 counts0_a fun t40 =>
 (∃ I7 : Nat → List AV → AS → Prop, (∃ m, I7 m [picks2_a, t21, t26, t38, counts0_a, t40, (.pv (.int .i64 0))] σ23) ∧ ∀ (m7 : Nat) (picks2_l7 n8_l7 k10_l7 m11_l7 t39_l7 t40_l7 t41_l7 : AV), ∀ σ24, I7 m7 [picks2_l7, n8_l7, k10_l7, m11_l7, t39_l7, t40_l7, t41_l7] σ24 →
 (L24_7 env I7 m7 picks2_l7 n8_l7 k10_l7 m11_l7 t39_l7 t40_l7 t41_l7 σ24 K X)))) ∧ True)) ∧ True)) ∧ True)) ∧ True))) ∧ ((lock makeSliceD Go.Proofs.Try.prog true σ2 66 t26 t26 fun t33 σ3 =>
 ((lock makeSliceD Go.Proofs.Try.prog true σ3 22 t26 t26 fun t29 σ16 =>
 ((lock makeSliceD Go.Proofs.Try.prog true σ16 22 t26 t26 fun t31 σ17 =>
 ((lock buildD Go.Proofs.Try.prog 70 [(0, counts0_a), (1, t29), (2, t31), (3, t33), (5, room1_a), (8, t36), (9, (.pv (.bool true)))] fun t37 =>
 ((lock boxD σ17 t37 fun t38 σ18 =>
 (lock lenD Go.Proofs.Try.prog 22 counts0_a fun t40 =>
 (∃ I7 : Nat → List AV → AS → Prop, (∃ m, I7 m [picks2_a, t21, t26, t38, counts0_a, t40, (.pv (.int .i64 0))] σ18) ∧ ∀ (m7 : Nat) (picks2_l7 n8_l7 k10_l7 m11_l7 t39_l7 t40_l7 t41_l7 : AV), ∀ σ19, I7 m7 [picks2_l7, n8_l7, k10_l7, m11_l7, t39_l7, t40_l7, t41_l7] σ19 →
 (L24_7 env I7 m7 picks2_l7 n8_l7 k10_l7 m11_l7 t39_l7 t40_l7 t41_l7 σ19 K X)))) ∧ True)) ∧ True)) ∧ True)) ∧ ((lock makeSliceD Go.Proofs.Try.prog true σ3 22 t26 t26 fun t31 σ4 =>
 ((lock makeSliceD Go.Proofs.Try.prog true σ4 22 t26 t26 fun t29 σ5 =>
 ((lock buildD Go.Proofs.Try.prog 70 [(0, counts0_a), (1, t29), (2, t31), (3, t33), (5, room1_a), (8, t36), (9, (.pv (.bool true)))] fun t37 =>
 ((lock boxD σ5 t37 fun t38 σ6 =>
 (lock lenD Go.Proofs.Try.prog 22 counts0_a fun t40 =>
 (∃ I7 : Nat → List AV → AS → Prop, (∃ m, I7 m [picks2_a, t21, t26, t38, counts0_a, t40, (.pv (.int .i64 0))] σ6) ∧ ∀ (m7 : Nat) (picks2_l7 n8_l7 k10_l7 m11_l7 t39_l7 t40_l7 t41_l7 : AV), ∀ σ7, I7 m7 [picks2_l7, n8_l7, k10_l7, m11_l7, t39_l7, t40_l7, t41_l7] σ7 →
 (L24_7 env I7 m7 picks2_l7 n8_l7 k10_l7 m11_l7 t39_l7 t40_l7 t41_l7 σ7 K X)))) ∧ True)) ∧ True)) ∧ True)) ∧ True))) ∧ True)))) (panV X)) ∧ True)))))))))) (panV X))
theorem S24_eq (env : Env) (counts0_a room1_a picks2_a : AV) (σ : AS) (K : AV → AS → Prop) (X : PV → AS → Prop) : S24 env counts0_a room1_a picks2_a σ K X = bodyD Go.Proofs.Try.prog env an24 Go.Proofs.Try.f24 [counts0_a, room1_a, picks2_a] σ K X := by
  unfold S24
  simp only [L24_7_eq]
  kernel_rfl
theorem S24_ok : (match Go.Proofs.Try.f24.body with | some c => okCode an24 Go.Proofs.Try.prog Go.Proofs.Try.f24.ntmps c | none => false) = true := by kernel_rfl
/-! ### tedder/tedderref21.Plan (function 25) -/
def an25 : An := { mu := [65, 67, 69, 176], cut := [(4, [0, 1, 2, 8]), (10, [0, 1, 2, 8, 9, 10]), (29, [0, 1, 2, 8, 11, 12, 13, 14, 15, 16, 17, 18, 19, 20, 106]), (32, [0, 1, 2, 8, 11, 12, 13, 14, 15, 16, 17, 18, 19]), (34, [0, 1, 2, 8, 11, 12, 13, 14, 15, 16, 17, 18, 19]), (37, [0, 1, 2, 8, 11, 12, 13, 14, 15, 16, 17, 18, 19, 21]), (52, [0, 1, 2, 8, 11, 12, 13, 14, 15, 16, 17, 18, 22])], loop := [(6, [0, 1, 2, 8, 9, 10]), (21, [0, 1, 2, 8, 11, 12, 13, 14, 15, 16, 17, 18]), (24, [0, 1, 2, 8, 11, 12, 13, 14, 15, 16, 17, 18, 19, 20])] }
def J25_10 (env : Env) (I6 : Nat → List AV → AS → Prop) (m6 : Nat) (counts0_j10 room1_j10 picks2_j10 k8_j10 total9_j10 i10_j10 : AV) (σ : AS) (K : AV → AS → Prop) (X : PV → AS → Prop) : Prop :=
 (lock indexAddrD Go.Proofs.Try.prog 22 counts0_j10 i10_j10 fun t59 =>
 (lock loadD Go.Proofs.Try.prog σ 3 t59 fun t60 =>
 (lock binD Go.Proofs.Try.prog .add 3 total9_j10 t60 fun t61 =>
 (lock binD Go.Proofs.Try.prog .gtr 3 t61 (.pv (.int .i64 1048576)) fun t63 =>
 (condD t63
 (retV (.tuple [(.nilS), (.pv (.int .i64 0))]) σ K)
 (lock binD Go.Proofs.Try.prog .add 3 i10_j10 (.pv (.int .i64 1)) fun t43 =>
 (∃ m', m' < m6 ∧ I6 m' [counts0_j10, room1_j10, picks2_j10, k8_j10, t61, t43] σ)))))))
theorem J25_10_eq (env : Env) (I6 : Nat → List AV → AS → Prop) (m6 : Nat) (counts0_j10 room1_j10 picks2_j10 k8_j10 total9_j10 i10_j10 : AV) (σ : AS) (K : AV → AS → Prop) (X : PV → AS → Prop) : J25_10 env I6 m6 counts0_j10 room1_j10 picks2_j10 k8_j10 total9_j10 i10_j10 σ K X = wpD Go.Proofs.Try.prog env an25 (subC (bodyC Go.Proofs.Try.f25) [1, 1, 1, 1, 0, 1, 0, 0, 1, 0, 0, 1]) (contQ Go.Proofs.Try.prog env an25 (bodyC Go.Proofs.Try.f25) [1, 1, 1, 1, 0, 1, 0, 0, 1, 0, 0, 1] [(I6, m6)] (rootQ Go.Proofs.Try.prog Go.Proofs.Try.f25 K X)) [(0, counts0_j10), (1, room1_j10), (2, picks2_j10), (8, k8_j10), (9, total9_j10), (10, i10_j10)] σ := by
  unfold J25_10
  kernel_rfl
def J25_29 (env : Env) (I21 : Nat → List AV → AS → Prop) (m21 : Nat) (I24 : Nat → List AV → AS → Prop) (m24 : Nat) (counts0_j29 room1_j29 picks2_j29 k8_j29 done11_j29 sent12_j29 aside13_j29 way14_j29 next15_j29 held16_j29 most17_j29 out18_j29 may19_j29 i20_j29 t106_j29 : AV) (σ : AS) (K : AV → AS → Prop) (X : PV → AS → Prop) : Prop :=
 (condD t106_j29
 (lock buildD Go.Proofs.Try.prog 42 [(0, (.pv (.str [115, 101, 110, 100]))), (1, i20_j29)] fun t109 =>
 (lock buildSliceD Go.Proofs.Try.prog false σ 36 1 1 [(0, t109)] fun t110 σ9 =>
 (lock appendD Go.Proofs.Try.prog false σ9 36 may19_j29 t110 fun t111 σ10 =>
 (lock binD Go.Proofs.Try.prog .add 3 i20_j29 (.pv (.int .i64 1)) fun t77 =>
 (∃ m', m' < m24 ∧ I24 m' [counts0_j29, room1_j29, picks2_j29, k8_j29, done11_j29, sent12_j29, aside13_j29, way14_j29, next15_j29, held16_j29, most17_j29, out18_j29, t111, t77] σ10)))))
 (lock binD Go.Proofs.Try.prog .add 3 i20_j29 (.pv (.int .i64 1)) fun t77 =>
 (∃ m', m' < m24 ∧ I24 m' [counts0_j29, room1_j29, picks2_j29, k8_j29, done11_j29, sent12_j29, aside13_j29, way14_j29, next15_j29, held16_j29, most17_j29, out18_j29, may19_j29, t77] σ)))
theorem J25_29_eq (env : Env) (I21 : Nat → List AV → AS → Prop) (m21 : Nat) (I24 : Nat → List AV → AS → Prop) (m24 : Nat) (counts0_j29 room1_j29 picks2_j29 k8_j29 done11_j29 sent12_j29 aside13_j29 way14_j29 next15_j29 held16_j29 most17_j29 out18_j29 may19_j29 i20_j29 t106_j29 : AV) (σ : AS) (K : AV → AS → Prop) (X : PV → AS → Prop) : J25_29 env I21 m21 I24 m24 counts0_j29 room1_j29 picks2_j29 k8_j29 done11_j29 sent12_j29 aside13_j29 way14_j29 next15_j29 held16_j29 most17_j29 out18_j29 may19_j29 i20_j29 t106_j29 σ K X = wpD Go.Proofs.Try.prog env an25 (subC (bodyC Go.Proofs.Try.f25) [1, 1, 1, 1, 1, 1, 1, 1, 1, 1, 1, 1, 1, 0, 0, 0, 1, 0, 1, 0, 1, 0, 0, 1, 0, 0, 1, 1, 1]) (contQ Go.Proofs.Try.prog env an25 (bodyC Go.Proofs.Try.f25) [1, 1, 1, 1, 1, 1, 1, 1, 1, 1, 1, 1, 1, 0, 0, 0, 1, 0, 1, 0, 1, 0, 0, 1, 0, 0, 1, 1, 1] [(I21, m21), (I24, m24)] (rootQ Go.Proofs.Try.prog Go.Proofs.Try.f25 K X)) [(0, counts0_j29), (1, room1_j29), (2, picks2_j29), (8, k8_j29), (11, done11_j29), (12, sent12_j29), (13, aside13_j29), (14, way14_j29), (15, next15_j29), (16, held16_j29), (17, most17_j29), (18, out18_j29), (19, may19_j29), (20, i20_j29), (106, t106_j29)] σ := by
  unfold J25_29
  kernel_rfl
def J25_52 (env : Env) (I21 : Nat → List AV → AS → Prop) (m21 : Nat) (counts0_j52 room1_j52 picks2_j52 k8_j52 done11_j52 sent12_j52 aside13_j52 way14_j52 next15_j52 held16_j52 most17_j52 out18_j52 s22_j52 : AV) (σ : AS) (K : AV → AS → Prop) (X : PV → AS → Prop) : Prop :=
 (lock (foldD max2D) most17_j52 [held16_j52] fun t193 =>
 (lock loadD Go.Proofs.Try.prog σ 42 s22_j52 fun t195 =>
 (lock buildSliceD Go.Proofs.Try.prog false σ 36 1 1 [(0, t195)] fun t196 σ18 =>
 (lock appendD Go.Proofs.Try.prog false σ18 36 out18_j52 t196 fun t197 σ19 =>
 (∃ m', m' < m21 ∧ I21 m' [counts0_j52, room1_j52, picks2_j52, k8_j52, done11_j52, sent12_j52, aside13_j52, way14_j52, next15_j52, held16_j52, t193, t197] σ19)))))
theorem J25_52_eq (env : Env) (I21 : Nat → List AV → AS → Prop) (m21 : Nat) (counts0_j52 room1_j52 picks2_j52 k8_j52 done11_j52 sent12_j52 aside13_j52 way14_j52 next15_j52 held16_j52 most17_j52 out18_j52 s22_j52 : AV) (σ : AS) (K : AV → AS → Prop) (X : PV → AS → Prop) : J25_52 env I21 m21 counts0_j52 room1_j52 picks2_j52 k8_j52 done11_j52 sent12_j52 aside13_j52 way14_j52 next15_j52 held16_j52 most17_j52 out18_j52 s22_j52 σ K X = wpD Go.Proofs.Try.prog env an25 (subC (bodyC Go.Proofs.Try.f25) [1, 1, 1, 1, 1, 1, 1, 1, 1, 1, 1, 1, 1, 0, 0, 0, 1, 0, 1, 1, 1, 1, 1, 1, 1, 1]) (contQ Go.Proofs.Try.prog env an25 (bodyC Go.Proofs.Try.f25) [1, 1, 1, 1, 1, 1, 1, 1, 1, 1, 1, 1, 1, 0, 0, 0, 1, 0, 1, 1, 1, 1, 1, 1, 1, 1] [(I21, m21)] (rootQ Go.Proofs.Try.prog Go.Proofs.Try.f25 K X)) [(0, counts0_j52), (1, room1_j52), (2, picks2_j52), (8, k8_j52), (11, done11_j52), (12, sent12_j52), (13, aside13_j52), (14, way14_j52), (15, next15_j52), (16, held16_j52), (17, most17_j52), (18, out18_j52), (22, s22_j52)] σ := by
  unfold J25_52
  kernel_rfl
def J25_37 (env : Env) (I21 : Nat → List AV → AS → Prop) (m21 : Nat) (counts0_j37 room1_j37 picks2_j37 k8_j37 done11_j37 sent12_j37 aside13_j37 way14_j37 next15_j37 held16_j37 most17_j37 out18_j37 may19_j37 p21_j37 : AV) (σ : AS) (K : AV → AS → Prop) (X : PV → AS → Prop) : Prop :=
 (lock indexAddrD Go.Proofs.Try.prog 36 may19_j37 p21_j37 fun t147 =>
 (lock loadD Go.Proofs.Try.prog σ 42 t147 fun t148 =>
 (lock allocD Go.Proofs.Try.prog σ 42 fun t22 σ15 =>
 (lock storeD Go.Proofs.Try.prog σ15 42 t22 t148 fun σ16 =>
 (lock fieldAddrD Go.Proofs.Try.prog 42 t22 0 fun t149 =>
 (lock loadD Go.Proofs.Try.prog σ16 9 t149 fun t150 =>
 (lock binD Go.Proofs.Try.prog .eql 9 t150 (.pv (.str [119, 111, 114, 107])) fun t152 =>
 (condD t152
 (lock fieldAddrD Go.Proofs.Try.prog 42 t22 1 fun t154 =>
 (lock loadD Go.Proofs.Try.prog σ16 3 t154 fun t155 =>
 (lock indexAddrD Go.Proofs.Try.prog 22 done11_j37 t155 fun t156 =>
 (lock loadD Go.Proofs.Try.prog σ16 3 t156 fun t157 =>
 (lock binD Go.Proofs.Try.prog .add 3 t157 (.pv (.int .i64 1)) fun t158 =>
 (lock indexAddrD Go.Proofs.Try.prog 22 done11_j37 t155 fun t159 =>
 (lock storeD Go.Proofs.Try.prog σ16 3 t159 t158 fun σ17 =>
 (J25_52 env I21 m21 (counts0_j37) (room1_j37) (picks2_j37) (k8_j37) (done11_j37) (sent12_j37) (aside13_j37) (way14_j37) (next15_j37) (held16_j37) (most17_j37) (out18_j37) (t22) σ17 K X))))))))
 (lock binD Go.Proofs.Try.prog .eql 9 t150 (.pv (.str [115, 101, 110, 100])) fun t161 =>
 (condD t161
 (lock fieldAddrD Go.Proofs.Try.prog 42 t22 1 fun t163 =>
 (lock loadD Go.Proofs.Try.prog σ16 3 t163 fun t164 =>
 (lock indexAddrD Go.Proofs.Try.prog 66 sent12_j37 t164 fun t165 =>
 (lock storeD Go.Proofs.Try.prog σ16 4 t165 (.pv (.bool true)) fun σ20 =>
 (lock fieldAddrD Go.Proofs.Try.prog 42 t22 1 fun t167 =>
 (lock loadD Go.Proofs.Try.prog σ20 3 t167 fun t168 =>
 (lock buildSliceD Go.Proofs.Try.prog false σ20 22 1 1 [(0, t168)] fun t169 σ21 =>
 (lock appendD Go.Proofs.Try.prog false σ21 22 way14_j37 t169 fun t170 σ22 =>
 (lock binD Go.Proofs.Try.prog .add 3 held16_j37 (.pv (.int .i64 1)) fun t172 =>
 (J25_52 env I21 m21 (counts0_j37) (room1_j37) (picks2_j37) (k8_j37) (done11_j37) (sent12_j37) (aside13_j37) (t170) (next15_j37) (t172) (most17_j37) (out18_j37) (t22) σ22 K X))))))))))
 (lock binD Go.Proofs.Try.prog .eql 9 t150 (.pv (.str [116, 97, 107, 101])) fun t174 =>
 (condD t174
 (lock takeOverD Go.Proofs.Try.prog σ16 22 way14_j37 (some (.pv (.int .i64 1))) none fun t176 σ23 =>
 (lock fieldAddrD Go.Proofs.Try.prog 42 t22 1 fun t178 =>
 (lock loadD Go.Proofs.Try.prog σ23 3 t178 fun t179 =>
 (lock indexAddrD Go.Proofs.Try.prog 66 aside13_j37 t179 fun t180 =>
 (lock storeD Go.Proofs.Try.prog σ23 4 t180 (.pv (.bool true)) fun σ24 =>
 (J25_52 env I21 m21 (counts0_j37) (room1_j37) (picks2_j37) (k8_j37) (done11_j37) (sent12_j37) (aside13_j37) (t176) (next15_j37) (held16_j37) (most17_j37) (out18_j37) (t22) σ24 K X))))))
 (lock binD Go.Proofs.Try.prog .eql 9 t150 (.pv (.str [102, 108, 117, 115, 104])) fun t182 =>
 (condD t182
 (lock fieldAddrD Go.Proofs.Try.prog 42 t22 1 fun t184 =>
 (lock loadD Go.Proofs.Try.prog σ16 3 t184 fun t185 =>
 (lock indexAddrD Go.Proofs.Try.prog 66 aside13_j37 t185 fun t186 =>
 (lock storeD Go.Proofs.Try.prog σ16 4 t186 (.pv (.bool false)) fun σ25 =>
 (lock binD Go.Proofs.Try.prog .sub 3 held16_j37 (.pv (.int .i64 1)) fun t188 =>
 (lock binD Go.Proofs.Try.prog .add 3 next15_j37 (.pv (.int .i64 1)) fun t190 =>
 (J25_52 env I21 m21 (counts0_j37) (room1_j37) (picks2_j37) (k8_j37) (done11_j37) (sent12_j37) (aside13_j37) (way14_j37) (t190) (t188) (most17_j37) (out18_j37) (t22) σ25 K X)))))))
 (J25_52 env I21 m21 (counts0_j37) (room1_j37) (picks2_j37) (k8_j37) (done11_j37) (sent12_j37) (aside13_j37) (way14_j37) (next15_j37) (held16_j37) (most17_j37) (out18_j37) (t22) σ16 K X)))))))))))))))
theorem J25_37_eq (env : Env) (I21 : Nat → List AV → AS → Prop) (m21 : Nat) (counts0_j37 room1_j37 picks2_j37 k8_j37 done11_j37 sent12_j37 aside13_j37 way14_j37 next15_j37 held16_j37 most17_j37 out18_j37 may19_j37 p21_j37 : AV) (σ : AS) (K : AV → AS → Prop) (X : PV → AS → Prop) : J25_37 env I21 m21 counts0_j37 room1_j37 picks2_j37 k8_j37 done11_j37 sent12_j37 aside13_j37 way14_j37 next15_j37 held16_j37 most17_j37 out18_j37 may19_j37 p21_j37 σ K X = wpD Go.Proofs.Try.prog env an25 (subC (bodyC Go.Proofs.Try.f25) [1, 1, 1, 1, 1, 1, 1, 1, 1, 1, 1, 1, 1, 0, 0, 0, 1, 0, 1, 1, 1, 1, 1, 1]) (contQ Go.Proofs.Try.prog env an25 (bodyC Go.Proofs.Try.f25) [1, 1, 1, 1, 1, 1, 1, 1, 1, 1, 1, 1, 1, 0, 0, 0, 1, 0, 1, 1, 1, 1, 1, 1] [(I21, m21)] (rootQ Go.Proofs.Try.prog Go.Proofs.Try.f25 K X)) [(0, counts0_j37), (1, room1_j37), (2, picks2_j37), (8, k8_j37), (11, done11_j37), (12, sent12_j37), (13, aside13_j37), (14, way14_j37), (15, next15_j37), (16, held16_j37), (17, most17_j37), (18, out18_j37), (19, may19_j37), (21, p21_j37)] σ := by
  unfold J25_37
  kernel_rfl
def J25_34 (env : Env) (I21 : Nat → List AV → AS → Prop) (m21 : Nat) (counts0_j34 room1_j34 picks2_j34 k8_j34 done11_j34 sent12_j34 aside13_j34 way14_j34 next15_j34 held16_j34 most17_j34 out18_j34 may19_j34 : AV) (σ : AS) (K : AV → AS → Prop) (X : PV → AS → Prop) : Prop :=
 (lock lenD Go.Proofs.Try.prog 36 out18_j34 fun t132 =>
 (lock lenD Go.Proofs.Try.prog 22 picks2_j34 fun t134 =>
 (lock binD Go.Proofs.Try.prog .lss 3 t132 t134 fun t135 =>
 (condD t135
 (lock lenD Go.Proofs.Try.prog 36 out18_j34 fun t138 =>
 (lock indexAddrD Go.Proofs.Try.prog 22 picks2_j34 t138 fun t139 =>
 (lock loadD Go.Proofs.Try.prog σ 3 t139 fun t140 =>
 (lock (foldD max2D) t140 [(.pv (.int .i64 0))] fun t141 =>
 (lock lenD Go.Proofs.Try.prog 36 may19_j34 fun t143 =>
 (lock binD Go.Proofs.Try.prog .rem 3 t141 t143 fun t144 =>
 (J25_37 env I21 m21 (counts0_j34) (room1_j34) (picks2_j34) (k8_j34) (done11_j34) (sent12_j34) (aside13_j34) (way14_j34) (next15_j34) (held16_j34) (most17_j34) (out18_j34) (may19_j34) (t144) σ K X)))))))
 (J25_37 env I21 m21 (counts0_j34) (room1_j34) (picks2_j34) (k8_j34) (done11_j34) (sent12_j34) (aside13_j34) (way14_j34) (next15_j34) (held16_j34) (most17_j34) (out18_j34) (may19_j34) (.pv (.int .i64 0)) σ K X)))))
theorem J25_34_eq (env : Env) (I21 : Nat → List AV → AS → Prop) (m21 : Nat) (counts0_j34 room1_j34 picks2_j34 k8_j34 done11_j34 sent12_j34 aside13_j34 way14_j34 next15_j34 held16_j34 most17_j34 out18_j34 may19_j34 : AV) (σ : AS) (K : AV → AS → Prop) (X : PV → AS → Prop) : J25_34 env I21 m21 counts0_j34 room1_j34 picks2_j34 k8_j34 done11_j34 sent12_j34 aside13_j34 way14_j34 next15_j34 held16_j34 most17_j34 out18_j34 may19_j34 σ K X = wpD Go.Proofs.Try.prog env an25 (subC (bodyC Go.Proofs.Try.f25) [1, 1, 1, 1, 1, 1, 1, 1, 1, 1, 1, 1, 1, 0, 0, 0, 1, 0, 1, 1, 1, 1]) (contQ Go.Proofs.Try.prog env an25 (bodyC Go.Proofs.Try.f25) [1, 1, 1, 1, 1, 1, 1, 1, 1, 1, 1, 1, 1, 0, 0, 0, 1, 0, 1, 1, 1, 1] [(I21, m21)] (rootQ Go.Proofs.Try.prog Go.Proofs.Try.f25 K X)) [(0, counts0_j34), (1, room1_j34), (2, picks2_j34), (8, k8_j34), (11, done11_j34), (12, sent12_j34), (13, aside13_j34), (14, way14_j34), (15, next15_j34), (16, held16_j34), (17, most17_j34), (18, out18_j34), (19, may19_j34)] σ := by
  unfold J25_34
  kernel_rfl
def J25_32 (env : Env) (I21 : Nat → List AV → AS → Prop) (m21 : Nat) (counts0_j32 room1_j32 picks2_j32 k8_j32 done11_j32 sent12_j32 aside13_j32 way14_j32 next15_j32 held16_j32 most17_j32 out18_j32 may19_j32 : AV) (σ : AS) (K : AV → AS → Prop) (X : PV → AS → Prop) : Prop :=
 (lock indexAddrD Go.Proofs.Try.prog 66 aside13_j32 next15_j32 fun t124 =>
 (lock loadD Go.Proofs.Try.prog σ 4 t124 fun t125 =>
 (condD t125
 (lock buildD Go.Proofs.Try.prog 42 [(0, (.pv (.str [102, 108, 117, 115, 104]))), (1, next15_j32)] fun t128 =>
 (lock buildSliceD Go.Proofs.Try.prog false σ 36 1 1 [(0, t128)] fun t129 σ13 =>
 (lock appendD Go.Proofs.Try.prog false σ13 36 may19_j32 t129 fun t130 σ14 =>
 (J25_34 env I21 m21 (counts0_j32) (room1_j32) (picks2_j32) (k8_j32) (done11_j32) (sent12_j32) (aside13_j32) (way14_j32) (next15_j32) (held16_j32) (most17_j32) (out18_j32) (t130) σ14 K X))))
 (J25_34 env I21 m21 (counts0_j32) (room1_j32) (picks2_j32) (k8_j32) (done11_j32) (sent12_j32) (aside13_j32) (way14_j32) (next15_j32) (held16_j32) (most17_j32) (out18_j32) (may19_j32) σ K X))))
theorem J25_32_eq (env : Env) (I21 : Nat → List AV → AS → Prop) (m21 : Nat) (counts0_j32 room1_j32 picks2_j32 k8_j32 done11_j32 sent12_j32 aside13_j32 way14_j32 next15_j32 held16_j32 most17_j32 out18_j32 may19_j32 : AV) (σ : AS) (K : AV → AS → Prop) (X : PV → AS → Prop) : J25_32 env I21 m21 counts0_j32 room1_j32 picks2_j32 k8_j32 done11_j32 sent12_j32 aside13_j32 way14_j32 next15_j32 held16_j32 most17_j32 out18_j32 may19_j32 σ K X = wpD Go.Proofs.Try.prog env an25 (subC (bodyC Go.Proofs.Try.f25) [1, 1, 1, 1, 1, 1, 1, 1, 1, 1, 1, 1, 1, 0, 0, 0, 1, 0, 1, 1, 1]) (contQ Go.Proofs.Try.prog env an25 (bodyC Go.Proofs.Try.f25) [1, 1, 1, 1, 1, 1, 1, 1, 1, 1, 1, 1, 1, 0, 0, 0, 1, 0, 1, 1, 1] [(I21, m21)] (rootQ Go.Proofs.Try.prog Go.Proofs.Try.f25 K X)) [(0, counts0_j32), (1, room1_j32), (2, picks2_j32), (8, k8_j32), (11, done11_j32), (12, sent12_j32), (13, aside13_j32), (14, way14_j32), (15, next15_j32), (16, held16_j32), (17, most17_j32), (18, out18_j32), (19, may19_j32)] σ := by
  unfold J25_32
  kernel_rfl
def L25_24 (env : Env) (I21 : Nat → List AV → AS → Prop) (m21 : Nat) (I24 : Nat → List AV → AS → Prop) (m24 : Nat) (counts0_l24 room1_l24 picks2_l24 k8_l24 done11_l24 sent12_l24 aside13_l24 way14_l24 next15_l24 held16_l24 most17_l24 out18_l24 may19_l24 i20_l24 : AV) (σ : AS) (K : AV → AS → Prop) (X : PV → AS → Prop) : Prop :=
 (lock binD Go.Proofs.Try.prog .lss 3 i20_l24 k8_l24 fun t75 =>
 (condD t75
 (lock indexAddrD Go.Proofs.Try.prog 22 done11_l24 i20_l24 fun t80 =>
 (lock loadD Go.Proofs.Try.prog σ 3 t80 fun t81 =>
 (lock indexAddrD Go.Proofs.Try.prog 22 counts0_l24 i20_l24 fun t84 =>
 (lock loadD Go.Proofs.Try.prog σ 3 t84 fun t85 =>
 (lock binD Go.Proofs.Try.prog .lss 3 t81 t85 fun t86 =>
 (condD t86
 (lock indexAddrD Go.Proofs.Try.prog 22 done11_l24 i20_l24 fun t91 =>
 (lock loadD Go.Proofs.Try.prog σ 3 t91 fun t92 =>
 (lock buildD Go.Proofs.Try.prog 42 [(0, (.pv (.str [119, 111, 114, 107]))), (1, i20_l24), (2, t92)] fun t93 =>
 (lock buildSliceD Go.Proofs.Try.prog false σ 36 1 1 [(0, t93)] fun t94 σ7 =>
 (lock appendD Go.Proofs.Try.prog false σ7 36 may19_l24 t94 fun t95 σ8 =>
 (lock binD Go.Proofs.Try.prog .add 3 i20_l24 (.pv (.int .i64 1)) fun t77 =>
 (∃ m', m' < m24 ∧ I24 m' [counts0_l24, room1_l24, picks2_l24, k8_l24, done11_l24, sent12_l24, aside13_l24, way14_l24, next15_l24, held16_l24, most17_l24, out18_l24, t95, t77] σ8)))))))
 (lock indexAddrD Go.Proofs.Try.prog 66 sent12_l24 i20_l24 fun t98 =>
 (lock loadD Go.Proofs.Try.prog σ 4 t98 fun t99 =>
 (unD .not t99 fun t100 =>
 (guardD t100 true
 (lock lenD Go.Proofs.Try.prog 22 way14_l24 fun t103 =>
 (lock binD Go.Proofs.Try.prog .lss 3 t103 room1_l24 fun t105 =>
 (J25_29 env I21 m21 I24 m24 (counts0_l24) (room1_l24) (picks2_l24) (k8_l24) (done11_l24) (sent12_l24) (aside13_l24) (way14_l24) (next15_l24) (held16_l24) (most17_l24) (out18_l24) (may19_l24) (i20_l24) (t105) σ K X)))
 (J25_29 env I21 m21 I24 m24 (counts0_l24) (room1_l24) (picks2_l24) (k8_l24) (done11_l24) (sent12_l24) (aside13_l24) (way14_l24) (next15_l24) (held16_l24) (most17_l24) (out18_l24) (may19_l24) (i20_l24) (.pv (.bool false)) σ K X)))))))))))
 (lock lenD Go.Proofs.Try.prog 22 way14_l24 fun t113 =>
 (lock binD Go.Proofs.Try.prog .gtr 3 t113 (.pv (.int .i64 0)) fun t114 =>
 (condD t114
 (lock indexAddrD Go.Proofs.Try.prog 22 way14_l24 (.pv (.int .i64 0)) fun t117 =>
 (lock loadD Go.Proofs.Try.prog σ 3 t117 fun t118 =>
 (lock buildD Go.Proofs.Try.prog 42 [(0, (.pv (.str [116, 97, 107, 101]))), (1, t118)] fun t119 =>
 (lock buildSliceD Go.Proofs.Try.prog false σ 36 1 1 [(0, t119)] fun t120 σ11 =>
 (lock appendD Go.Proofs.Try.prog false σ11 36 may19_l24 t120 fun t121 σ12 =>
 (J25_32 env I21 m21 (counts0_l24) (room1_l24) (picks2_l24) (k8_l24) (done11_l24) (sent12_l24) (aside13_l24) (way14_l24) (next15_l24) (held16_l24) (most17_l24) (out18_l24) (t121) σ12 K X))))))
 (J25_32 env I21 m21 (counts0_l24) (room1_l24) (picks2_l24) (k8_l24) (done11_l24) (sent12_l24) (aside13_l24) (way14_l24) (next15_l24) (held16_l24) (most17_l24) (out18_l24) (may19_l24) σ K X))))))
theorem L25_24_eq (env : Env) (I21 : Nat → List AV → AS → Prop) (m21 : Nat) (I24 : Nat → List AV → AS → Prop) (m24 : Nat) (counts0_l24 room1_l24 picks2_l24 k8_l24 done11_l24 sent12_l24 aside13_l24 way14_l24 next15_l24 held16_l24 most17_l24 out18_l24 may19_l24 i20_l24 : AV) (σ : AS) (K : AV → AS → Prop) (X : PV → AS → Prop) : L25_24 env I21 m21 I24 m24 counts0_l24 room1_l24 picks2_l24 k8_l24 done11_l24 sent12_l24 aside13_l24 way14_l24 next15_l24 held16_l24 most17_l24 out18_l24 may19_l24 i20_l24 σ K X = wpD Go.Proofs.Try.prog env an25 (subC (bodyC Go.Proofs.Try.f25) [1, 1, 1, 1, 1, 1, 1, 1, 1, 1, 1, 1, 1, 0, 0, 0, 1, 0, 1, 0, 1, 0, 0]) (contQ Go.Proofs.Try.prog env an25 (bodyC Go.Proofs.Try.f25) [1, 1, 1, 1, 1, 1, 1, 1, 1, 1, 1, 1, 1, 0, 0, 0, 1, 0, 1, 0, 1, 0, 0] [(I21, m21), (I24, m24)] (rootQ Go.Proofs.Try.prog Go.Proofs.Try.f25 K X)) [(0, counts0_l24), (1, room1_l24), (2, picks2_l24), (8, k8_l24), (11, done11_l24), (12, sent12_l24), (13, aside13_l24), (14, way14_l24), (15, next15_l24), (16, held16_l24), (17, most17_l24), (18, out18_l24), (19, may19_l24), (20, i20_l24)] σ := by
  unfold L25_24
  kernel_rfl
theorem lp25_24 {α : Type} {env : Env} {I21 : Nat → List AV → AS → Prop} {m21 : Nat} {counts0_l24 room1_l24 picks2_l24 k8_l24 done11_l24 sent12_l24 aside13_l24 way14_l24 next15_l24 held16_l24 most17_l24 out18_l24 : AV} {σ : AS} {K : AV → AS → Prop} {X : PV → AS → Prop} (μ : α → AS → Nat) (I : α → AS → Prop) (emay19_l24 ei20_l24 : α → AV) (a0 : α) (h0 : I a0 σ)
 (h : ∀ a σ, I a σ → L25_24 env I21 m21 (Inv (fun a => [counts0_l24, room1_l24, picks2_l24, k8_l24, done11_l24, sent12_l24, aside13_l24, way14_l24, next15_l24, held16_l24, most17_l24, out18_l24, emay19_l24 a, ei20_l24 a]) μ I) (μ a σ) counts0_l24 room1_l24 picks2_l24 k8_l24 done11_l24 sent12_l24 aside13_l24 way14_l24 next15_l24 held16_l24 most17_l24 out18_l24 (emay19_l24 a) (ei20_l24 a) σ K X) :
 ∃ I24 : Nat → List AV → AS → Prop, (∃ m, I24 m [counts0_l24, room1_l24, picks2_l24, k8_l24, done11_l24, sent12_l24, aside13_l24, way14_l24, next15_l24, held16_l24, most17_l24, out18_l24, emay19_l24 a0, ei20_l24 a0] σ) ∧ ∀ (m : Nat) (x0 x1 x2 x3 x4 x5 x6 x7 x8 x9 x10 x11 x12 x13 : AV), ∀ σ, I24 m [x0, x1, x2, x3, x4, x5, x6, x7, x8, x9, x10, x11, x12, x13] σ →
 L25_24 env I21 m21 I24 m x0 x1 x2 x3 x4 x5 x6 x7 x8 x9 x10 x11 x12 x13 σ K X := by
  refine ⟨Inv (fun a => [counts0_l24, room1_l24, picks2_l24, k8_l24, done11_l24, sent12_l24, aside13_l24, way14_l24, next15_l24, held16_l24, most17_l24, out18_l24, emay19_l24 a, ei20_l24 a]) μ I, ⟨_, a0, rfl, rfl, h0⟩, ?_⟩
  rintro m x0 x1 x2 x3 x4 x5 x6 x7 x8 x9 x10 x11 x12 x13 σ' ⟨a, hv, rfl, hI⟩
  simp only [List.cons.injEq, and_true] at hv
  obtain ⟨rfl, rfl, rfl, rfl, rfl, rfl, rfl, rfl, rfl, rfl, rfl, rfl, rfl, rfl⟩ := hv
  exact h a σ' hI
def L25_21 (env : Env) (I21 : Nat → List AV → AS → Prop) (m21 : Nat) (counts0_l21 room1_l21 picks2_l21 k8_l21 done11_l21 sent12_l21 aside13_l21 way14_l21 next15_l21 held16_l21 most17_l21 out18_l21 : AV) (σ : AS) (K : AV → AS → Prop) (X : PV → AS → Prop) : Prop :=
 (lock binD Go.Proofs.Try.prog .lss 3 next15_l21 k8_l21 fun t72 =>
 (condD t72
 (∃ I24 : Nat → List AV → AS → Prop, (∃ m, I24 m [counts0_l21, room1_l21, picks2_l21, k8_l21, done11_l21, sent12_l21, aside13_l21, way14_l21, next15_l21, held16_l21, most17_l21, out18_l21, (.nilS), (.pv (.int .i64 0))] σ) ∧ ∀ (m24 : Nat) (counts0_l24 room1_l24 picks2_l24 k8_l24 done11_l24 sent12_l24 aside13_l24 way14_l24 next15_l24 held16_l24 most17_l24 out18_l24 may19_l24 i20_l24 : AV), ∀ σ6, I24 m24 [counts0_l24, room1_l24, picks2_l24, k8_l24, done11_l24, sent12_l24, aside13_l24, way14_l24, next15_l24, held16_l24, most17_l24, out18_l24, may19_l24, i20_l24] σ6 →
 (L25_24 env I21 m21 I24 m24 counts0_l24 room1_l24 picks2_l24 k8_l24 done11_l24 sent12_l24 aside13_l24 way14_l24 next15_l24 held16_l24 most17_l24 out18_l24 may19_l24 i20_l24 σ6 K X))
 (retV (.tuple [out18_l21, most17_l21]) σ K)))
theorem L25_21_eq (env : Env) (I21 : Nat → List AV → AS → Prop) (m21 : Nat) (counts0_l21 room1_l21 picks2_l21 k8_l21 done11_l21 sent12_l21 aside13_l21 way14_l21 next15_l21 held16_l21 most17_l21 out18_l21 : AV) (σ : AS) (K : AV → AS → Prop) (X : PV → AS → Prop) : L25_21 env I21 m21 counts0_l21 room1_l21 picks2_l21 k8_l21 done11_l21 sent12_l21 aside13_l21 way14_l21 next15_l21 held16_l21 most17_l21 out18_l21 σ K X = wpD Go.Proofs.Try.prog env an25 (subC (bodyC Go.Proofs.Try.f25) [1, 1, 1, 1, 1, 1, 1, 1, 1, 1, 1, 1, 1, 0, 0, 0]) (contQ Go.Proofs.Try.prog env an25 (bodyC Go.Proofs.Try.f25) [1, 1, 1, 1, 1, 1, 1, 1, 1, 1, 1, 1, 1, 0, 0, 0] [(I21, m21)] (rootQ Go.Proofs.Try.prog Go.Proofs.Try.f25 K X)) [(0, counts0_l21), (1, room1_l21), (2, picks2_l21), (8, k8_l21), (11, done11_l21), (12, sent12_l21), (13, aside13_l21), (14, way14_l21), (15, next15_l21), (16, held16_l21), (17, most17_l21), (18, out18_l21)] σ := by
  unfold L25_21
  simp only [L25_24_eq]
  kernel_rfl
theorem lp25_21 {α : Type} {env : Env}  {counts0_l21 room1_l21 picks2_l21 k8_l21 done11_l21 sent12_l21 aside13_l21 : AV} {σ : AS} {K : AV → AS → Prop} {X : PV → AS → Prop} (μ : α → AS → Nat) (I : α → AS → Prop) (eway14_l21 enext15_l21 eheld16_l21 emost17_l21 eout18_l21 : α → AV) (a0 : α) (h0 : I a0 σ)
 (h : ∀ a σ, I a σ → L25_21 env  (Inv (fun a => [counts0_l21, room1_l21, picks2_l21, k8_l21, done11_l21, sent12_l21, aside13_l21, eway14_l21 a, enext15_l21 a, eheld16_l21 a, emost17_l21 a, eout18_l21 a]) μ I) (μ a σ) counts0_l21 room1_l21 picks2_l21 k8_l21 done11_l21 sent12_l21 aside13_l21 (eway14_l21 a) (enext15_l21 a) (eheld16_l21 a) (emost17_l21 a) (eout18_l21 a) σ K X) :
 ∃ I21 : Nat → List AV → AS → Prop, (∃ m, I21 m [counts0_l21, room1_l21, picks2_l21, k8_l21, done11_l21, sent12_l21, aside13_l21, eway14_l21 a0, enext15_l21 a0, eheld16_l21 a0, emost17_l21 a0, eout18_l21 a0] σ) ∧ ∀ (m : Nat) (x0 x1 x2 x3 x4 x5 x6 x7 x8 x9 x10 x11 : AV), ∀ σ, I21 m [x0, x1, x2, x3, x4, x5, x6, x7, x8, x9, x10, x11] σ →
 L25_21 env  I21 m x0 x1 x2 x3 x4 x5 x6 x7 x8 x9 x10 x11 σ K X := by
  refine ⟨Inv (fun a => [counts0_l21, room1_l21, picks2_l21, k8_l21, done11_l21, sent12_l21, aside13_l21, eway14_l21 a, enext15_l21 a, eheld16_l21 a, emost17_l21 a, eout18_l21 a]) μ I, ⟨_, a0, rfl, rfl, h0⟩, ?_⟩
  rintro m x0 x1 x2 x3 x4 x5 x6 x7 x8 x9 x10 x11 σ' ⟨a, hv, rfl, hI⟩
  simp only [List.cons.injEq, and_true] at hv
  obtain ⟨rfl, rfl, rfl, rfl, rfl, rfl, rfl, rfl, rfl, rfl, rfl, rfl⟩ := hv
  exact h a σ' hI
def L25_6 (env : Env) (I6 : Nat → List AV → AS → Prop) (m6 : Nat) (counts0_l6 room1_l6 picks2_l6 k8_l6 total9_l6 i10_l6 : AV) (σ : AS) (K : AV → AS → Prop) (X : PV → AS → Prop) : Prop :=
 (lock binD Go.Proofs.Try.prog .lss 3 i10_l6 k8_l6 fun t41 =>
 (condD t41
 (lock indexAddrD Go.Proofs.Try.prog 22 counts0_l6 i10_l6 fun t46 =>
 (lock loadD Go.Proofs.Try.prog σ 3 t46 fun t47 =>
 (lock binD Go.Proofs.Try.prog .lss 3 t47 (.pv (.int .i64 0)) fun t48 =>
 (guardD t48 false
 (lock indexAddrD Go.Proofs.Try.prog 22 counts0_l6 i10_l6 fun t52 =>
 (lock loadD Go.Proofs.Try.prog σ 3 t52 fun t53 =>
 (lock binD Go.Proofs.Try.prog .gtr 3 t53 (.pv (.int .i64 1048576)) fun t54 =>
 (condD t54
 (retV (.tuple [(.nilS), (.pv (.int .i64 0))]) σ K)
 (J25_10 env I6 m6 (counts0_l6) (room1_l6) (picks2_l6) (k8_l6) (total9_l6) (i10_l6) σ K X)))))
 (retV (.tuple [(.nilS), (.pv (.int .i64 0))]) σ K)))))
 (lock makeSliceD Go.Proofs.Try.prog true σ 22 k8_l6 k8_l6 fun t65 σ2 =>
 (lock makeSliceD Go.Proofs.Try.prog true σ2 66 k8_l6 k8_l6 fun t67 σ3 =>
 (lock makeSliceD Go.Proofs.Try.prog true σ3 66 k8_l6 k8_l6 fun t69 σ4 =>
 (∃ I21 : Nat → List AV → AS → Prop, (∃ m, I21 m [counts0_l6, room1_l6, picks2_l6, k8_l6, t65, t67, t69, (.nilS), (.pv (.int .i64 0)), (.pv (.int .i64 0)), (.pv (.int .i64 0)), (.nilS)] σ4) ∧ ∀ (m21 : Nat) (counts0_l21 room1_l21 picks2_l21 k8_l21 done11_l21 sent12_l21 aside13_l21 way14_l21 next15_l21 held16_l21 most17_l21 out18_l21 : AV), ∀ σ5, I21 m21 [counts0_l21, room1_l21, picks2_l21, k8_l21, done11_l21, sent12_l21, aside13_l21, way14_l21, next15_l21, held16_l21, most17_l21, out18_l21] σ5 →
 (L25_21 env I21 m21 counts0_l21 room1_l21 picks2_l21 k8_l21 done11_l21 sent12_l21 aside13_l21 way14_l21 next15_l21 held16_l21 most17_l21 out18_l21 σ5 K X)))))))
theorem L25_6_eq (env : Env) (I6 : Nat → List AV → AS → Prop) (m6 : Nat) (counts0_l6 room1_l6 picks2_l6 k8_l6 total9_l6 i10_l6 : AV) (σ : AS) (K : AV → AS → Prop) (X : PV → AS → Prop) : L25_6 env I6 m6 counts0_l6 room1_l6 picks2_l6 k8_l6 total9_l6 i10_l6 σ K X = wpD Go.Proofs.Try.prog env an25 (subC (bodyC Go.Proofs.Try.f25) [1, 1, 1, 1, 0, 1, 0, 0]) (contQ Go.Proofs.Try.prog env an25 (bodyC Go.Proofs.Try.f25) [1, 1, 1, 1, 0, 1, 0, 0] [(I6, m6)] (rootQ Go.Proofs.Try.prog Go.Proofs.Try.f25 K X)) [(0, counts0_l6), (1, room1_l6), (2, picks2_l6), (8, k8_l6), (9, total9_l6), (10, i10_l6)] σ := by
  unfold L25_6
  simp only [L25_21_eq]
  kernel_rfl
theorem lp25_6 {α : Type} {env : Env}  {counts0_l6 room1_l6 picks2_l6 k8_l6 : AV} {σ : AS} {K : AV → AS → Prop} {X : PV → AS → Prop} (μ : α → AS → Nat) (I : α → AS → Prop) (etotal9_l6 ei10_l6 : α → AV) (a0 : α) (h0 : I a0 σ)
 (h : ∀ a σ, I a σ → L25_6 env  (Inv (fun a => [counts0_l6, room1_l6, picks2_l6, k8_l6, etotal9_l6 a, ei10_l6 a]) μ I) (μ a σ) counts0_l6 room1_l6 picks2_l6 k8_l6 (etotal9_l6 a) (ei10_l6 a) σ K X) :
 ∃ I6 : Nat → List AV → AS → Prop, (∃ m, I6 m [counts0_l6, room1_l6, picks2_l6, k8_l6, etotal9_l6 a0, ei10_l6 a0] σ) ∧ ∀ (m : Nat) (x0 x1 x2 x3 x4 x5 : AV), ∀ σ, I6 m [x0, x1, x2, x3, x4, x5] σ →
 L25_6 env  I6 m x0 x1 x2 x3 x4 x5 σ K X := by
  refine ⟨Inv (fun a => [counts0_l6, room1_l6, picks2_l6, k8_l6, etotal9_l6 a, ei10_l6 a]) μ I, ⟨_, a0, rfl, rfl, h0⟩, ?_⟩
  rintro m x0 x1 x2 x3 x4 x5 σ' ⟨a, hv, rfl, hI⟩
  simp only [List.cons.injEq, and_true] at hv
  obtain ⟨rfl, rfl, rfl, rfl, rfl, rfl⟩ := hv
  exact h a σ' hI
def J25_4 (env : Env)  (counts0_j4 room1_j4 picks2_j4 k8_j4 : AV) (σ : AS) (K : AV → AS → Prop) (X : PV → AS → Prop) : Prop :=
 (∃ I6 : Nat → List AV → AS → Prop, (∃ m, I6 m [counts0_j4, room1_j4, picks2_j4, k8_j4, (.pv (.int .i64 0)), (.pv (.int .i64 0))] σ) ∧ ∀ (m6 : Nat) (counts0_l6 room1_l6 picks2_l6 k8_l6 total9_l6 i10_l6 : AV), ∀ σ1, I6 m6 [counts0_l6, room1_l6, picks2_l6, k8_l6, total9_l6, i10_l6] σ1 →
 (L25_6 env I6 m6 counts0_l6 room1_l6 picks2_l6 k8_l6 total9_l6 i10_l6 σ1 K X))
theorem J25_4_eq (env : Env)  (counts0_j4 room1_j4 picks2_j4 k8_j4 : AV) (σ : AS) (K : AV → AS → Prop) (X : PV → AS → Prop) : J25_4 env  counts0_j4 room1_j4 picks2_j4 k8_j4 σ K X = wpD Go.Proofs.Try.prog env an25 (subC (bodyC Go.Proofs.Try.f25) [1, 1, 1]) (contQ Go.Proofs.Try.prog env an25 (bodyC Go.Proofs.Try.f25) [1, 1, 1] [] (rootQ Go.Proofs.Try.prog Go.Proofs.Try.f25 K X)) [(0, counts0_j4), (1, room1_j4), (2, picks2_j4), (8, k8_j4)] σ := by
  unfold J25_4
  simp only [L25_6_eq]
  kernel_rfl
def S25 (env : Env) (counts0_a room1_a picks2_a : AV) (σ : AS) (K : AV → AS → Prop) (X : PV → AS → Prop) : Prop :=
 (lock lenD Go.Proofs.Try.prog 22 counts0_a fun t24 =>
 (lock binD Go.Proofs.Try.prog .lss 3 t24 (.pv (.int .i64 1)) fun t26 =>
 (guardD t26 false
 (lock binD Go.Proofs.Try.prog .gtr 3 t24 (.pv (.int .i64 4096)) fun t29 =>
 (guardD t29 false
 (lock binD Go.Proofs.Try.prog .lss 3 room1_a (.pv (.int .i64 1)) fun t33 =>
 (guardD t33 false
 (lock binD Go.Proofs.Try.prog .gtr 3 room1_a (.pv (.int .i64 4096)) fun t37 =>
 (condD t37
 (retV (.tuple [(.nilS), (.pv (.int .i64 0))]) σ K)
 (J25_4 env  (counts0_a) (room1_a) (picks2_a) (t24) σ K X)))
 (retV (.tuple [(.nilS), (.pv (.int .i64 0))]) σ K)))
 (retV (.tuple [(.nilS), (.pv (.int .i64 0))]) σ K)))
 (retV (.tuple [(.nilS), (.pv (.int .i64 0))]) σ K))))
theorem S25_eq (env : Env) (counts0_a room1_a picks2_a : AV) (σ : AS) (K : AV → AS → Prop) (X : PV → AS → Prop) : S25 env counts0_a room1_a picks2_a σ K X = bodyD Go.Proofs.Try.prog env an25 Go.Proofs.Try.f25 [counts0_a, room1_a, picks2_a] σ K X := by
  unfold S25
  kernel_rfl
theorem S25_ok : (match Go.Proofs.Try.f25.body with | some c => okCode an25 Go.Proofs.Try.prog Go.Proofs.Try.f25.ntmps c | none => false) = true := by kernel_rfl
/-! ### tedder/tedderref21.Same (function 26) -/
def an26 : An := { mu := [], cut := [], loop := [(4, [0, 1, 5])] }
def L26_4 (env : Env) (I4 : Nat → List AV → AS → Prop) (m4 : Nat) (a0_l4 b1_l4 i5_l4 : AV) (σ : AS) (K : AV → AS → Prop) (X : PV → AS → Prop) : Prop :=
 (lock lenD Go.Proofs.Try.prog 36 a0_l4 fun t13 =>
 (lock binD Go.Proofs.Try.prog .lss 3 i5_l4 t13 fun t14 =>
 (condD t14
 (lock indexAddrD Go.Proofs.Try.prog 36 a0_l4 i5_l4 fun t19 =>
 (lock loadD Go.Proofs.Try.prog σ 42 t19 fun t20 =>
 (lock indexAddrD Go.Proofs.Try.prog 36 b1_l4 i5_l4 fun t23 =>
 (lock loadD Go.Proofs.Try.prog σ 42 t23 fun t24 =>
 (lock binD Go.Proofs.Try.prog .neq 42 t20 t24 fun t25 =>
 (condD t25
 (retV ((.pv (.bool false))) σ K)
 (lock binD Go.Proofs.Try.prog .add 3 i5_l4 (.pv (.int .i64 1)) fun t16 =>
 (∃ m', m' < m4 ∧ I4 m' [a0_l4, b1_l4, t16] σ))))))))
 (retV ((.pv (.bool true))) σ K))))
theorem L26_4_eq (env : Env) (I4 : Nat → List AV → AS → Prop) (m4 : Nat) (a0_l4 b1_l4 i5_l4 : AV) (σ : AS) (K : AV → AS → Prop) (X : PV → AS → Prop) : L26_4 env I4 m4 a0_l4 b1_l4 i5_l4 σ K X = wpD Go.Proofs.Try.prog env an26 (subC (bodyC Go.Proofs.Try.f26) [1, 1, 0, 1, 0, 0]) (contQ Go.Proofs.Try.prog env an26 (bodyC Go.Proofs.Try.f26) [1, 1, 0, 1, 0, 0] [(I4, m4)] (rootQ Go.Proofs.Try.prog Go.Proofs.Try.f26 K X)) [(0, a0_l4), (1, b1_l4), (5, i5_l4)] σ := by
  unfold L26_4
  kernel_rfl
theorem lp26_4 {α : Type} {env : Env}  {a0_l4 b1_l4 : AV} {σ : AS} {K : AV → AS → Prop} {X : PV → AS → Prop} (μ : α → AS → Nat) (I : α → AS → Prop) (ei5_l4 : α → AV) (a0 : α) (h0 : I a0 σ)
 (h : ∀ a σ, I a σ → L26_4 env  (Inv (fun a => [a0_l4, b1_l4, ei5_l4 a]) μ I) (μ a σ) a0_l4 b1_l4 (ei5_l4 a) σ K X) :
 ∃ I4 : Nat → List AV → AS → Prop, (∃ m, I4 m [a0_l4, b1_l4, ei5_l4 a0] σ) ∧ ∀ (m : Nat) (x0 x1 x2 : AV), ∀ σ, I4 m [x0, x1, x2] σ →
 L26_4 env  I4 m x0 x1 x2 σ K X := by
  refine ⟨Inv (fun a => [a0_l4, b1_l4, ei5_l4 a]) μ I, ⟨_, a0, rfl, rfl, h0⟩, ?_⟩
  rintro m x0 x1 x2 σ' ⟨a, hv, rfl, hI⟩
  simp only [List.cons.injEq, and_true] at hv
  obtain ⟨rfl, rfl, rfl⟩ := hv
  exact h a σ' hI
def S26 (env : Env) (a0_a b1_a : AV) (σ : AS) (K : AV → AS → Prop) (X : PV → AS → Prop) : Prop :=
 (lock lenD Go.Proofs.Try.prog 36 a0_a fun t7 =>
 (lock lenD Go.Proofs.Try.prog 36 b1_a fun t9 =>
 (lock binD Go.Proofs.Try.prog .neq 3 t7 t9 fun t10 =>
 (condD t10
 (retV ((.pv (.bool false))) σ K)
 (∃ I4 : Nat → List AV → AS → Prop, (∃ m, I4 m [a0_a, b1_a, (.pv (.int .i64 0))] σ) ∧ ∀ (m4 : Nat) (a0_l4 b1_l4 i5_l4 : AV), ∀ σ1, I4 m4 [a0_l4, b1_l4, i5_l4] σ1 →
 (L26_4 env I4 m4 a0_l4 b1_l4 i5_l4 σ1 K X))))))
theorem S26_eq (env : Env) (a0_a b1_a : AV) (σ : AS) (K : AV → AS → Prop) (X : PV → AS → Prop) : S26 env a0_a b1_a σ K X = bodyD Go.Proofs.Try.prog env an26 Go.Proofs.Try.f26 [a0_a, b1_a] σ K X := by
  unfold S26
  simp only [L26_4_eq]
  kernel_rfl
theorem S26_ok : (match Go.Proofs.Try.f26.body with | some c => okCode an26 Go.Proofs.Try.prog Go.Proofs.Try.f26.ntmps c | none => false) = true := by kernel_rfl
/-! ### tedder/tedderlaw21.awake (function 22) -/
def an22 : An := { mu := [], cut := [], loop := [] }
def S22 (env : Env) (σ : AS) (K : AV → AS → Prop) (X : PV → AS → Prop) : Prop :=
 (lock buildSliceD Go.Proofs.Try.prog false σ 22 2 2 [(0, (.pv (.int .i64 1))), (1, (.pv (.int .i64 0)))] fun t4 σ1 =>
 (lock buildSliceD Go.Proofs.Try.prog false σ1 22 1 1 [(0, (.pv (.int .i64 1)))] fun t5 σ2 =>
 (env 24 [t4, (.pv (.int .i64 1)), t5] σ2 (fun t6 σ3 =>
 (lock extractD t6 0 fun t7 =>
 (lock extractD t6 1 fun t8 =>
 (lock lenD Go.Proofs.Try.prog 36 t7 fun t10 =>
 (lock binD Go.Proofs.Try.prog .eql 3 t10 (.pv (.int .i64 7)) fun t11 =>
 (guardD t11 true
 (lock binD Go.Proofs.Try.prog .eql 3 t8 (.pv (.int .i64 2)) fun t14 =>
 (guardD t14 true
 (lock indexAddrD Go.Proofs.Try.prog 36 t7 (.pv (.int .i64 0)) fun t18 =>
 (lock fieldAddrD Go.Proofs.Try.prog 42 t18 0 fun t19 =>
 (lock loadD Go.Proofs.Try.prog σ3 9 t19 fun t20 =>
 (lock binD Go.Proofs.Try.prog .eql 9 t20 (.pv (.str [115, 101, 110, 100])) fun t21 =>
 (guardD t21 true
 (lock indexAddrD Go.Proofs.Try.prog 36 t7 (.pv (.int .i64 0)) fun t25 =>
 (lock fieldAddrD Go.Proofs.Try.prog 42 t25 1 fun t26 =>
 (lock loadD Go.Proofs.Try.prog σ3 3 t26 fun t27 =>
 (lock binD Go.Proofs.Try.prog .eql 3 t27 (.pv (.int .i64 1)) fun t28 =>
 (guardD t28 true
 (lock indexAddrD Go.Proofs.Try.prog 36 t7 (.pv (.int .i64 6)) fun t32 =>
 (lock fieldAddrD Go.Proofs.Try.prog 42 t32 0 fun t33 =>
 (lock loadD Go.Proofs.Try.prog σ3 9 t33 fun t34 =>
 (lock binD Go.Proofs.Try.prog .eql 9 t34 (.pv (.str [102, 108, 117, 115, 104])) fun t35 =>
 (guardD t35 true
 (lock indexAddrD Go.Proofs.Try.prog 36 t7 (.pv (.int .i64 6)) fun t39 =>
 (lock fieldAddrD Go.Proofs.Try.prog 42 t39 1 fun t40 =>
 (lock loadD Go.Proofs.Try.prog σ3 3 t40 fun t41 =>
 (lock binD Go.Proofs.Try.prog .eql 3 t41 (.pv (.int .i64 1)) fun t42 =>
 (retV (t42) σ3 K)))))
 (retV ((.pv (.bool false))) σ3 K))))))
 (retV ((.pv (.bool false))) σ3 K))))))
 (retV ((.pv (.bool false))) σ3 K))))))
 (retV ((.pv (.bool false))) σ3 K)))
 (retV ((.pv (.bool false))) σ3 K))))))) (panV X))))
theorem S22_eq (env : Env) (σ : AS) (K : AV → AS → Prop) (X : PV → AS → Prop) : S22 env  σ K X = bodyD Go.Proofs.Try.prog env an22 Go.Proofs.Try.f22 [] σ K X := by
  unfold S22
  kernel_rfl
theorem S22_ok : (match Go.Proofs.Try.f22.body with | some c => okCode an22 Go.Proofs.Try.prog Go.Proofs.Try.f22.ntmps c | none => false) = true := by kernel_rfl
/-! ### tedder/tedderlaw21.SchedPlans (function 8) -/
def an8 : An := { mu := [], cut := [(5, [0, 1, 2])], loop := [] }
def J8_5 (env : Env)  (counts0_j5 room1_j5 picks2_j5 : AV) (σ : AS) (K : AV → AS → Prop) (X : PV → AS → Prop) : Prop :=
 (env 24 [counts0_j5, room1_j5, picks2_j5] σ (fun t25 σ3 =>
 (lock extractD t25 0 fun t26 =>
 (lock extractD t25 1 fun t27 =>
 (env 25 [counts0_j5, room1_j5, picks2_j5] σ3 (fun t32 σ4 =>
 (lock extractD t32 0 fun t33 =>
 (lock extractD t32 1 fun t34 =>
 (lock binD Go.Proofs.Try.prog .eql 3 t27 t34 fun t37 =>
 (guardD t37 true
 (env 26 [t26, t33] σ4 (fun t41 σ5 =>
 (retV (t41) σ5 K)) (panV X))
 (retV ((.pv (.bool false))) σ4 K)))))) (panV X))))) (panV X))
theorem J8_5_eq (env : Env)  (counts0_j5 room1_j5 picks2_j5 : AV) (σ : AS) (K : AV → AS → Prop) (X : PV → AS → Prop) : J8_5 env  counts0_j5 room1_j5 picks2_j5 σ K X = wpD Go.Proofs.Try.prog env an8 (subC (bodyC Go.Proofs.Try.f8) [1, 1, 1]) (contQ Go.Proofs.Try.prog env an8 (bodyC Go.Proofs.Try.f8) [1, 1, 1] [] (rootQ Go.Proofs.Try.prog Go.Proofs.Try.f8 K X)) [(0, counts0_j5), (1, room1_j5), (2, picks2_j5)] σ := by
  unfold J8_5
  kernel_rfl
def S8 (env : Env) (counts0_a room1_a picks2_a : AV) (σ : AS) (K : AV → AS → Prop) (X : PV → AS → Prop) : Prop :=
 (env 22 [] σ (fun t11 σ1 =>
 (unD .not t11 fun t12 =>
 (condD t12
 (retV ((.pv (.bool false))) σ1 K)
 (env 23 [counts0_a] σ1 (fun t14 σ2 =>
 (unD .not t14 fun t15 =>
 (guardD t15 true
 (lock lenD Go.Proofs.Try.prog 22 counts0_a fun t18 =>
 (lock binD Go.Proofs.Try.prog .leq 3 t18 (.pv (.int .i64 4096)) fun t19 =>
 (condD t19
 (retV ((.pv (.bool true))) σ2 K)
 (J8_5 env  (counts0_a) (room1_a) (picks2_a) σ2 K X))))
 (J8_5 env  (counts0_a) (room1_a) (picks2_a) σ2 K X)))) (panV X))))) (panV X))
theorem S8_eq (env : Env) (counts0_a room1_a picks2_a : AV) (σ : AS) (K : AV → AS → Prop) (X : PV → AS → Prop) : S8 env counts0_a room1_a picks2_a σ K X = bodyD Go.Proofs.Try.prog env an8 Go.Proofs.Try.f8 [counts0_a, room1_a, picks2_a] σ K X := by
  unfold S8
  kernel_rfl
theorem S8_ok : (match Go.Proofs.Try.f8.body with | some c => okCode an8 Go.Proofs.Try.prog Go.Proofs.Try.f8.ntmps c | none => false) = true := by kernel_rfl
/-! ### tedder/tedderlaw21.SchedWhole (function 9) -/
def an9 : An := { mu := [82, 85], cut := [(5, [0, 1, 2]), (11, [0, 1, 2, 7, 9, 37, 38, 39]), (16, [0, 1, 10]), (24, [0, 1, 12, 13, 14, 15, 17, 18, 86, 87, 88]), (29, [0, 1, 12, 13, 14, 15, 18, 86, 87, 88]), (33, [0, 1, 12, 13, 14, 15, 18, 86, 87, 88]), (43, [0, 1, 12, 13, 14, 15, 18, 86, 87, 88])], loop := [(7, [0, 1, 2, 7, 37, 38, 39]), (19, [0, 1, 12, 13, 14, 15, 86, 87, 88])], any := [16] }
def J9_11 (env : Env) (I7 : Nat → List AV → AS → Prop) (m7 : Nat) (counts0_j11 room1_j11 picks2_j11 n7_j11 c9_j11 t37_j11 t38_j11 t39_j11 : AV) (σ : AS) (K : AV → AS → Prop) (X : PV → AS → Prop) : Prop :=
 (lock binD Go.Proofs.Try.prog .add 3 n7_j11 c9_j11 fun t53 =>
 (lock binD Go.Proofs.Try.prog .add 3 t39_j11 (.pv (.int .i64 1)) fun t54 =>
 (∃ m', m' < m7 ∧ I7 m' [counts0_j11, room1_j11, picks2_j11, t53, t37_j11, t38_j11, t54] σ)))
theorem J9_11_eq (env : Env) (I7 : Nat → List AV → AS → Prop) (m7 : Nat) (counts0_j11 room1_j11 picks2_j11 n7_j11 c9_j11 t37_j11 t38_j11 t39_j11 : AV) (σ : AS) (K : AV → AS → Prop) (X : PV → AS → Prop) : J9_11 env I7 m7 counts0_j11 room1_j11 picks2_j11 n7_j11 c9_j11 t37_j11 t38_j11 t39_j11 σ K X = wpD Go.Proofs.Try.prog env an9 (subC (bodyC Go.Proofs.Try.f9) [1, 1, 1, 1, 0, 1, 0, 0, 1, 1, 0, 0, 1, 1]) (contQ Go.Proofs.Try.prog env an9 (bodyC Go.Proofs.Try.f9) [1, 1, 1, 1, 0, 1, 0, 0, 1, 1, 0, 0, 1, 1] [(I7, m7)] (rootQ Go.Proofs.Try.prog Go.Proofs.Try.f9 K X)) [(0, counts0_j11), (1, room1_j11), (2, picks2_j11), (7, n7_j11), (9, c9_j11), (37, t37_j11), (38, t38_j11), (39, t39_j11)] σ := by
  unfold J9_11
  kernel_rfl
def J9_29 (env : Env) (I19 : Nat → List AV → AS → Prop) (m19 : Nat) (counts0_j29 room1_j29 done12_j29 stage13_j29 next14_j29 way15_j29 i18_j29 t86_j29 t87_j29 t88_j29 : AV) (σ : AS) (K : AV → AS → Prop) (X : PV → AS → Prop) : Prop :=
 (lock indexAddrD Go.Proofs.Try.prog 22 done12_j29 i18_j29 fun t133 =>
 (lock loadD Go.Proofs.Try.prog σ 3 t133 fun t134 =>
 (lock binD Go.Proofs.Try.prog .add 3 t134 (.pv (.int .i64 1)) fun t135 =>
 (lock indexAddrD Go.Proofs.Try.prog 22 done12_j29 i18_j29 fun t136 =>
 (lock storeD Go.Proofs.Try.prog σ 3 t136 t135 fun σ9 =>
 (lock binD Go.Proofs.Try.prog .add 3 t88_j29 (.pv (.int .i64 1)) fun t199 =>
 (∃ m', m' < m19 ∧ I19 m' [counts0_j29, room1_j29, done12_j29, stage13_j29, next14_j29, way15_j29, t86_j29, t87_j29, t199] σ9)))))))
theorem J9_29_eq (env : Env) (I19 : Nat → List AV → AS → Prop) (m19 : Nat) (counts0_j29 room1_j29 done12_j29 stage13_j29 next14_j29 way15_j29 i18_j29 t86_j29 t87_j29 t88_j29 : AV) (σ : AS) (K : AV → AS → Prop) (X : PV → AS → Prop) : J9_29 env I19 m19 counts0_j29 room1_j29 done12_j29 stage13_j29 next14_j29 way15_j29 i18_j29 t86_j29 t87_j29 t88_j29 σ K X = wpD Go.Proofs.Try.prog env an9 (subC (bodyC Go.Proofs.Try.f9) [1, 1, 1, 1, 1, 1, 1, 1, 1, 0, 1, 0, 0, 1, 1, 0, 0, 1, 1, 1, 1, 0, 1, 0, 1]) (contQ Go.Proofs.Try.prog env an9 (bodyC Go.Proofs.Try.f9) [1, 1, 1, 1, 1, 1, 1, 1, 1, 0, 1, 0, 0, 1, 1, 0, 0, 1, 1, 1, 1, 0, 1, 0, 1] [(I19, m19)] (rootQ Go.Proofs.Try.prog Go.Proofs.Try.f9 K X)) [(0, counts0_j29), (1, room1_j29), (12, done12_j29), (13, stage13_j29), (14, next14_j29), (15, way15_j29), (18, i18_j29), (86, t86_j29), (87, t87_j29), (88, t88_j29)] σ := by
  unfold J9_29
  kernel_rfl
def J9_33 (env : Env) (I19 : Nat → List AV → AS → Prop) (m19 : Nat) (counts0_j33 room1_j33 done12_j33 stage13_j33 next14_j33 way15_j33 i18_j33 t86_j33 t87_j33 t88_j33 : AV) (σ : AS) (K : AV → AS → Prop) (X : PV → AS → Prop) : Prop :=
 (lock indexAddrD Go.Proofs.Try.prog 22 stage13_j33 i18_j33 fun t167 =>
 (lock storeD Go.Proofs.Try.prog σ 3 t167 (.pv (.int .i64 1)) fun σ10 =>
 (lock binD Go.Proofs.Try.prog .add 3 way15_j33 (.pv (.int .i64 1)) fun t169 =>
 (lock binD Go.Proofs.Try.prog .add 3 t88_j33 (.pv (.int .i64 1)) fun t199 =>
 (∃ m', m' < m19 ∧ I19 m' [counts0_j33, room1_j33, done12_j33, stage13_j33, next14_j33, t169, t86_j33, t87_j33, t199] σ10)))))
theorem J9_33_eq (env : Env) (I19 : Nat → List AV → AS → Prop) (m19 : Nat) (counts0_j33 room1_j33 done12_j33 stage13_j33 next14_j33 way15_j33 i18_j33 t86_j33 t87_j33 t88_j33 : AV) (σ : AS) (K : AV → AS → Prop) (X : PV → AS → Prop) : J9_33 env I19 m19 counts0_j33 room1_j33 done12_j33 stage13_j33 next14_j33 way15_j33 i18_j33 t86_j33 t87_j33 t88_j33 σ K X = wpD Go.Proofs.Try.prog env an9 (subC (bodyC Go.Proofs.Try.f9) [1, 1, 1, 1, 1, 1, 1, 1, 1, 0, 1, 0, 0, 1, 1, 0, 0, 1, 1, 1, 1, 0, 1, 1, 1, 0, 1]) (contQ Go.Proofs.Try.prog env an9 (bodyC Go.Proofs.Try.f9) [1, 1, 1, 1, 1, 1, 1, 1, 1, 0, 1, 0, 0, 1, 1, 0, 0, 1, 1, 1, 1, 0, 1, 1, 1, 0, 1] [(I19, m19)] (rootQ Go.Proofs.Try.prog Go.Proofs.Try.f9 K X)) [(0, counts0_j33), (1, room1_j33), (12, done12_j33), (13, stage13_j33), (14, next14_j33), (15, way15_j33), (18, i18_j33), (86, t86_j33), (87, t87_j33), (88, t88_j33)] σ := by
  unfold J9_33
  kernel_rfl
def J9_43 (env : Env) (I19 : Nat → List AV → AS → Prop) (m19 : Nat) (counts0_j43 room1_j43 done12_j43 stage13_j43 next14_j43 way15_j43 i18_j43 t86_j43 t87_j43 t88_j43 : AV) (σ : AS) (K : AV → AS → Prop) (X : PV → AS → Prop) : Prop :=
 (lock indexAddrD Go.Proofs.Try.prog 22 stage13_j43 i18_j43 fun t196 =>
 (lock storeD Go.Proofs.Try.prog σ 3 t196 (.pv (.int .i64 3)) fun σ12 =>
 (lock binD Go.Proofs.Try.prog .add 3 next14_j43 (.pv (.int .i64 1)) fun t198 =>
 (lock binD Go.Proofs.Try.prog .add 3 t88_j43 (.pv (.int .i64 1)) fun t199 =>
 (∃ m', m' < m19 ∧ I19 m' [counts0_j43, room1_j43, done12_j43, stage13_j43, t198, way15_j43, t86_j43, t87_j43, t199] σ12)))))
theorem J9_43_eq (env : Env) (I19 : Nat → List AV → AS → Prop) (m19 : Nat) (counts0_j43 room1_j43 done12_j43 stage13_j43 next14_j43 way15_j43 i18_j43 t86_j43 t87_j43 t88_j43 : AV) (σ : AS) (K : AV → AS → Prop) (X : PV → AS → Prop) : J9_43 env I19 m19 counts0_j43 room1_j43 done12_j43 stage13_j43 next14_j43 way15_j43 i18_j43 t86_j43 t87_j43 t88_j43 σ K X = wpD Go.Proofs.Try.prog env an9 (subC (bodyC Go.Proofs.Try.f9) [1, 1, 1, 1, 1, 1, 1, 1, 1, 0, 1, 0, 0, 1, 1, 0, 0, 1, 1, 1, 1, 0, 1, 1, 1, 1, 1, 1, 1, 0, 1]) (contQ Go.Proofs.Try.prog env an9 (bodyC Go.Proofs.Try.f9) [1, 1, 1, 1, 1, 1, 1, 1, 1, 0, 1, 0, 0, 1, 1, 0, 0, 1, 1, 1, 1, 0, 1, 1, 1, 1, 1, 1, 1, 0, 1] [(I19, m19)] (rootQ Go.Proofs.Try.prog Go.Proofs.Try.f9 K X)) [(0, counts0_j43), (1, room1_j43), (12, done12_j43), (13, stage13_j43), (14, next14_j43), (15, way15_j43), (18, i18_j43), (86, t86_j43), (87, t87_j43), (88, t88_j43)] σ := by
  unfold J9_43
  kernel_rfl
def J9_24 (env : Env) (I19 : Nat → List AV → AS → Prop) (m19 : Nat) (counts0_j24 room1_j24 done12_j24 stage13_j24 next14_j24 way15_j24 s17_j24 i18_j24 t86_j24 t87_j24 t88_j24 : AV) (σ : AS) (K : AV → AS → Prop) (X : PV → AS → Prop) : Prop :=
 (lock fieldAddrD Go.Proofs.Try.prog 42 s17_j24 0 fun t102 =>
 (lock loadD Go.Proofs.Try.prog σ 9 t102 fun t103 =>
 (lock binD Go.Proofs.Try.prog .eql 9 t103 (.pv (.str [119, 111, 114, 107])) fun t105 =>
 (condD t105
 (lock fieldAddrD Go.Proofs.Try.prog 42 s17_j24 2 fun t106 =>
 (lock loadD Go.Proofs.Try.prog σ 3 t106 fun t107 =>
 (lock indexAddrD Go.Proofs.Try.prog 22 done12_j24 i18_j24 fun t110 =>
 (lock loadD Go.Proofs.Try.prog σ 3 t110 fun t111 =>
 (lock binD Go.Proofs.Try.prog .neq 3 t107 t111 fun t112 =>
 (guardD t112 false
 (lock indexAddrD Go.Proofs.Try.prog 22 stage13_j24 i18_j24 fun t116 =>
 (lock loadD Go.Proofs.Try.prog σ 3 t116 fun t117 =>
 (lock binD Go.Proofs.Try.prog .neq 3 t117 (.pv (.int .i64 0)) fun t118 =>
 (guardD t118 false
 (lock indexAddrD Go.Proofs.Try.prog 22 done12_j24 i18_j24 fun t123 =>
 (lock loadD Go.Proofs.Try.prog σ 3 t123 fun t124 =>
 (lock indexAddrD Go.Proofs.Try.prog 22 counts0_j24 i18_j24 fun t127 =>
 (lock loadD Go.Proofs.Try.prog σ 3 t127 fun t128 =>
 (lock binD Go.Proofs.Try.prog .geq 3 t124 t128 fun t129 =>
 (condD t129
 (retV ((.pv (.bool false))) σ K)
 (J9_29 env I19 m19 (counts0_j24) (room1_j24) (done12_j24) (stage13_j24) (next14_j24) (way15_j24) (i18_j24) (t86_j24) (t87_j24) (t88_j24) σ K X)))))))
 (retV ((.pv (.bool false))) σ K)))))
 (retV ((.pv (.bool false))) σ K)))))))
 (lock binD Go.Proofs.Try.prog .eql 9 t103 (.pv (.str [115, 101, 110, 100])) fun t138 =>
 (condD t138
 (lock indexAddrD Go.Proofs.Try.prog 22 done12_j24 i18_j24 fun t141 =>
 (lock loadD Go.Proofs.Try.prog σ 3 t141 fun t142 =>
 (lock indexAddrD Go.Proofs.Try.prog 22 counts0_j24 i18_j24 fun t145 =>
 (lock loadD Go.Proofs.Try.prog σ 3 t145 fun t146 =>
 (lock binD Go.Proofs.Try.prog .neq 3 t142 t146 fun t147 =>
 (guardD t147 false
 (lock indexAddrD Go.Proofs.Try.prog 22 stage13_j24 i18_j24 fun t151 =>
 (lock loadD Go.Proofs.Try.prog σ 3 t151 fun t152 =>
 (lock binD Go.Proofs.Try.prog .neq 3 t152 (.pv (.int .i64 0)) fun t153 =>
 (guardD t153 false
 (lock binD Go.Proofs.Try.prog .eql 3 way15_j24 room1_j24 fun t158 =>
 (guardD t158 false
 (lock fieldAddrD Go.Proofs.Try.prog 42 s17_j24 2 fun t161 =>
 (lock loadD Go.Proofs.Try.prog σ 3 t161 fun t162 =>
 (lock binD Go.Proofs.Try.prog .neq 3 t162 (.pv (.int .i64 0)) fun t163 =>
 (condD t163
 (retV ((.pv (.bool false))) σ K)
 (J9_33 env I19 m19 (counts0_j24) (room1_j24) (done12_j24) (stage13_j24) (next14_j24) (way15_j24) (i18_j24) (t86_j24) (t87_j24) (t88_j24) σ K X)))))
 (retV ((.pv (.bool false))) σ K)))
 (retV ((.pv (.bool false))) σ K)))))
 (retV ((.pv (.bool false))) σ K)))))))
 (lock binD Go.Proofs.Try.prog .eql 9 t103 (.pv (.str [116, 97, 107, 101])) fun t171 =>
 (condD t171
 (lock indexAddrD Go.Proofs.Try.prog 22 stage13_j24 i18_j24 fun t174 =>
 (lock loadD Go.Proofs.Try.prog σ 3 t174 fun t175 =>
 (lock binD Go.Proofs.Try.prog .neq 3 t175 (.pv (.int .i64 1)) fun t176 =>
 (condD t176
 (retV ((.pv (.bool false))) σ K)
 (lock indexAddrD Go.Proofs.Try.prog 22 stage13_j24 i18_j24 fun t179 =>
 (lock storeD Go.Proofs.Try.prog σ 3 t179 (.pv (.int .i64 2)) fun σ11 =>
 (lock binD Go.Proofs.Try.prog .sub 3 way15_j24 (.pv (.int .i64 1)) fun t181 =>
 (lock binD Go.Proofs.Try.prog .add 3 t88_j24 (.pv (.int .i64 1)) fun t199 =>
 (∃ m', m' < m19 ∧ I19 m' [counts0_j24, room1_j24, done12_j24, stage13_j24, next14_j24, t181, t86_j24, t87_j24, t199] σ11)))))))))
 (lock binD Go.Proofs.Try.prog .eql 9 t103 (.pv (.str [102, 108, 117, 115, 104])) fun t183 =>
 (condD t183
 (lock indexAddrD Go.Proofs.Try.prog 22 stage13_j24 i18_j24 fun t186 =>
 (lock loadD Go.Proofs.Try.prog σ 3 t186 fun t187 =>
 (lock binD Go.Proofs.Try.prog .neq 3 t187 (.pv (.int .i64 2)) fun t188 =>
 (guardD t188 false
 (lock binD Go.Proofs.Try.prog .neq 3 i18_j24 next14_j24 fun t192 =>
 (condD t192
 (retV ((.pv (.bool false))) σ K)
 (J9_43 env I19 m19 (counts0_j24) (room1_j24) (done12_j24) (stage13_j24) (next14_j24) (way15_j24) (i18_j24) (t86_j24) (t87_j24) (t88_j24) σ K X)))
 (retV ((.pv (.bool false))) σ K)))))
 (retV ((.pv (.bool false))) σ K)))))))))))
theorem J9_24_eq (env : Env) (I19 : Nat → List AV → AS → Prop) (m19 : Nat) (counts0_j24 room1_j24 done12_j24 stage13_j24 next14_j24 way15_j24 s17_j24 i18_j24 t86_j24 t87_j24 t88_j24 : AV) (σ : AS) (K : AV → AS → Prop) (X : PV → AS → Prop) : J9_24 env I19 m19 counts0_j24 room1_j24 done12_j24 stage13_j24 next14_j24 way15_j24 s17_j24 i18_j24 t86_j24 t87_j24 t88_j24 σ K X = wpD Go.Proofs.Try.prog env an9 (subC (bodyC Go.Proofs.Try.f9) [1, 1, 1, 1, 1, 1, 1, 1, 1, 0, 1, 0, 0, 1, 1, 0, 0, 1, 1, 1]) (contQ Go.Proofs.Try.prog env an9 (bodyC Go.Proofs.Try.f9) [1, 1, 1, 1, 1, 1, 1, 1, 1, 0, 1, 0, 0, 1, 1, 0, 0, 1, 1, 1] [(I19, m19)] (rootQ Go.Proofs.Try.prog Go.Proofs.Try.f9 K X)) [(0, counts0_j24), (1, room1_j24), (12, done12_j24), (13, stage13_j24), (14, next14_j24), (15, way15_j24), (17, s17_j24), (18, i18_j24), (86, t86_j24), (87, t87_j24), (88, t88_j24)] σ := by
  unfold J9_24
  kernel_rfl
def L9_19 (env : Env) (I19 : Nat → List AV → AS → Prop) (m19 : Nat) (counts0_l19 room1_l19 done12_l19 stage13_l19 next14_l19 way15_l19 t86_l19 t87_l19 t88_l19 : AV) (σ : AS) (K : AV → AS → Prop) (X : PV → AS → Prop) : Prop :=
 (lock binD Go.Proofs.Try.prog .lss 3 t88_l19 t87_l19 fun t89 =>
 (condD t89
 (lock indexAddrD Go.Proofs.Try.prog 36 t86_l19 t88_l19 fun t90 =>
 (lock loadD Go.Proofs.Try.prog σ 42 t90 fun t91 =>
 (lock allocD Go.Proofs.Try.prog σ 42 fun t17 σ7 =>
 (lock storeD Go.Proofs.Try.prog σ7 42 t17 t91 fun σ8 =>
 (lock fieldAddrD Go.Proofs.Try.prog 42 t17 1 fun t92 =>
 (lock loadD Go.Proofs.Try.prog σ8 3 t92 fun t93 =>
 (lock binD Go.Proofs.Try.prog .lss 3 t93 (.pv (.int .i64 0)) fun t95 =>
 (guardD t95 false
 (lock lenD Go.Proofs.Try.prog 22 counts0_l19 fun t99 =>
 (lock binD Go.Proofs.Try.prog .geq 3 t93 t99 fun t100 =>
 (condD t100
 (retV ((.pv (.bool false))) σ8 K)
 (J9_24 env I19 m19 (counts0_l19) (room1_l19) (done12_l19) (stage13_l19) (next14_l19) (way15_l19) (t17) (t93) (t86_l19) (t87_l19) (t88_l19) σ8 K X))))
 (retV ((.pv (.bool false))) σ8 K)))))))))
 (lock lenD Go.Proofs.Try.prog 22 counts0_l19 fun t202 =>
 (lock binD Go.Proofs.Try.prog .eql 3 next14_l19 t202 fun t203 =>
 (retV (t203) σ K)))))
theorem L9_19_eq (env : Env) (I19 : Nat → List AV → AS → Prop) (m19 : Nat) (counts0_l19 room1_l19 done12_l19 stage13_l19 next14_l19 way15_l19 t86_l19 t87_l19 t88_l19 : AV) (σ : AS) (K : AV → AS → Prop) (X : PV → AS → Prop) : L9_19 env I19 m19 counts0_l19 room1_l19 done12_l19 stage13_l19 next14_l19 way15_l19 t86_l19 t87_l19 t88_l19 σ K X = wpD Go.Proofs.Try.prog env an9 (subC (bodyC Go.Proofs.Try.f9) [1, 1, 1, 1, 1, 1, 1, 1, 1, 0, 1, 0, 0]) (contQ Go.Proofs.Try.prog env an9 (bodyC Go.Proofs.Try.f9) [1, 1, 1, 1, 1, 1, 1, 1, 1, 0, 1, 0, 0] [(I19, m19)] (rootQ Go.Proofs.Try.prog Go.Proofs.Try.f9 K X)) [(0, counts0_l19), (1, room1_l19), (12, done12_l19), (13, stage13_l19), (14, next14_l19), (15, way15_l19), (86, t86_l19), (87, t87_l19), (88, t88_l19)] σ := by
  unfold L9_19
  kernel_rfl
theorem lp9_19 {α : Type} {env : Env}  {counts0_l19 room1_l19 done12_l19 stage13_l19 t86_l19 t87_l19 : AV} {σ : AS} {K : AV → AS → Prop} {X : PV → AS → Prop} (μ : α → AS → Nat) (I : α → AS → Prop) (enext14_l19 eway15_l19 et88_l19 : α → AV) (a0 : α) (h0 : I a0 σ)
 (h : ∀ a σ, I a σ → L9_19 env  (Inv (fun a => [counts0_l19, room1_l19, done12_l19, stage13_l19, enext14_l19 a, eway15_l19 a, t86_l19, t87_l19, et88_l19 a]) μ I) (μ a σ) counts0_l19 room1_l19 done12_l19 stage13_l19 (enext14_l19 a) (eway15_l19 a) t86_l19 t87_l19 (et88_l19 a) σ K X) :
 ∃ I19 : Nat → List AV → AS → Prop, (∃ m, I19 m [counts0_l19, room1_l19, done12_l19, stage13_l19, enext14_l19 a0, eway15_l19 a0, t86_l19, t87_l19, et88_l19 a0] σ) ∧ ∀ (m : Nat) (x0 x1 x2 x3 x4 x5 x6 x7 x8 : AV), ∀ σ, I19 m [x0, x1, x2, x3, x4, x5, x6, x7, x8] σ →
 L9_19 env  I19 m x0 x1 x2 x3 x4 x5 x6 x7 x8 σ K X := by
  refine ⟨Inv (fun a => [counts0_l19, room1_l19, done12_l19, stage13_l19, enext14_l19 a, eway15_l19 a, t86_l19, t87_l19, et88_l19 a]) μ I, ⟨_, a0, rfl, rfl, h0⟩, ?_⟩
  rintro m x0 x1 x2 x3 x4 x5 x6 x7 x8 σ' ⟨a, hv, rfl, hI⟩
  simp only [List.cons.injEq, and_true] at hv
  obtain ⟨rfl, rfl, rfl, rfl, rfl, rfl, rfl, rfl, rfl⟩ := hv
  exact h a σ' hI
def J9_16 (env : Env)  (counts0_j16 room1_j16 l10_j16 : AV) (σ : AS) (K : AV → AS → Prop) (X : PV → AS → Prop) : Prop :=
 ((lock lenD Go.Proofs.Try.prog 22 counts0_j16 fun t81 =>
 ((lock makeSliceD Go.Proofs.Try.prog true σ 22 t81 t81 fun t82 σ25 =>
 ((lock lenD Go.Proofs.Try.prog 22 counts0_j16 fun t84 =>
 ((lock makeSliceD Go.Proofs.Try.prog true σ25 22 t84 t84 fun t85 σ26 =>
 (lock lenD Go.Proofs.Try.prog 36 l10_j16 fun t87 =>
 (∃ I19 : Nat → List AV → AS → Prop, (∃ m, I19 m [counts0_j16, room1_j16, t82, t85, (.pv (.int .i64 0)), (.pv (.int .i64 0)), l10_j16, t87, (.pv (.int .i64 0))] σ26) ∧ ∀ (m19 : Nat) (counts0_l19 room1_l19 done12_l19 stage13_l19 next14_l19 way15_l19 t86_l19 t87_l19 t88_l19 : AV), ∀ σ27, I19 m19 [counts0_l19, room1_l19, done12_l19, stage13_l19, next14_l19, way15_l19, t86_l19, t87_l19, t88_l19] σ27 →
 (L9_19 env I19 m19 counts0_l19 room1_l19 done12_l19 stage13_l19 next14_l19 way15_l19 t86_l19 t87_l19 t88_l19 σ27 K X)))) ∧ True)) ∧ True)) ∧ ((lock lenD Go.Proofs.Try.prog 22 counts0_j16 fun t84 =>
 ((lock makeSliceD Go.Proofs.Try.prog true σ 22 t81 t81 fun t82 σ22 =>
 ((lock makeSliceD Go.Proofs.Try.prog true σ22 22 t84 t84 fun t85 σ23 =>
 (lock lenD Go.Proofs.Try.prog 36 l10_j16 fun t87 =>
 (∃ I19 : Nat → List AV → AS → Prop, (∃ m, I19 m [counts0_j16, room1_j16, t82, t85, (.pv (.int .i64 0)), (.pv (.int .i64 0)), l10_j16, t87, (.pv (.int .i64 0))] σ23) ∧ ∀ (m19 : Nat) (counts0_l19 room1_l19 done12_l19 stage13_l19 next14_l19 way15_l19 t86_l19 t87_l19 t88_l19 : AV), ∀ σ24, I19 m19 [counts0_l19, room1_l19, done12_l19, stage13_l19, next14_l19, way15_l19, t86_l19, t87_l19, t88_l19] σ24 →
 (L9_19 env I19 m19 counts0_l19 room1_l19 done12_l19 stage13_l19 next14_l19 way15_l19 t86_l19 t87_l19 t88_l19 σ24 K X)))) ∧ True)) ∧ ((lock makeSliceD Go.Proofs.Try.prog true σ 22 t84 t84 fun t85 σ19 =>
 ((lock makeSliceD Go.Proofs.Try.prog true σ19 22 t81 t81 fun t82 σ20 =>
 (lock lenD Go.Proofs.Try.prog 36 l10_j16 fun t87 =>
 (∃ I19 : Nat → List AV → AS → Prop, (∃ m, I19 m [counts0_j16, room1_j16, t82, t85, (.pv (.int .i64 0)), (.pv (.int .i64 0)), l10_j16, t87, (.pv (.int .i64 0))] σ20) ∧ ∀ (m19 : Nat) (counts0_l19 room1_l19 done12_l19 stage13_l19 next14_l19 way15_l19 t86_l19 t87_l19 t88_l19 : AV), ∀ σ21, I19 m19 [counts0_l19, room1_l19, done12_l19, stage13_l19, next14_l19, way15_l19, t86_l19, t87_l19, t88_l19] σ21 →
 (L9_19 env I19 m19 counts0_l19 room1_l19 done12_l19 stage13_l19 next14_l19 way15_l19 t86_l19 t87_l19 t88_l19 σ21 K X)))) ∧ True)) ∧ True))) ∧ True))) ∧ ((lock lenD Go.Proofs.Try.prog 22 counts0_j16 fun t84 =>
 ((lock lenD Go.Proofs.Try.prog 22 counts0_j16 fun t81 =>
 ((lock makeSliceD Go.Proofs.Try.prog true σ 22 t81 t81 fun t82 σ16 =>
 ((lock makeSliceD Go.Proofs.Try.prog true σ16 22 t84 t84 fun t85 σ17 =>
 (lock lenD Go.Proofs.Try.prog 36 l10_j16 fun t87 =>
 (∃ I19 : Nat → List AV → AS → Prop, (∃ m, I19 m [counts0_j16, room1_j16, t82, t85, (.pv (.int .i64 0)), (.pv (.int .i64 0)), l10_j16, t87, (.pv (.int .i64 0))] σ17) ∧ ∀ (m19 : Nat) (counts0_l19 room1_l19 done12_l19 stage13_l19 next14_l19 way15_l19 t86_l19 t87_l19 t88_l19 : AV), ∀ σ18, I19 m19 [counts0_l19, room1_l19, done12_l19, stage13_l19, next14_l19, way15_l19, t86_l19, t87_l19, t88_l19] σ18 →
 (L9_19 env I19 m19 counts0_l19 room1_l19 done12_l19 stage13_l19 next14_l19 way15_l19 t86_l19 t87_l19 t88_l19 σ18 K X)))) ∧ True)) ∧ ((lock makeSliceD Go.Proofs.Try.prog true σ 22 t84 t84 fun t85 σ13 =>
 ((lock makeSliceD Go.Proofs.Try.prog true σ13 22 t81 t81 fun t82 σ14 =>
 (lock lenD Go.Proofs.Try.prog 36 l10_j16 fun t87 =>
 (∃ I19 : Nat → List AV → AS → Prop, (∃ m, I19 m [counts0_j16, room1_j16, t82, t85, (.pv (.int .i64 0)), (.pv (.int .i64 0)), l10_j16, t87, (.pv (.int .i64 0))] σ14) ∧ ∀ (m19 : Nat) (counts0_l19 room1_l19 done12_l19 stage13_l19 next14_l19 way15_l19 t86_l19 t87_l19 t88_l19 : AV), ∀ σ15, I19 m19 [counts0_l19, room1_l19, done12_l19, stage13_l19, next14_l19, way15_l19, t86_l19, t87_l19, t88_l19] σ15 →
 (L9_19 env I19 m19 counts0_l19 room1_l19 done12_l19 stage13_l19 next14_l19 way15_l19 t86_l19 t87_l19 t88_l19 σ15 K X)))) ∧ True)) ∧ True))) ∧ ((lock makeSliceD Go.Proofs.Try.prog true σ 22 t84 t84 fun t85 σ4 =>
 ((lock lenD Go.Proofs.Try.prog 22 counts0_j16 fun t81 =>
 ((lock makeSliceD Go.Proofs.Try.prog true σ4 22 t81 t81 fun t82 σ5 =>
 (lock lenD Go.Proofs.Try.prog 36 l10_j16 fun t87 =>
 (∃ I19 : Nat → List AV → AS → Prop, (∃ m, I19 m [counts0_j16, room1_j16, t82, t85, (.pv (.int .i64 0)), (.pv (.int .i64 0)), l10_j16, t87, (.pv (.int .i64 0))] σ5) ∧ ∀ (m19 : Nat) (counts0_l19 room1_l19 done12_l19 stage13_l19 next14_l19 way15_l19 t86_l19 t87_l19 t88_l19 : AV), ∀ σ6, I19 m19 [counts0_l19, room1_l19, done12_l19, stage13_l19, next14_l19, way15_l19, t86_l19, t87_l19, t88_l19] σ6 →
 (L9_19 env I19 m19 counts0_l19 room1_l19 done12_l19 stage13_l19 next14_l19 way15_l19 t86_l19 t87_l19 t88_l19 σ6 K X)))) ∧ True)) ∧ True)) ∧ True))) ∧ True))
theorem J9_16_eq (env : Env)  (counts0_j16 room1_j16 l10_j16 : AV) (σ : AS) (K : AV → AS → Prop) (X : PV → AS → Prop) : J9_16 env  counts0_j16 room1_j16 l10_j16 σ K X = wpD Go.Proofs.Try.prog env an9 (subC (bodyC Go.Proofs.Try.f9) [1, 1, 1, 1, 1, 1, 1]) (contQ Go.Proofs.Try.prog env an9 (bodyC Go.Proofs.Try.f9) [1, 1, 1, 1, 1, 1, 1] [] (rootQ Go.Proofs.Try.prog Go.Proofs.Try.f9 K X)) [(0, counts0_j16), (1, room1_j16), (10, l10_j16)] σ := by
  unfold J9_16
  simp only [L9_19_eq]
  kernel_rfl
def L9_7 (env : Env) (I7 : Nat → List AV → AS → Prop) (m7 : Nat) (counts0_l7 room1_l7 picks2_l7 n7_l7 t37_l7 t38_l7 t39_l7 : AV) (σ : AS) (K : AV → AS → Prop) (X : PV → AS → Prop) : Prop :=
 (lock binD Go.Proofs.Try.prog .lss 3 t39_l7 t38_l7 fun t40 =>
 (condD t40
 (lock indexAddrD Go.Proofs.Try.prog 22 t37_l7 t39_l7 fun t41 =>
 (lock loadD Go.Proofs.Try.prog σ 3 t41 fun t42 =>
 (lock binD Go.Proofs.Try.prog .lss 3 t42 (.pv (.int .i64 0)) fun t44 =>
 (guardD t44 false
 (lock binD Go.Proofs.Try.prog .sub 3 (.pv (.int .i64 2000)) n7_l7 fun t48 =>
 (lock binD Go.Proofs.Try.prog .gtr 3 t42 t48 fun t49 =>
 (condD t49
 (retV ((.pv (.bool true))) σ K)
 (J9_11 env I7 m7 (counts0_l7) (room1_l7) (picks2_l7) (n7_l7) (t42) (t37_l7) (t38_l7) (t39_l7) σ K X))))
 (retV ((.pv (.bool true))) σ K)))))
 (env 24 [counts0_l7, room1_l7, picks2_l7] σ (fun t59 σ3 =>
 (lock extractD t59 0 fun t60 =>
 (lock extractD t59 1 fun t61 =>
 (lock lenD Go.Proofs.Try.prog 36 t60 fun t63 =>
 (lock lenD Go.Proofs.Try.prog 22 counts0_l7 fun t66 =>
 (lock binD Go.Proofs.Try.prog .mul 3 (.pv (.int .i64 3)) t66 fun t67 =>
 (lock binD Go.Proofs.Try.prog .add 3 n7_l7 t67 fun t68 =>
 (lock binD Go.Proofs.Try.prog .neq 3 t63 t68 fun t69 =>
 (guardD t69 false
 (lock binD Go.Proofs.Try.prog .lss 3 t61 (.pv (.int .i64 1)) fun t72 =>
 (guardD t72 false
 (lock lenD Go.Proofs.Try.prog 22 counts0_l7 fun t77 =>
 (lock binD Go.Proofs.Try.prog .gtr 3 t61 t77 fun t78 =>
 (condD t78
 (retV ((.pv (.bool false))) σ3 K)
 (J9_16 env  (counts0_l7) (room1_l7) (t60) σ3 K X))))
 (retV ((.pv (.bool false))) σ3 K)))
 (retV ((.pv (.bool false))) σ3 K)))))))))) (panV X))))
theorem L9_7_eq (env : Env) (I7 : Nat → List AV → AS → Prop) (m7 : Nat) (counts0_l7 room1_l7 picks2_l7 n7_l7 t37_l7 t38_l7 t39_l7 : AV) (σ : AS) (K : AV → AS → Prop) (X : PV → AS → Prop) : L9_7 env I7 m7 counts0_l7 room1_l7 picks2_l7 n7_l7 t37_l7 t38_l7 t39_l7 σ K X = wpD Go.Proofs.Try.prog env an9 (subC (bodyC Go.Proofs.Try.f9) [1, 1, 1, 1, 0, 1, 0, 0]) (contQ Go.Proofs.Try.prog env an9 (bodyC Go.Proofs.Try.f9) [1, 1, 1, 1, 0, 1, 0, 0] [(I7, m7)] (rootQ Go.Proofs.Try.prog Go.Proofs.Try.f9 K X)) [(0, counts0_l7), (1, room1_l7), (2, picks2_l7), (7, n7_l7), (37, t37_l7), (38, t38_l7), (39, t39_l7)] σ := by
  unfold L9_7
  kernel_rfl
theorem lp9_7 {α : Type} {env : Env}  {counts0_l7 room1_l7 picks2_l7 t37_l7 t38_l7 : AV} {σ : AS} {K : AV → AS → Prop} {X : PV → AS → Prop} (μ : α → AS → Nat) (I : α → AS → Prop) (en7_l7 et39_l7 : α → AV) (a0 : α) (h0 : I a0 σ)
 (h : ∀ a σ, I a σ → L9_7 env  (Inv (fun a => [counts0_l7, room1_l7, picks2_l7, en7_l7 a, t37_l7, t38_l7, et39_l7 a]) μ I) (μ a σ) counts0_l7 room1_l7 picks2_l7 (en7_l7 a) t37_l7 t38_l7 (et39_l7 a) σ K X) :
 ∃ I7 : Nat → List AV → AS → Prop, (∃ m, I7 m [counts0_l7, room1_l7, picks2_l7, en7_l7 a0, t37_l7, t38_l7, et39_l7 a0] σ) ∧ ∀ (m : Nat) (x0 x1 x2 x3 x4 x5 x6 : AV), ∀ σ, I7 m [x0, x1, x2, x3, x4, x5, x6] σ →
 L9_7 env  I7 m x0 x1 x2 x3 x4 x5 x6 σ K X := by
  refine ⟨Inv (fun a => [counts0_l7, room1_l7, picks2_l7, en7_l7 a, t37_l7, t38_l7, et39_l7 a]) μ I, ⟨_, a0, rfl, rfl, h0⟩, ?_⟩
  rintro m x0 x1 x2 x3 x4 x5 x6 σ' ⟨a, hv, rfl, hI⟩
  simp only [List.cons.injEq, and_true] at hv
  obtain ⟨rfl, rfl, rfl, rfl, rfl, rfl, rfl⟩ := hv
  exact h a σ' hI
def J9_5 (env : Env)  (counts0_j5 room1_j5 picks2_j5 : AV) (σ : AS) (K : AV → AS → Prop) (X : PV → AS → Prop) : Prop :=
 (lock lenD Go.Proofs.Try.prog 22 counts0_j5 fun t38 =>
 (∃ I7 : Nat → List AV → AS → Prop, (∃ m, I7 m [counts0_j5, room1_j5, picks2_j5, (.pv (.int .i64 0)), counts0_j5, t38, (.pv (.int .i64 0))] σ) ∧ ∀ (m7 : Nat) (counts0_l7 room1_l7 picks2_l7 n7_l7 t37_l7 t38_l7 t39_l7 : AV), ∀ σ2, I7 m7 [counts0_l7, room1_l7, picks2_l7, n7_l7, t37_l7, t38_l7, t39_l7] σ2 →
 (L9_7 env I7 m7 counts0_l7 room1_l7 picks2_l7 n7_l7 t37_l7 t38_l7 t39_l7 σ2 K X)))
theorem J9_5_eq (env : Env)  (counts0_j5 room1_j5 picks2_j5 : AV) (σ : AS) (K : AV → AS → Prop) (X : PV → AS → Prop) : J9_5 env  counts0_j5 room1_j5 picks2_j5 σ K X = wpD Go.Proofs.Try.prog env an9 (subC (bodyC Go.Proofs.Try.f9) [1, 1, 1]) (contQ Go.Proofs.Try.prog env an9 (bodyC Go.Proofs.Try.f9) [1, 1, 1] [] (rootQ Go.Proofs.Try.prog Go.Proofs.Try.f9 K X)) [(0, counts0_j5), (1, room1_j5), (2, picks2_j5)] σ := by
  unfold J9_5
  simp only [L9_7_eq]
  kernel_rfl
def S9 (env : Env) (counts0_a room1_a picks2_a : AV) (σ : AS) (K : AV → AS → Prop) (X : PV → AS → Prop) : Prop :=
 (env 22 [] σ (fun t19 σ1 =>
 (unD .not t19 fun t20 =>
 (condD t20
 (retV ((.pv (.bool false))) σ1 K)
 (lock lenD Go.Proofs.Try.prog 22 counts0_a fun t22 =>
 (lock binD Go.Proofs.Try.prog .eql 3 t22 (.pv (.int .i64 0)) fun t23 =>
 (guardD t23 false
 (lock lenD Go.Proofs.Try.prog 22 counts0_a fun t26 =>
 (lock binD Go.Proofs.Try.prog .gtr 3 t26 (.pv (.int .i64 200)) fun t27 =>
 (guardD t27 false
 (lock binD Go.Proofs.Try.prog .lss 3 room1_a (.pv (.int .i64 1)) fun t31 =>
 (guardD t31 false
 (lock binD Go.Proofs.Try.prog .gtr 3 room1_a (.pv (.int .i64 4096)) fun t35 =>
 (condD t35
 (retV ((.pv (.bool true))) σ1 K)
 (J9_5 env  (counts0_a) (room1_a) (picks2_a) σ1 K X)))
 (retV ((.pv (.bool true))) σ1 K)))
 (retV ((.pv (.bool true))) σ1 K))))
 (retV ((.pv (.bool true))) σ1 K))))))) (panV X))
theorem S9_eq (env : Env) (counts0_a room1_a picks2_a : AV) (σ : AS) (K : AV → AS → Prop) (X : PV → AS → Prop) : S9 env counts0_a room1_a picks2_a σ K X = bodyD Go.Proofs.Try.prog env an9 Go.Proofs.Try.f9 [counts0_a, room1_a, picks2_a] σ K X := by
  unfold S9
  kernel_rfl
theorem S9_ok : (match Go.Proofs.Try.f9.body with | some c => okCode an9 Go.Proofs.Try.prog Go.Proofs.Try.f9.ntmps c | none => false) = true := by kernel_rfl
/-! ### tedder/tedderlaw21.SchedFirst (function 10) -/
def an10 : An := { mu := [], cut := [(14, [0, 1, 2, 7])], loop := [(8, [0, 1, 2, 7, 8, 9, 32, 33]), (16, [0, 1, 2, 12, 55, 56, 57])] }
def L10_16 (env : Env) (I16 : Nat → List AV → AS → Prop) (m16 : Nat) (counts0_l16 room1_l16 picks2_l16 last12_l16 t55_l16 t56_l16 t57_l16 : AV) (σ : AS) (K : AV → AS → Prop) (X : PV → AS → Prop) : Prop :=
 (lock binD Go.Proofs.Try.prog .lss 3 t57_l16 t56_l16 fun t58 =>
 (condD t58
 (lock indexAddrD Go.Proofs.Try.prog 36 t55_l16 t57_l16 fun t59 =>
 (lock loadD Go.Proofs.Try.prog σ 42 t59 fun t60 =>
 (lock allocD Go.Proofs.Try.prog σ 42 fun t14 σ10 =>
 (lock storeD Go.Proofs.Try.prog σ10 42 t14 t60 fun σ11 =>
 (lock fieldAddrD Go.Proofs.Try.prog 42 t14 0 fun t61 =>
 (lock loadD Go.Proofs.Try.prog σ11 9 t61 fun t62 =>
 (lock binD Go.Proofs.Try.prog .eql 9 t62 (.pv (.str [119, 111, 114, 107])) fun t63 =>
 (condD t63
 (lock fieldAddrD Go.Proofs.Try.prog 42 t14 1 fun t64 =>
 (lock loadD Go.Proofs.Try.prog σ11 3 t64 fun t65 =>
 (lock binD Go.Proofs.Try.prog .lss 3 t65 last12_l16 fun t67 =>
 (condD t67
 (retV ((.pv (.bool false))) σ11 K)
 (lock fieldAddrD Go.Proofs.Try.prog 42 t14 1 fun t68 =>
 (lock loadD Go.Proofs.Try.prog σ11 3 t68 fun t69 =>
 (lock binD Go.Proofs.Try.prog .add 3 t57_l16 (.pv (.int .i64 1)) fun t70 =>
 (∃ m', m' < m16 ∧ I16 m' [counts0_l16, room1_l16, picks2_l16, t69, t55_l16, t56_l16, t70] σ11))))))))
 (lock binD Go.Proofs.Try.prog .add 3 t57_l16 (.pv (.int .i64 1)) fun t70 =>
 (∃ m', m' < m16 ∧ I16 m' [counts0_l16, room1_l16, picks2_l16, last12_l16, t55_l16, t56_l16, t70] σ11))))))))))
 (env 24 [counts0_l16, room1_l16, picks2_l16] σ (fun t75 σ12 =>
 (lock extractD t75 0 fun t76 =>
 (lock extractD t75 1 fun t77 =>
 (lock lenD Go.Proofs.Try.prog 22 picks2_l16 fun t79 =>
 (lock lenD Go.Proofs.Try.prog 36 t76 fun t81 =>
 (lock binD Go.Proofs.Try.prog .gtr 3 t79 t81 fun t82 =>
 (condD t82
 (lock lenD Go.Proofs.Try.prog 36 t76 fun t88 =>
 (lock sliceD Go.Proofs.Try.prog 22 picks2_l16 none (some t88) fun t89 =>
 (env 24 [counts0_l16, room1_l16, t89] σ12 (fun t90 σ13 =>
 (lock extractD t90 0 fun t91 =>
 (lock extractD t90 1 fun t92 =>
 (lock binD Go.Proofs.Try.prog .eql 3 t77 t92 fun t95 =>
 (guardD t95 true
 (env 26 [t76, t91] σ13 (fun t99 σ14 =>
 (retV (t99) σ14 K)) (panV X))
 (retV ((.pv (.bool false))) σ13 K)))))) (panV X))))
 (retV ((.pv (.bool true))) σ12 K)))))))) (panV X))))
theorem L10_16_eq (env : Env) (I16 : Nat → List AV → AS → Prop) (m16 : Nat) (counts0_l16 room1_l16 picks2_l16 last12_l16 t55_l16 t56_l16 t57_l16 : AV) (σ : AS) (K : AV → AS → Prop) (X : PV → AS → Prop) : L10_16 env I16 m16 counts0_l16 room1_l16 picks2_l16 last12_l16 t55_l16 t56_l16 t57_l16 σ K X = wpD Go.Proofs.Try.prog env an10 (subC (bodyC Go.Proofs.Try.f10) [1, 1, 1, 1, 1, 1, 1, 1, 1, 0, 1, 0, 0]) (contQ Go.Proofs.Try.prog env an10 (bodyC Go.Proofs.Try.f10) [1, 1, 1, 1, 1, 1, 1, 1, 1, 0, 1, 0, 0] [(I16, m16)] (rootQ Go.Proofs.Try.prog Go.Proofs.Try.f10 K X)) [(0, counts0_l16), (1, room1_l16), (2, picks2_l16), (12, last12_l16), (55, t55_l16), (56, t56_l16), (57, t57_l16)] σ := by
  unfold L10_16
  kernel_rfl
theorem lp10_16 {α : Type} {env : Env}  {counts0_l16 room1_l16 picks2_l16 t55_l16 t56_l16 : AV} {σ : AS} {K : AV → AS → Prop} {X : PV → AS → Prop} (μ : α → AS → Nat) (I : α → AS → Prop) (elast12_l16 et57_l16 : α → AV) (a0 : α) (h0 : I a0 σ)
 (h : ∀ a σ, I a σ → L10_16 env  (Inv (fun a => [counts0_l16, room1_l16, picks2_l16, elast12_l16 a, t55_l16, t56_l16, et57_l16 a]) μ I) (μ a σ) counts0_l16 room1_l16 picks2_l16 (elast12_l16 a) t55_l16 t56_l16 (et57_l16 a) σ K X) :
 ∃ I16 : Nat → List AV → AS → Prop, (∃ m, I16 m [counts0_l16, room1_l16, picks2_l16, elast12_l16 a0, t55_l16, t56_l16, et57_l16 a0] σ) ∧ ∀ (m : Nat) (x0 x1 x2 x3 x4 x5 x6 : AV), ∀ σ, I16 m [x0, x1, x2, x3, x4, x5, x6] σ →
 L10_16 env  I16 m x0 x1 x2 x3 x4 x5 x6 σ K X := by
  refine ⟨Inv (fun a => [counts0_l16, room1_l16, picks2_l16, elast12_l16 a, t55_l16, t56_l16, et57_l16 a]) μ I, ⟨_, a0, rfl, rfl, h0⟩, ?_⟩
  rintro m x0 x1 x2 x3 x4 x5 x6 σ' ⟨a, hv, rfl, hI⟩
  simp only [List.cons.injEq, and_true] at hv
  obtain ⟨rfl, rfl, rfl, rfl, rfl, rfl, rfl⟩ := hv
  exact h a σ' hI
def J10_14 (env : Env)  (counts0_j14 room1_j14 picks2_j14 a7_j14 : AV) (σ : AS) (K : AV → AS → Prop) (X : PV → AS → Prop) : Prop :=
 (lock lenD Go.Proofs.Try.prog 36 a7_j14 fun t56 =>
 (∃ I16 : Nat → List AV → AS → Prop, (∃ m, I16 m [counts0_j14, room1_j14, picks2_j14, (.pv (.int .i64 0)), a7_j14, t56, (.pv (.int .i64 0))] σ) ∧ ∀ (m16 : Nat) (counts0_l16 room1_l16 picks2_l16 last12_l16 t55_l16 t56_l16 t57_l16 : AV), ∀ σ9, I16 m16 [counts0_l16, room1_l16, picks2_l16, last12_l16, t55_l16, t56_l16, t57_l16] σ9 →
 (L10_16 env I16 m16 counts0_l16 room1_l16 picks2_l16 last12_l16 t55_l16 t56_l16 t57_l16 σ9 K X)))
theorem J10_14_eq (env : Env)  (counts0_j14 room1_j14 picks2_j14 a7_j14 : AV) (σ : AS) (K : AV → AS → Prop) (X : PV → AS → Prop) : J10_14 env  counts0_j14 room1_j14 picks2_j14 a7_j14 σ K X = wpD Go.Proofs.Try.prog env an10 (subC (bodyC Go.Proofs.Try.f10) [1, 1, 1, 1, 1, 1, 1, 1]) (contQ Go.Proofs.Try.prog env an10 (bodyC Go.Proofs.Try.f10) [1, 1, 1, 1, 1, 1, 1, 1] [] (rootQ Go.Proofs.Try.prog Go.Proofs.Try.f10 K X)) [(0, counts0_j14), (1, room1_j14), (2, picks2_j14), (7, a7_j14)] σ := by
  unfold J10_14
  simp only [L10_16_eq]
  kernel_rfl
def L10_8 (env : Env) (I8 : Nat → List AV → AS → Prop) (m8 : Nat) (counts0_l8 room1_l8 picks2_l8 a7_l8 n8_l8 none9_l8 t32_l8 t33_l8 : AV) (σ : AS) (K : AV → AS → Prop) (X : PV → AS → Prop) : Prop :=
 (lock binD Go.Proofs.Try.prog .lss 3 t33_l8 t32_l8 fun t34 =>
 (condD t34
 (lock buildSliceD Go.Proofs.Try.prog false σ 22 1 1 [(0, (.pv (.int .i64 0)))] fun t36 σ5 =>
 (lock appendD Go.Proofs.Try.prog false σ5 22 none9_l8 t36 fun t37 σ6 =>
 (lock binD Go.Proofs.Try.prog .add 3 t33_l8 (.pv (.int .i64 1)) fun t38 =>
 (∃ m', m' < m8 ∧ I8 m' [counts0_l8, room1_l8, picks2_l8, a7_l8, n8_l8, t37, t32_l8, t38] σ6))))
 (env 24 [counts0_l8, room1_l8, none9_l8] σ (fun t43 σ7 =>
 (lock extractD t43 0 fun t44 =>
 (lock extractD t43 1 fun t45 =>
 (lock binD Go.Proofs.Try.prog .neq 3 n8_l8 t45 fun t48 =>
 (guardD t48 false
 (env 26 [a7_l8, t44] σ7 (fun t52 σ8 =>
 (unD .not t52 fun t53 =>
 (condD t53
 (retV ((.pv (.bool false))) σ8 K)
 (J10_14 env  (counts0_l8) (room1_l8) (picks2_l8) (a7_l8) σ8 K X)))) (panV X))
 (retV ((.pv (.bool false))) σ7 K)))))) (panV X))))
theorem L10_8_eq (env : Env) (I8 : Nat → List AV → AS → Prop) (m8 : Nat) (counts0_l8 room1_l8 picks2_l8 a7_l8 n8_l8 none9_l8 t32_l8 t33_l8 : AV) (σ : AS) (K : AV → AS → Prop) (X : PV → AS → Prop) : L10_8 env I8 m8 counts0_l8 room1_l8 picks2_l8 a7_l8 n8_l8 none9_l8 t32_l8 t33_l8 σ K X = wpD Go.Proofs.Try.prog env an10 (subC (bodyC Go.Proofs.Try.f10) [1, 1, 1, 1, 1, 0, 1, 0, 0]) (contQ Go.Proofs.Try.prog env an10 (bodyC Go.Proofs.Try.f10) [1, 1, 1, 1, 1, 0, 1, 0, 0] [(I8, m8)] (rootQ Go.Proofs.Try.prog Go.Proofs.Try.f10 K X)) [(0, counts0_l8), (1, room1_l8), (2, picks2_l8), (7, a7_l8), (8, n8_l8), (9, none9_l8), (32, t32_l8), (33, t33_l8)] σ := by
  unfold L10_8
  kernel_rfl
theorem lp10_8 {α : Type} {env : Env}  {counts0_l8 room1_l8 picks2_l8 a7_l8 n8_l8 t32_l8 : AV} {σ : AS} {K : AV → AS → Prop} {X : PV → AS → Prop} (μ : α → AS → Nat) (I : α → AS → Prop) (enone9_l8 et33_l8 : α → AV) (a0 : α) (h0 : I a0 σ)
 (h : ∀ a σ, I a σ → L10_8 env  (Inv (fun a => [counts0_l8, room1_l8, picks2_l8, a7_l8, n8_l8, enone9_l8 a, t32_l8, et33_l8 a]) μ I) (μ a σ) counts0_l8 room1_l8 picks2_l8 a7_l8 n8_l8 (enone9_l8 a) t32_l8 (et33_l8 a) σ K X) :
 ∃ I8 : Nat → List AV → AS → Prop, (∃ m, I8 m [counts0_l8, room1_l8, picks2_l8, a7_l8, n8_l8, enone9_l8 a0, t32_l8, et33_l8 a0] σ) ∧ ∀ (m : Nat) (x0 x1 x2 x3 x4 x5 x6 x7 : AV), ∀ σ, I8 m [x0, x1, x2, x3, x4, x5, x6, x7] σ →
 L10_8 env  I8 m x0 x1 x2 x3 x4 x5 x6 x7 σ K X := by
  refine ⟨Inv (fun a => [counts0_l8, room1_l8, picks2_l8, a7_l8, n8_l8, enone9_l8 a, t32_l8, et33_l8 a]) μ I, ⟨_, a0, rfl, rfl, h0⟩, ?_⟩
  rintro m x0 x1 x2 x3 x4 x5 x6 x7 σ' ⟨a, hv, rfl, hI⟩
  simp only [List.cons.injEq, and_true] at hv
  obtain ⟨rfl, rfl, rfl, rfl, rfl, rfl, rfl, rfl⟩ := hv
  exact h a σ' hI
def S10 (env : Env) (counts0_a room1_a picks2_a : AV) (σ : AS) (K : AV → AS → Prop) (X : PV → AS → Prop) : Prop :=
 (env 22 [] σ (fun t19 σ1 =>
 (unD .not t19 fun t20 =>
 (condD t20
 (retV ((.pv (.bool false))) σ1 K)
 (env 23 [counts0_a] σ1 (fun t22 σ2 =>
 (unD .not t22 fun t23 =>
 (condD t23
 (retV ((.pv (.bool true))) σ2 K)
 (env 24 [counts0_a, room1_a, (.nilS)] σ2 (fun t27 σ3 =>
 (lock extractD t27 0 fun t28 =>
 (lock extractD t27 1 fun t29 =>
 (lock lenD Go.Proofs.Try.prog 36 t28 fun t31 =>
 (lock binD Go.Proofs.Try.prog .add 3 t31 (.pv (.int .i64 3)) fun t32 =>
 (∃ I8 : Nat → List AV → AS → Prop, (∃ m, I8 m [counts0_a, room1_a, picks2_a, t28, t29, (.nilS), t32, (.pv (.int .i64 0))] σ3) ∧ ∀ (m8 : Nat) (counts0_l8 room1_l8 picks2_l8 a7_l8 n8_l8 none9_l8 t32_l8 t33_l8 : AV), ∀ σ4, I8 m8 [counts0_l8, room1_l8, picks2_l8, a7_l8, n8_l8, none9_l8, t32_l8, t33_l8] σ4 →
 (L10_8 env I8 m8 counts0_l8 room1_l8 picks2_l8 a7_l8 n8_l8 none9_l8 t32_l8 t33_l8 σ4 K X))))))) (panV X))))) (panV X))))) (panV X))
theorem S10_eq (env : Env) (counts0_a room1_a picks2_a : AV) (σ : AS) (K : AV → AS → Prop) (X : PV → AS → Prop) : S10 env counts0_a room1_a picks2_a σ K X = bodyD Go.Proofs.Try.prog env an10 Go.Proofs.Try.f10 [counts0_a, room1_a, picks2_a] σ K X := by
  unfold S10
  simp only [L10_8_eq]
  kernel_rfl
theorem S10_ok : (match Go.Proofs.Try.f10.body with | some c => okCode an10 Go.Proofs.Try.prog Go.Proofs.Try.f10.ntmps c | none => false) = true := by kernel_rfl
end Go.AD
