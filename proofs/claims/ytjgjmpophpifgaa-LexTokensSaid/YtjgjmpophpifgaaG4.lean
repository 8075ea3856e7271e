/- Bodies in the calculus' own words. Printed by gen.py, a program of this claim's own. -/
import Derived.Test.YtjgjmpophpifgaaTy
set_option linter.unusedVariables false
set_option maxRecDepth 100000
namespace Go.AD
/-! ### tedder/tedderlaw05.awake (function 10) -/
def an10 : An := { mu := [], cut := [], loop := [] }
def S10 (env : Env) (σ : AS) (K : AV → AS → Prop) (X : PV → AS → Prop) : Prop :=
 (env 11 [(.pv (.str [97, 47, 98, 32, 126, 47, 99, 47]))] σ (fun t4 σ1 =>
 (lock extractD t4 0 fun t5 =>
 (lock extractD t4 1 fun t6 =>
 (guardD t6 true
 (lock lenD Go.Proofs.Try.prog 23 t5 fun t10 =>
 (lock binD Go.Proofs.Try.prog .eql 3 t10 (.pv (.int .i64 5)) fun t11 =>
 (guardD t11 true
 (lock indexAddrD Go.Proofs.Try.prog 23 t5 (.pv (.int .i64 1)) fun t15 =>
 (lock fieldAddrD Go.Proofs.Try.prog 30 t15 0 fun t16 =>
 (lock loadD Go.Proofs.Try.prog σ1 9 t16 fun t17 =>
 (lock binD Go.Proofs.Try.prog .eql 9 t17 (.pv (.str [111, 112])) fun t18 =>
 (guardD t18 true
 (lock indexAddrD Go.Proofs.Try.prog 23 t5 (.pv (.int .i64 4)) fun t22 =>
 (lock fieldAddrD Go.Proofs.Try.prog 30 t22 0 fun t23 =>
 (lock loadD Go.Proofs.Try.prog σ1 9 t23 fun t24 =>
 (lock binD Go.Proofs.Try.prog .eql 9 t24 (.pv (.str [101, 114, 101])) fun t25 =>
 (guardD t25 true
 (lock indexAddrD Go.Proofs.Try.prog 23 t5 (.pv (.int .i64 4)) fun t29 =>
 (lock fieldAddrD Go.Proofs.Try.prog 30 t29 1 fun t30 =>
 (lock loadD Go.Proofs.Try.prog σ1 9 t30 fun t31 =>
 (lock binD Go.Proofs.Try.prog .eql 9 t31 (.pv (.str [99])) fun t32 =>
 (retV (t32) σ1 K)))))
 (retV ((.pv (.bool false))) σ1 K))))))
 (retV ((.pv (.bool false))) σ1 K))))))
 (retV ((.pv (.bool false))) σ1 K))))
 (retV ((.pv (.bool false))) σ1 K))))) (panV X))
theorem S10_eq (env : Env) (σ : AS) (K : AV → AS → Prop) (X : PV → AS → Prop) : S10 env  σ K X = bodyD Go.Proofs.Try.prog env an10 Go.Proofs.Try.f10 [] σ K X := by
  unfold S10
  kernel_rfl
theorem S10_ok : (match Go.Proofs.Try.f10.body with | some c => okCode an10 Go.Proofs.Try.prog Go.Proofs.Try.f10.ntmps c | none => false) = true := by kernel_rfl
/-! ### tedder/tedderlaw05.quote (function 14) -/
def an14 : An := { mu := [], cut := [], loop := [(3, [0, 3, 4])], any := [5] }
def L14_3 (env : Env) (I3 : Nat → List AV → AS → Prop) (m3 : Nat) (s0_l3 b3_l3 i4_l3 : AV) (σ : AS) (K : AV → AS → Prop) (X : PV → AS → Prop) : Prop :=
 (lock lenD Go.Proofs.Try.prog 9 s0_l3 fun t8 =>
 (lock binD Go.Proofs.Try.prog .lss 3 i4_l3 t8 fun t9 =>
 (condD t9
 (lock indexD Go.Proofs.Try.prog 9 s0_l3 i4_l3 fun t15 =>
 (lock binD Go.Proofs.Try.prog .quo 5 t15 (.pv (.int .u8 64)) fun t16 =>
 (lock binD Go.Proofs.Try.prog .add 5 (.pv (.int .u8 48)) t16 fun t17 =>
 (lock indexD Go.Proofs.Try.prog 9 s0_l3 i4_l3 fun t20 =>
 (lock binD Go.Proofs.Try.prog .quo 5 t20 (.pv (.int .u8 8)) fun t21 =>
 (lock binD Go.Proofs.Try.prog .rem 5 t21 (.pv (.int .u8 8)) fun t22 =>
 (lock binD Go.Proofs.Try.prog .add 5 (.pv (.int .u8 48)) t22 fun t23 =>
 (lock indexD Go.Proofs.Try.prog 9 s0_l3 i4_l3 fun t26 =>
 (lock binD Go.Proofs.Try.prog .rem 5 t26 (.pv (.int .u8 8)) fun t27 =>
 (lock binD Go.Proofs.Try.prog .add 5 (.pv (.int .u8 48)) t27 fun t28 =>
 ((lock buildSliceD Go.Proofs.Try.prog false σ 50 4 4 [(0, (.pv (.int .u8 92))), (1, t17), (2, t23), (3, t28)] fun t29 σ3 =>
 ((lock appendD Go.Proofs.Try.prog false σ3 50 b3_l3 t29 fun t30 σ4 =>
 (lock binD Go.Proofs.Try.prog .add 3 i4_l3 (.pv (.int .i64 1)) fun t11 =>
 (∃ m', m' < m3 ∧ I3 m' [s0_l3, t30, t11] σ4))) ∧ True)) ∧ True)))))))))))
 (lock buildSliceD Go.Proofs.Try.prog false σ 50 1 1 [(0, (.pv (.int .u8 34)))] fun t32 σ5 =>
 (lock appendD Go.Proofs.Try.prog false σ5 50 b3_l3 t32 fun t33 σ6 =>
 (lock convD Go.Proofs.Try.prog σ6 50 9 t33 fun t34 =>
 (retV (t34) σ6 K)))))))
theorem L14_3_eq (env : Env) (I3 : Nat → List AV → AS → Prop) (m3 : Nat) (s0_l3 b3_l3 i4_l3 : AV) (σ : AS) (K : AV → AS → Prop) (X : PV → AS → Prop) : L14_3 env I3 m3 s0_l3 b3_l3 i4_l3 σ K X = wpD Go.Proofs.Try.prog env an14 (subC (bodyC Go.Proofs.Try.f14) [1, 1, 0, 1, 0, 0]) (contQ Go.Proofs.Try.prog env an14 (bodyC Go.Proofs.Try.f14) [1, 1, 0, 1, 0, 0] [(I3, m3)] (rootQ Go.Proofs.Try.prog Go.Proofs.Try.f14 K X)) [(0, s0_l3), (3, b3_l3), (4, i4_l3)] σ := by
  unfold L14_3
  kernel_rfl
theorem lp14_3 {α : Type} {env : Env}  {s0_l3 : AV} {σ : AS} {K : AV → AS → Prop} {X : PV → AS → Prop} (μ : α → AS → Nat) (I : α → AS → Prop) (eb3_l3 ei4_l3 : α → AV) (a0 : α) (h0 : I a0 σ)
 (h : ∀ a σ, I a σ → L14_3 env  (Inv (fun a => [s0_l3, eb3_l3 a, ei4_l3 a]) μ I) (μ a σ) s0_l3 (eb3_l3 a) (ei4_l3 a) σ K X) :
 ∃ I3 : Nat → List AV → AS → Prop, (∃ m, I3 m [s0_l3, eb3_l3 a0, ei4_l3 a0] σ) ∧ ∀ (m : Nat) (x0 x1 x2 : AV), ∀ σ, I3 m [x0, x1, x2] σ →
 L14_3 env  I3 m x0 x1 x2 σ K X := by
  refine ⟨Inv (fun a => [s0_l3, eb3_l3 a, ei4_l3 a]) μ I, ⟨_, a0, rfl, rfl, h0⟩, ?_⟩
  rintro m x0 x1 x2 σ' ⟨a, hv, rfl, hI⟩
  simp only [List.cons.injEq, and_true] at hv
  obtain ⟨rfl, rfl, rfl⟩ := hv
  exact h a σ' hI
def S14 (env : Env) (s0_a : AV) (σ : AS) (K : AV → AS → Prop) (X : PV → AS → Prop) : Prop :=
 (lock buildSliceD Go.Proofs.Try.prog false σ 50 1 1 [(0, (.pv (.int .u8 34)))] fun t5 σ1 =>
 (∃ I3 : Nat → List AV → AS → Prop, (∃ m, I3 m [s0_a, t5, (.pv (.int .i64 0))] σ1) ∧ ∀ (m3 : Nat) (s0_l3 b3_l3 i4_l3 : AV), ∀ σ2, I3 m3 [s0_l3, b3_l3, i4_l3] σ2 →
 (L14_3 env I3 m3 s0_l3 b3_l3 i4_l3 σ2 K X)))
theorem S14_eq (env : Env) (s0_a : AV) (σ : AS) (K : AV → AS → Prop) (X : PV → AS → Prop) : S14 env s0_a σ K X = bodyD Go.Proofs.Try.prog env an14 Go.Proofs.Try.f14 [s0_a] σ K X := by
  unfold S14
  simp only [L14_3_eq]
  kernel_rfl
theorem S14_ok : (match Go.Proofs.Try.f14.body with | some c => okCode an14 Go.Proofs.Try.prog Go.Proofs.Try.f14.ntmps c | none => false) = true := by kernel_rfl
/-! ### tedder/tedderlaw05.LexTokens (function 3) -/
def an3 : An := { mu := [], cut := [(5, [0])], loop := [] }
def J3_5 (env : Env)  (s0_j5 : AV) (σ : AS) (K : AV → AS → Prop) (X : PV → AS → Prop) : Prop :=
 (env 11 [s0_j5] σ (fun t19 σ2 =>
 (lock extractD t19 0 fun t20 =>
 (lock extractD t19 1 fun t21 =>
 (env 12 [s0_j5] σ2 (fun t24 σ3 =>
 (lock extractD t24 0 fun t25 =>
 (lock extractD t24 1 fun t26 =>
 (lock binD Go.Proofs.Try.prog .eql 4 t21 t26 fun t29 =>
 (guardD t29 true
 (env 13 [t20, t25] σ3 (fun t33 σ4 =>
 (retV (t33) σ4 K)) (panV X))
 (retV ((.pv (.bool false))) σ3 K)))))) (panV X))))) (panV X))
theorem J3_5_eq (env : Env)  (s0_j5 : AV) (σ : AS) (K : AV → AS → Prop) (X : PV → AS → Prop) : J3_5 env  s0_j5 σ K X = wpD Go.Proofs.Try.prog env an3 (subC (bodyC Go.Proofs.Try.f3) [1, 1, 1]) (contQ Go.Proofs.Try.prog env an3 (bodyC Go.Proofs.Try.f3) [1, 1, 1] [] (rootQ Go.Proofs.Try.prog Go.Proofs.Try.f3 K X)) [(0, s0_j5)] σ := by
  unfold J3_5
  kernel_rfl
def S3 (env : Env) (s0_a : AV) (σ : AS) (K : AV → AS → Prop) (X : PV → AS → Prop) : Prop :=
 (env 10 [] σ (fun t7 σ1 =>
 (unD .not t7 fun t8 =>
 (condD t8
 (retV ((.pv (.bool false))) σ1 K)
 (lock lenD Go.Proofs.Try.prog 9 s0_a fun t10 =>
 (lock binD Go.Proofs.Try.prog .gtr 3 t10 (.pv (.int .i64 3000)) fun t11 =>
 (guardD t11 true
 (lock lenD Go.Proofs.Try.prog 9 s0_a fun t14 =>
 (lock binD Go.Proofs.Try.prog .leq 3 t14 (.pv (.int .i64 65536)) fun t15 =>
 (condD t15
 (retV ((.pv (.bool true))) σ1 K)
 (J3_5 env  (s0_a) σ1 K X))))
 (J3_5 env  (s0_a) σ1 K X))))))) (panV X))
theorem S3_eq (env : Env) (s0_a : AV) (σ : AS) (K : AV → AS → Prop) (X : PV → AS → Prop) : S3 env s0_a σ K X = bodyD Go.Proofs.Try.prog env an3 Go.Proofs.Try.f3 [s0_a] σ K X := by
  unfold S3
  kernel_rfl
theorem S3_ok : (match Go.Proofs.Try.f3.body with | some c => okCode an3 Go.Proofs.Try.prog Go.Proofs.Try.f3.ntmps c | none => false) = true := by kernel_rfl
/-! ### tedder/tedderlaw05.LexQuotes (function 4) -/
def an4 : An := { mu := [], cut := [], loop := [] }
def S4 (env : Env) (s0_a : AV) (σ : AS) (K : AV → AS → Prop) (X : PV → AS → Prop) : Prop :=
 (env 10 [] σ (fun t5 σ1 =>
 (unD .not t5 fun t6 =>
 (condD t6
 (retV ((.pv (.bool false))) σ1 K)
 (lock lenD Go.Proofs.Try.prog 9 s0_a fun t8 =>
 (lock binD Go.Proofs.Try.prog .gtr 3 t8 (.pv (.int .i64 3000)) fun t9 =>
 (condD t9
 (retV ((.pv (.bool true))) σ1 K)
 (env 14 [s0_a] σ1 (fun t12 σ2 =>
 (env 11 [t12] σ2 (fun t13 σ3 =>
 (lock extractD t13 0 fun t14 =>
 (lock extractD t13 1 fun t15 =>
 (guardD t15 true
 (lock lenD Go.Proofs.Try.prog 23 t14 fun t19 =>
 (lock binD Go.Proofs.Try.prog .eql 3 t19 (.pv (.int .i64 1)) fun t20 =>
 (guardD t20 true
 (lock indexAddrD Go.Proofs.Try.prog 23 t14 (.pv (.int .i64 0)) fun t24 =>
 (lock fieldAddrD Go.Proofs.Try.prog 30 t24 0 fun t25 =>
 (lock loadD Go.Proofs.Try.prog σ3 9 t25 fun t26 =>
 (lock binD Go.Proofs.Try.prog .eql 9 t26 (.pv (.str [115, 116, 114])) fun t27 =>
 (guardD t27 true
 (lock indexAddrD Go.Proofs.Try.prog 23 t14 (.pv (.int .i64 0)) fun t31 =>
 (lock fieldAddrD Go.Proofs.Try.prog 30 t31 1 fun t32 =>
 (lock loadD Go.Proofs.Try.prog σ3 9 t32 fun t33 =>
 (lock binD Go.Proofs.Try.prog .eql 9 t33 s0_a fun t35 =>
 (retV (t35) σ3 K)))))
 (retV ((.pv (.bool false))) σ3 K))))))
 (retV ((.pv (.bool false))) σ3 K))))
 (retV ((.pv (.bool false))) σ3 K))))) (panV X))) (panV X)))))))) (panV X))
theorem S4_eq (env : Env) (s0_a : AV) (σ : AS) (K : AV → AS → Prop) (X : PV → AS → Prop) : S4 env s0_a σ K X = bodyD Go.Proofs.Try.prog env an4 Go.Proofs.Try.f4 [s0_a] σ K X := by
  unfold S4
  kernel_rfl
theorem S4_ok : (match Go.Proofs.Try.f4.body with | some c => okCode an4 Go.Proofs.Try.prog Go.Proofs.Try.f4.ntmps c | none => false) = true := by kernel_rfl
/-! ### tedder/tedderlaw05.LexJoins (function 5) -/
def an5 : An := { mu := [], cut := [(5, [0, 1]), (9, [5, 6, 7, 9, 10, 57]), (12, [5, 7, 9])], loop := [] }
def J5_12 (env : Env)  (a5_j12 b7_j12 c9_j12 : AV) (σ : AS) (K : AV → AS → Prop) (X : PV → AS → Prop) : Prop :=
 (lock lenD Go.Proofs.Try.prog 23 a5_j12 fun t87 =>
 (lock sliceD Go.Proofs.Try.prog 23 c9_j12 none (some t87) fun t88 =>
 (env 13 [t88, a5_j12] σ (fun t90 σ5 =>
 (guardD t90 true
 (lock lenD Go.Proofs.Try.prog 23 a5_j12 fun t94 =>
 (lock binD Go.Proofs.Try.prog .add 3 t94 (.pv (.int .i64 1)) fun t95 =>
 (lock sliceD Go.Proofs.Try.prog 23 c9_j12 (some t95) none fun t96 =>
 (env 13 [t96, b7_j12] σ5 (fun t98 σ6 =>
 (retV (t98) σ6 K)) (panV X)))))
 (retV ((.pv (.bool false))) σ5 K))) (panV X))))
theorem J5_12_eq (env : Env)  (a5_j12 b7_j12 c9_j12 : AV) (σ : AS) (K : AV → AS → Prop) (X : PV → AS → Prop) : J5_12 env  a5_j12 b7_j12 c9_j12 σ K X = wpD Go.Proofs.Try.prog env an5 (subC (bodyC Go.Proofs.Try.f5) [1, 1, 1, 1, 1, 1, 1, 1]) (contQ Go.Proofs.Try.prog env an5 (bodyC Go.Proofs.Try.f5) [1, 1, 1, 1, 1, 1, 1, 1] [] (rootQ Go.Proofs.Try.prog Go.Proofs.Try.f5 K X)) [(5, a5_j12), (7, b7_j12), (9, c9_j12)] σ := by
  unfold J5_12
  kernel_rfl
def J5_9 (env : Env)  (a5_j9 ok6_j9 b7_j9 c9_j9 both10_j9 t57_j9 : AV) (σ : AS) (K : AV → AS → Prop) (X : PV → AS → Prop) : Prop :=
 (condD t57_j9
 (guardD ok6_j9 false
 (unD .not both10_j9 fun t61 =>
 (retV (t61) σ K))
 (retV ((.pv (.bool true))) σ K))
 (unD .not both10_j9 fun t64 =>
 (guardD t64 false
 (lock lenD Go.Proofs.Try.prog 23 c9_j9 fun t67 =>
 (lock lenD Go.Proofs.Try.prog 23 a5_j9 fun t69 =>
 (lock binD Go.Proofs.Try.prog .add 3 t69 (.pv (.int .i64 1)) fun t70 =>
 (lock lenD Go.Proofs.Try.prog 23 b7_j9 fun t72 =>
 (lock binD Go.Proofs.Try.prog .add 3 t70 t72 fun t73 =>
 (lock binD Go.Proofs.Try.prog .neq 3 t67 t73 fun t74 =>
 (guardD t74 false
 (lock lenD Go.Proofs.Try.prog 23 a5_j9 fun t79 =>
 (lock indexAddrD Go.Proofs.Try.prog 23 c9_j9 t79 fun t80 =>
 (lock fieldAddrD Go.Proofs.Try.prog 30 t80 0 fun t81 =>
 (lock loadD Go.Proofs.Try.prog σ 9 t81 fun t82 =>
 (lock binD Go.Proofs.Try.prog .neq 9 t82 (.pv (.str [110, 108])) fun t83 =>
 (condD t83
 (retV ((.pv (.bool false))) σ K)
 (J5_12 env  (a5_j9) (b7_j9) (c9_j9) σ K X)))))))
 (retV ((.pv (.bool false))) σ K))))))))
 (retV ((.pv (.bool false))) σ K))))
theorem J5_9_eq (env : Env)  (a5_j9 ok6_j9 b7_j9 c9_j9 both10_j9 t57_j9 : AV) (σ : AS) (K : AV → AS → Prop) (X : PV → AS → Prop) : J5_9 env  a5_j9 ok6_j9 b7_j9 c9_j9 both10_j9 t57_j9 σ K X = wpD Go.Proofs.Try.prog env an5 (subC (bodyC Go.Proofs.Try.f5) [1, 1, 1, 1, 1, 1, 0, 1]) (contQ Go.Proofs.Try.prog env an5 (bodyC Go.Proofs.Try.f5) [1, 1, 1, 1, 1, 1, 0, 1] [] (rootQ Go.Proofs.Try.prog Go.Proofs.Try.f5 K X)) [(5, a5_j9), (6, ok6_j9), (7, b7_j9), (9, c9_j9), (10, both10_j9), (57, t57_j9)] σ := by
  unfold J5_9
  kernel_rfl
def J5_5 (env : Env)  (s0_j5 t1_j5 : AV) (σ : AS) (K : AV → AS → Prop) (X : PV → AS → Prop) : Prop :=
 (env 11 [s0_j5] σ (fun t36 σ2 =>
 (lock extractD t36 0 fun t37 =>
 (lock extractD t36 1 fun t38 =>
 (env 11 [t1_j5] σ2 (fun t41 σ3 =>
 (lock extractD t41 0 fun t42 =>
 (lock extractD t41 1 fun t43 =>
 (lock binD Go.Proofs.Try.prog .add 9 s0_j5 (.pv (.str [10])) fun t46 =>
 (lock binD Go.Proofs.Try.prog .add 9 t46 t1_j5 fun t48 =>
 (env 11 [t48] σ3 (fun t49 σ4 =>
 (lock extractD t49 0 fun t50 =>
 (lock extractD t49 1 fun t51 =>
 (unD .not t38 fun t53 =>
 (guardD t53 false
 (unD .not t43 fun t56 =>
 (J5_9 env  (t37) (t38) (t42) (t50) (t51) (t56) σ4 K X))
 (J5_9 env  (t37) (t38) (t42) (t50) (t51) (.pv (.bool true)) σ4 K X)))))) (panV X))))))) (panV X))))) (panV X))
theorem J5_5_eq (env : Env)  (s0_j5 t1_j5 : AV) (σ : AS) (K : AV → AS → Prop) (X : PV → AS → Prop) : J5_5 env  s0_j5 t1_j5 σ K X = wpD Go.Proofs.Try.prog env an5 (subC (bodyC Go.Proofs.Try.f5) [1, 1, 1]) (contQ Go.Proofs.Try.prog env an5 (bodyC Go.Proofs.Try.f5) [1, 1, 1] [] (rootQ Go.Proofs.Try.prog Go.Proofs.Try.f5 K X)) [(0, s0_j5), (1, t1_j5)] σ := by
  unfold J5_5
  kernel_rfl
def S5 (env : Env) (s0_a t1_a : AV) (σ : AS) (K : AV → AS → Prop) (X : PV → AS → Prop) : Prop :=
 (env 10 [] σ (fun t11 σ1 =>
 (unD .not t11 fun t12 =>
 (condD t12
 (retV ((.pv (.bool false))) σ1 K)
 (lock lenD Go.Proofs.Try.prog 9 s0_a fun t14 =>
 (lock binD Go.Proofs.Try.prog .gtr 3 t14 (.pv (.int .i64 2000)) fun t15 =>
 (guardD t15 false
 (lock lenD Go.Proofs.Try.prog 9 t1_a fun t18 =>
 (lock binD Go.Proofs.Try.prog .gtr 3 t18 (.pv (.int .i64 2000)) fun t19 =>
 (guardD t19 false
 (lock lenD Go.Proofs.Try.prog 9 s0_a fun t23 =>
 (lock binD Go.Proofs.Try.prog .gtr 3 t23 (.pv (.int .i64 0)) fun t24 =>
 (guardD t24 true
 (lock lenD Go.Proofs.Try.prog 9 s0_a fun t28 =>
 (lock binD Go.Proofs.Try.prog .sub 3 t28 (.pv (.int .i64 1)) fun t29 =>
 (lock indexD Go.Proofs.Try.prog 9 s0_a t29 fun t30 =>
 (lock binD Go.Proofs.Try.prog .eql 5 t30 (.pv (.int .u8 92)) fun t31 =>
 (condD t31
 (retV ((.pv (.bool true))) σ1 K)
 (J5_5 env  (s0_a) (t1_a) σ1 K X))))))
 (J5_5 env  (s0_a) (t1_a) σ1 K X))))
 (retV ((.pv (.bool true))) σ1 K))))
 (retV ((.pv (.bool true))) σ1 K))))))) (panV X))
theorem S5_eq (env : Env) (s0_a t1_a : AV) (σ : AS) (K : AV → AS → Prop) (X : PV → AS → Prop) : S5 env s0_a t1_a σ K X = bodyD Go.Proofs.Try.prog env an5 Go.Proofs.Try.f5 [s0_a, t1_a] σ K X := by
  unfold S5
  kernel_rfl
theorem S5_ok : (match Go.Proofs.Try.f5.body with | some c => okCode an5 Go.Proofs.Try.prog Go.Proofs.Try.f5.ntmps c | none => false) = true := by kernel_rfl
/-! ### tedder/tedderlaw05.LexBlanks (function 6) -/
def an6 : An := { mu := [], cut := [(5, [0, 1])], loop := [(6, [0, 1, 5])] }
def L6_6 (env : Env) (I6 : Nat → List AV → AS → Prop) (m6 : Nat) (s0_l6 c1_l6 i5_l6 : AV) (σ : AS) (K : AV → AS → Prop) (X : PV → AS → Prop) : Prop :=
 (lock lenD Go.Proofs.Try.prog 9 c1_l6 fun t35 =>
 (lock binD Go.Proofs.Try.prog .lss 3 i5_l6 t35 fun t36 =>
 (condD t36
 (lock indexD Go.Proofs.Try.prog 9 c1_l6 i5_l6 fun t41 =>
 (lock binD Go.Proofs.Try.prog .eql 5 t41 (.pv (.int .u8 10)) fun t42 =>
 (condD t42
 (retV ((.pv (.bool true))) σ K)
 (lock binD Go.Proofs.Try.prog .add 3 i5_l6 (.pv (.int .i64 1)) fun t38 =>
 (∃ m', m' < m6 ∧ I6 m' [s0_l6, c1_l6, t38] σ)))))
 (env 11 [s0_l6] σ (fun t45 σ3 =>
 (lock extractD t45 0 fun t46 =>
 (lock extractD t45 1 fun t47 =>
 (lock binD Go.Proofs.Try.prog .add 9 (.pv (.str [9, 32, 92, 10])) s0_l6 fun t50 =>
 (lock binD Go.Proofs.Try.prog .add 9 t50 (.pv (.str [32, 35])) fun t51 =>
 (lock binD Go.Proofs.Try.prog .add 9 t51 c1_l6 fun t53 =>
 (env 11 [t53] σ3 (fun t54 σ4 =>
 (lock extractD t54 0 fun t55 =>
 (lock extractD t54 1 fun t56 =>
 (unD .not t47 fun t58 =>
 (condD t58
 (retV ((.pv (.bool true))) σ4 K)
 (guardD t56 true
 (env 13 [t46, t55] σ4 (fun t63 σ5 =>
 (retV (t63) σ5 K)) (panV X))
 (retV ((.pv (.bool false))) σ4 K))))))) (panV X)))))))) (panV X)))))
theorem L6_6_eq (env : Env) (I6 : Nat → List AV → AS → Prop) (m6 : Nat) (s0_l6 c1_l6 i5_l6 : AV) (σ : AS) (K : AV → AS → Prop) (X : PV → AS → Prop) : L6_6 env I6 m6 s0_l6 c1_l6 i5_l6 σ K X = wpD Go.Proofs.Try.prog env an6 (subC (bodyC Go.Proofs.Try.f6) [1, 1, 1, 0, 1, 0, 0]) (contQ Go.Proofs.Try.prog env an6 (bodyC Go.Proofs.Try.f6) [1, 1, 1, 0, 1, 0, 0] [(I6, m6)] (rootQ Go.Proofs.Try.prog Go.Proofs.Try.f6 K X)) [(0, s0_l6), (1, c1_l6), (5, i5_l6)] σ := by
  unfold L6_6
  kernel_rfl
theorem lp6_6 {α : Type} {env : Env}  {s0_l6 c1_l6 : AV} {σ : AS} {K : AV → AS → Prop} {X : PV → AS → Prop} (μ : α → AS → Nat) (I : α → AS → Prop) (ei5_l6 : α → AV) (a0 : α) (h0 : I a0 σ)
 (h : ∀ a σ, I a σ → L6_6 env  (Inv (fun a => [s0_l6, c1_l6, ei5_l6 a]) μ I) (μ a σ) s0_l6 c1_l6 (ei5_l6 a) σ K X) :
 ∃ I6 : Nat → List AV → AS → Prop, (∃ m, I6 m [s0_l6, c1_l6, ei5_l6 a0] σ) ∧ ∀ (m : Nat) (x0 x1 x2 : AV), ∀ σ, I6 m [x0, x1, x2] σ →
 L6_6 env  I6 m x0 x1 x2 σ K X := by
  refine ⟨Inv (fun a => [s0_l6, c1_l6, ei5_l6 a]) μ I, ⟨_, a0, rfl, rfl, h0⟩, ?_⟩
  rintro m x0 x1 x2 σ' ⟨a, hv, rfl, hI⟩
  simp only [List.cons.injEq, and_true] at hv
  obtain ⟨rfl, rfl, rfl⟩ := hv
  exact h a σ' hI
def J6_5 (env : Env)  (s0_j5 c1_j5 : AV) (σ : AS) (K : AV → AS → Prop) (X : PV → AS → Prop) : Prop :=
 (∃ I6 : Nat → List AV → AS → Prop, (∃ m, I6 m [s0_j5, c1_j5, (.pv (.int .i64 0))] σ) ∧ ∀ (m6 : Nat) (s0_l6 c1_l6 i5_l6 : AV), ∀ σ2, I6 m6 [s0_l6, c1_l6, i5_l6] σ2 →
 (L6_6 env I6 m6 s0_l6 c1_l6 i5_l6 σ2 K X))
theorem J6_5_eq (env : Env)  (s0_j5 c1_j5 : AV) (σ : AS) (K : AV → AS → Prop) (X : PV → AS → Prop) : J6_5 env  s0_j5 c1_j5 σ K X = wpD Go.Proofs.Try.prog env an6 (subC (bodyC Go.Proofs.Try.f6) [1, 1, 1]) (contQ Go.Proofs.Try.prog env an6 (bodyC Go.Proofs.Try.f6) [1, 1, 1] [] (rootQ Go.Proofs.Try.prog Go.Proofs.Try.f6 K X)) [(0, s0_j5), (1, c1_j5)] σ := by
  unfold J6_5
  simp only [L6_6_eq]
  kernel_rfl
def S6 (env : Env) (s0_a c1_a : AV) (σ : AS) (K : AV → AS → Prop) (X : PV → AS → Prop) : Prop :=
 (env 10 [] σ (fun t10 σ1 =>
 (unD .not t10 fun t11 =>
 (condD t11
 (retV ((.pv (.bool false))) σ1 K)
 (lock lenD Go.Proofs.Try.prog 9 s0_a fun t13 =>
 (lock binD Go.Proofs.Try.prog .gtr 3 t13 (.pv (.int .i64 2000)) fun t14 =>
 (guardD t14 false
 (lock lenD Go.Proofs.Try.prog 9 c1_a fun t17 =>
 (lock binD Go.Proofs.Try.prog .gtr 3 t17 (.pv (.int .i64 200)) fun t18 =>
 (guardD t18 false
 (lock lenD Go.Proofs.Try.prog 9 s0_a fun t22 =>
 (lock binD Go.Proofs.Try.prog .gtr 3 t22 (.pv (.int .i64 0)) fun t23 =>
 (guardD t23 true
 (lock lenD Go.Proofs.Try.prog 9 s0_a fun t27 =>
 (lock binD Go.Proofs.Try.prog .sub 3 t27 (.pv (.int .i64 1)) fun t28 =>
 (lock indexD Go.Proofs.Try.prog 9 s0_a t28 fun t29 =>
 (lock binD Go.Proofs.Try.prog .eql 5 t29 (.pv (.int .u8 92)) fun t30 =>
 (condD t30
 (retV ((.pv (.bool true))) σ1 K)
 (J6_5 env  (s0_a) (c1_a) σ1 K X))))))
 (J6_5 env  (s0_a) (c1_a) σ1 K X))))
 (retV ((.pv (.bool true))) σ1 K))))
 (retV ((.pv (.bool true))) σ1 K))))))) (panV X))
theorem S6_eq (env : Env) (s0_a c1_a : AV) (σ : AS) (K : AV → AS → Prop) (X : PV → AS → Prop) : S6 env s0_a c1_a σ K X = bodyD Go.Proofs.Try.prog env an6 Go.Proofs.Try.f6 [s0_a, c1_a] σ K X := by
  unfold S6
  kernel_rfl
theorem S6_ok : (match Go.Proofs.Try.f6.body with | some c => okCode an6 Go.Proofs.Try.prog Go.Proofs.Try.f6.ntmps c | none => false) = true := by kernel_rfl
end Go.AD
