/- Bodies in the calculus' own words. Printed by gen.py, a program of this claim's own. -/
import Derived.Test.YtjgjmpophpifgaaDoorTy
set_option linter.unusedVariables false
set_option maxRecDepth 100000
namespace Go.AD
open Go.Proofs.Tryd
/-! ### (*tedder/syntax.parser).printed (function 132) -/
def an132 : An := { mu := [], cut := [(5, [0, 1, 4, 5, 22]), (8, [0, 1, 4, 5])], loop := [(9, [0, 1, 4, 5, 32, 33, 34])], any := [12] }
def L132_9 (env : Env) (I9 : Nat → List AV → AS → Prop) (m9 : Nat) (p0_l9 w1_l9 t4_l9 l5_l9 t32_l9 t33_l9 t34_l9 : AV) (σ : AS) (K : AV → AS → Prop) (X : PV → AS → Prop) : Prop :=
 (lock binD prog .lss 3 t34_l9 t33_l9 fun t35 =>
 (condD t35
 (lock indexAddrD prog 27 t32_l9 t34_l9 fun t36 =>
 (lock loadD prog σ 9 t36 fun t37 =>
 (env 61 [t37] σ (fun t40 σ6 =>
 (env 66 [p0_l9, t40] σ6 (fun t41 σ7 =>
 (condD t41
 (lock lenD prog 35 l5_l9 fun t44 =>
 (lock lenD prog 35 l5_l9 fun t46 =>
 ((lock cutD prog 35 l5_l9 t44 t46 fun t47 =>
 ((env 70 [p0_l9, (.pv (.int .i64 8)), (.pv (.bool true))] σ7 (fun t49 σ17 =>
 ((lock buildSliceD prog false σ17 35 1 1 [(0, t49)] fun t50 σ18 =>
 ((lock appendD prog false σ18 35 t47 t50 fun t51 σ19 =>
 (env 68 [w1_l9, t37, t51] σ19 (fun t55 σ20 =>
 (lock storeD prog σ20 39 t4_l9 t55 fun σ21 =>
 (lock loadD prog σ21 39 t4_l9 fun r0 =>
 (retV (r0) σ21 K)))) (panV X))) ∧ True)) ∧ True)) (panV X)) ∧ True)) ∧ ((env 70 [p0_l9, (.pv (.int .i64 8)), (.pv (.bool true))] σ7 (fun t49 σ8 =>
 ((lock cutD prog 35 l5_l9 t44 t46 fun t47 =>
 ((lock buildSliceD prog false σ8 35 1 1 [(0, t49)] fun t50 σ13 =>
 ((lock appendD prog false σ13 35 t47 t50 fun t51 σ14 =>
 (env 68 [w1_l9, t37, t51] σ14 (fun t55 σ15 =>
 (lock storeD prog σ15 39 t4_l9 t55 fun σ16 =>
 (lock loadD prog σ16 39 t4_l9 fun r0 =>
 (retV (r0) σ16 K)))) (panV X))) ∧ True)) ∧ True)) ∧ ((lock buildSliceD prog false σ8 35 1 1 [(0, t49)] fun t50 σ9 =>
 ((lock cutD prog 35 l5_l9 t44 t46 fun t47 =>
 ((lock appendD prog false σ9 35 t47 t50 fun t51 σ10 =>
 (env 68 [w1_l9, t37, t51] σ10 (fun t55 σ11 =>
 (lock storeD prog σ11 39 t4_l9 t55 fun σ12 =>
 (lock loadD prog σ12 39 t4_l9 fun r0 =>
 (retV (r0) σ12 K)))) (panV X))) ∧ True)) ∧ True)) ∧ True))) (panV X)) ∧ True))))
 (lock binD prog .add 3 t34_l9 (.pv (.int .i64 1)) fun t56 =>
 (∃ m', m' < m9 ∧ I9 m' [p0_l9, w1_l9, t4_l9, l5_l9, t32_l9, t33_l9, t56] σ7)))) (panV X))) (panV X))))
 (env 68 [w1_l9, (.pv (.str [])), l5_l9] σ (fun t59 σ22 =>
 (lock storeD prog σ22 39 t4_l9 t59 fun σ23 =>
 (lock loadD prog σ23 39 t4_l9 fun r0 =>
 (retV (r0) σ23 K)))) (panV X))))
theorem L132_9_eq (env : Env) (I9 : Nat → List AV → AS → Prop) (m9 : Nat) (p0_l9 w1_l9 t4_l9 l5_l9 t32_l9 t33_l9 t34_l9 : AV) (σ : AS) (K : AV → AS → Prop) (X : PV → AS → Prop) : L132_9 env I9 m9 p0_l9 w1_l9 t4_l9 l5_l9 t32_l9 t33_l9 t34_l9 σ K X = wpD prog env an132 (subC (bodyC f132) [1, 1, 1, 0, 1, 0, 0]) (contQ prog env an132 (bodyC f132) [1, 1, 1, 0, 1, 0, 0] [(I9, m9)] (rootQ prog f132 K X)) [(0, p0_l9), (1, w1_l9), (4, t4_l9), (5, l5_l9), (32, t32_l9), (33, t33_l9), (34, t34_l9)] σ := by
  unfold L132_9
  kernel_rfl
theorem lp132_9 {α : Type} {env : Env}  {p0_l9 w1_l9 t4_l9 t32_l9 t33_l9 : AV} {σ : AS} {K : AV → AS → Prop} {X : PV → AS → Prop} (μ : α → AS → Nat) (I : α → AS → Prop) (el5_l9 et34_l9 : α → AV) (a0 : α) (h0 : I a0 σ)
 (h : ∀ a σ, I a σ → L132_9 env  (Inv (fun a => [p0_l9, w1_l9, t4_l9, el5_l9 a, t32_l9, t33_l9, et34_l9 a]) μ I) (μ a σ) p0_l9 w1_l9 t4_l9 (el5_l9 a) t32_l9 t33_l9 (et34_l9 a) σ K X) :
 ∃ I9 : Nat → List AV → AS → Prop, (∃ m, I9 m [p0_l9, w1_l9, t4_l9, el5_l9 a0, t32_l9, t33_l9, et34_l9 a0] σ) ∧ ∀ (m : Nat) (x0 x1 x2 x3 x4 x5 x6 : AV), ∀ σ, I9 m [x0, x1, x2, x3, x4, x5, x6] σ →
 L132_9 env  I9 m x0 x1 x2 x3 x4 x5 x6 σ K X := by
  refine ⟨Inv (fun a => [p0_l9, w1_l9, t4_l9, el5_l9 a, t32_l9, t33_l9, et34_l9 a]) μ I, ⟨_, a0, rfl, rfl, h0⟩, ?_⟩
  rintro m x0 x1 x2 x3 x4 x5 x6 σ' ⟨a, hv, rfl, hI⟩
  simp only [List.cons.injEq, and_true] at hv
  obtain ⟨rfl, rfl, rfl, rfl, rfl, rfl, rfl⟩ := hv
  exact h a σ' hI
def J132_8 (env : Env)  (p0_j8 w1_j8 t4_j8 l5_j8 : AV) (σ : AS) (K : AV → AS → Prop) (X : PV → AS → Prop) : Prop :=
 (lock buildSliceD prog false σ 27 2 2 [(0, (.pv (.str [62]))), (1, (.pv (.str [62, 62])))] fun t32 σ4 =>
 (lock lenD prog 27 t32 fun t33 =>
 (∃ I9 : Nat → List AV → AS → Prop, (∃ m, I9 m [p0_j8, w1_j8, t4_j8, l5_j8, t32, t33, (.pv (.int .i64 0))] σ4) ∧ ∀ (m9 : Nat) (p0_l9 w1_l9 t4_l9 l5_l9 t32_l9 t33_l9 t34_l9 : AV), ∀ σ5, I9 m9 [p0_l9, w1_l9, t4_l9, l5_l9, t32_l9, t33_l9, t34_l9] σ5 →
 (L132_9 env I9 m9 p0_l9 w1_l9 t4_l9 l5_l9 t32_l9 t33_l9 t34_l9 σ5 K X))))
theorem J132_8_eq (env : Env)  (p0_j8 w1_j8 t4_j8 l5_j8 : AV) (σ : AS) (K : AV → AS → Prop) (X : PV → AS → Prop) : J132_8 env  p0_j8 w1_j8 t4_j8 l5_j8 σ K X = wpD prog env an132 (subC (bodyC f132) [1, 1, 1]) (contQ prog env an132 (bodyC f132) [1, 1, 1] [] (rootQ prog f132 K X)) [(0, p0_j8), (1, w1_j8), (4, t4_j8), (5, l5_j8)] σ := by
  unfold J132_8
  simp only [L132_9_eq]
  kernel_rfl
def J132_5 (env : Env)  (p0_j5 w1_j5 t4_j5 l5_j5 t22_j5 : AV) (σ : AS) (K : AV → AS → Prop) (X : PV → AS → Prop) : Prop :=
 (condD t22_j5
 (lock indexAddrD prog 35 l5_j5 (.pv (.int .i64 0)) fun t24 =>
 (lock fieldAddrD prog 39 t24 2 fun t25 =>
 (lock loadD prog σ 35 t25 fun t26 =>
 (J132_8 env  (p0_j5) (w1_j5) (t4_j5) (t26) σ K X))))
 (J132_8 env  (p0_j5) (w1_j5) (t4_j5) (l5_j5) σ K X))
theorem J132_5_eq (env : Env)  (p0_j5 w1_j5 t4_j5 l5_j5 t22_j5 : AV) (σ : AS) (K : AV → AS → Prop) (X : PV → AS → Prop) : J132_5 env  p0_j5 w1_j5 t4_j5 l5_j5 t22_j5 σ K X = wpD prog env an132 (subC (bodyC f132) [1, 1, 0, 0, 1, 0, 1, 1]) (contQ prog env an132 (bodyC f132) [1, 1, 0, 0, 1, 0, 1, 1] [] (rootQ prog f132 K X)) [(0, p0_j5), (1, w1_j5), (4, t4_j5), (5, l5_j5), (22, t22_j5)] σ := by
  unfold J132_5
  kernel_rfl
def S132 (env : Env) (p0_a w1_a : AV) (σ : AS) (K : AV → AS → Prop) (X : PV → AS → Prop) : Prop :=
 (lock allocD prog σ 39 fun t4 σ1 =>
 (env 133 [p0_a] σ1 (fun t10 σ2 =>
 (condD t10
 (env 138 [p0_a, (.pv (.bool true))] σ2 (fun t12 σ3 =>
 (lock lenD prog 35 t12 fun t14 =>
 (lock binD prog .eql 3 t14 (.pv (.int .i64 1)) fun t15 =>
 (guardD t15 true
 (lock indexAddrD prog 35 t12 (.pv (.int .i64 0)) fun t18 =>
 (lock fieldAddrD prog 39 t18 0 fun t19 =>
 (lock loadD prog σ3 9 t19 fun t20 =>
 (lock binD prog .eql 9 t20 (.pv (.str [108, 105, 115, 116])) fun t21 =>
 (J132_5 env  (p0_a) (w1_a) (t4) (t12) (t21) σ3 K X)))))
 (J132_5 env  (p0_a) (w1_a) (t4) (t12) (.pv (.bool false)) σ3 K X))))) (panV X))
 (lock binD prog .eql 9 w1_a (.pv (.str [112, 114, 105, 110, 116, 102])) fun t29 =>
 (condD t29
 (lock buildD prog 54 [] fun t30 =>
 (lock ifaceD prog 54 t30 fun t31 =>
 (lock panicD σ2 t31 (panV X))))
 (J132_8 env  (p0_a) (w1_a) (t4) (.nilS) σ2 K X))))) (panV X)))
theorem S132_eq (env : Env) (p0_a w1_a : AV) (σ : AS) (K : AV → AS → Prop) (X : PV → AS → Prop) : S132 env p0_a w1_a σ K X = bodyD prog env an132 f132 [p0_a, w1_a] σ K X := by
  unfold S132
  kernel_rfl
theorem S132_ok : (match f132.body with | some c => okCode an132 prog f132.ntmps c | none => false) = true := by kernel_rfl
/-! ### (*tedder/syntax.parser).simple (function 122) -/
def an122 : An := { mu := [], cut := [(8, [0, 2, 3, 17, 18]), (12, [0, 2, 3, 17, 25]), (15, [0, 2, 3, 17, 32])], loop := [], any := [16] }
def J122_15 (env : Env)  (p0_j15 t2_j15 t3_j15 t17_j15 t32_j15 : AV) (σ : AS) (K : AV → AS → Prop) (X : PV → AS → Prop) : Prop :=
 (condD t32_j15
 (env 133 [p0_j15] σ (fun t36 σ14 =>
 (condD t36
 (lock fieldAddrD prog 52 t3_j15 1 fun t37 =>
 ((lock loadD prog σ14 9 t37 fun t38 =>
 ((env 70 [p0_j15, (.pv (.int .i64 1)), (.pv (.bool false))] σ14 (fun t40 σ22 =>
 ((lock buildSliceD prog false σ22 35 1 1 [(0, t40)] fun t41 σ23 =>
 ((env 68 [t38, (.pv (.str [])), t41] σ23 (fun t42 σ24 =>
 ((lock storeD prog σ24 39 t2_j15 t42 fun σ25 =>
 (lock loadD prog σ25 39 t2_j15 fun r0 =>
 (retV (r0) σ25 K))) ∧ True)) (panV X)) ∧ True)) ∧ True)) (panV X)) ∧ True)) ∧ ((env 70 [p0_j15, (.pv (.int .i64 1)), (.pv (.bool false))] σ14 (fun t40 σ15 =>
 ((lock loadD prog σ15 9 t37 fun t38 =>
 ((lock buildSliceD prog false σ15 35 1 1 [(0, t40)] fun t41 σ19 =>
 ((env 68 [t38, (.pv (.str [])), t41] σ19 (fun t42 σ20 =>
 ((lock storeD prog σ20 39 t2_j15 t42 fun σ21 =>
 (lock loadD prog σ21 39 t2_j15 fun r0 =>
 (retV (r0) σ21 K))) ∧ True)) (panV X)) ∧ True)) ∧ True)) ∧ ((lock buildSliceD prog false σ15 35 1 1 [(0, t40)] fun t41 σ16 =>
 ((lock loadD prog σ16 9 t37 fun t38 =>
 ((env 68 [t38, (.pv (.str [])), t41] σ16 (fun t42 σ17 =>
 ((lock storeD prog σ17 39 t2_j15 t42 fun σ18 =>
 (lock loadD prog σ18 39 t2_j15 fun r0 =>
 (retV (r0) σ18 K))) ∧ True)) (panV X)) ∧ True)) ∧ True)) ∧ True))) (panV X)) ∧ True)))
 (lock fieldAddrD prog 52 t3_j15 1 fun t43 =>
 (lock loadD prog σ14 9 t43 fun t44 =>
 (env 68 [t44, (.pv (.str [])), (.nilS)] σ14 (fun t45 σ26 =>
 (lock storeD prog σ26 39 t2_j15 t45 fun σ27 =>
 (lock loadD prog σ27 39 t2_j15 fun r0 =>
 (retV (r0) σ27 K)))) (panV X)))))) (panV X))
 (lock binD prog .eql 9 t17_j15 (.pv (.str [100, 101, 108, 101, 116, 101])) fun t47 =>
 (condD t47
 (lock buildSliceD prog false σ 27 1 1 [(0, (.pv (.str [110, 97, 109, 101])))] fun t49 σ28 =>
 (env 99 [p0_j15, t49] σ28 (fun t50 σ29 =>
 (env 61 [(.pv (.str [91]))] σ29 (fun t52 σ30 =>
 (env 97 [p0_j15, t52] σ30 (fun t53 σ31 =>
 (env 134 [p0_j15] σ31 (fun t56 σ32 =>
 (env 68 [(.pv (.str [100, 101, 108, 101, 116, 101])), t50, t56] σ32 (fun t57 σ33 =>
 (lock storeD prog σ33 39 t2_j15 t57 fun σ34 =>
 (lock loadD prog σ34 39 t2_j15 fun r0 =>
 (retV (r0) σ34 K)))) (panV X))) (panV X))) (panV X))) (panV X))) (panV X)))
 (lock buildD prog 54 [] fun t58 =>
 (lock ifaceD prog 54 t58 fun t59 =>
 (lock panicD σ t59 (panV X)))))))
theorem J122_15_eq (env : Env)  (p0_j15 t2_j15 t3_j15 t17_j15 t32_j15 : AV) (σ : AS) (K : AV → AS → Prop) (X : PV → AS → Prop) : J122_15 env  p0_j15 t2_j15 t3_j15 t17_j15 t32_j15 σ K X = wpD prog env an122 (subC (bodyC f122) [1, 1, 1, 1, 0, 1, 0, 1, 1, 1, 1, 1]) (contQ prog env an122 (bodyC f122) [1, 1, 1, 1, 0, 1, 0, 1, 1, 1, 1, 1] [] (rootQ prog f122 K X)) [(0, p0_j15), (2, t2_j15), (3, t3_j15), (17, t17_j15), (32, t32_j15)] σ := by
  unfold J122_15
  kernel_rfl
def J122_12 (env : Env)  (p0_j12 t2_j12 t3_j12 t17_j12 t25_j12 : AV) (σ : AS) (K : AV → AS → Prop) (X : PV → AS → Prop) : Prop :=
 (condD t25_j12
 (lock fieldAddrD prog 52 t3_j12 1 fun t29 =>
 (lock loadD prog σ 9 t29 fun t30 =>
 (env 68 [t30, (.pv (.str [])), (.nilS)] σ (fun t31 σ12 =>
 (lock storeD prog σ12 39 t2_j12 t31 fun σ13 =>
 (lock loadD prog σ13 39 t2_j12 fun r0 =>
 (retV (r0) σ13 K)))) (panV X))))
 (lock binD prog .eql 9 t17_j12 (.pv (.str [101, 120, 105, 116])) fun t33 =>
 (condD t33
 (J122_15 env  (p0_j12) (t2_j12) (t3_j12) (t17_j12) (t33) σ K X)
 (lock binD prog .eql 9 t17_j12 (.pv (.str [114, 101, 116, 117, 114, 110])) fun t34 =>
 (J122_15 env  (p0_j12) (t2_j12) (t3_j12) (t17_j12) (t34) σ K X)))))
theorem J122_12_eq (env : Env)  (p0_j12 t2_j12 t3_j12 t17_j12 t25_j12 : AV) (σ : AS) (K : AV → AS → Prop) (X : PV → AS → Prop) : J122_12 env  p0_j12 t2_j12 t3_j12 t17_j12 t25_j12 σ K X = wpD prog env an122 (subC (bodyC f122) [1, 1, 1, 1, 0, 1, 0, 1, 1, 1]) (contQ prog env an122 (bodyC f122) [1, 1, 1, 1, 0, 1, 0, 1, 1, 1] [] (rootQ prog f122 K X)) [(0, p0_j12), (2, t2_j12), (3, t3_j12), (17, t17_j12), (25, t25_j12)] σ := by
  unfold J122_12
  kernel_rfl
def J122_8 (env : Env)  (p0_j8 t2_j8 t3_j8 t17_j8 t18_j8 : AV) (σ : AS) (K : AV → AS → Prop) (X : PV → AS → Prop) : Prop :=
 (condD t18_j8
 (lock fieldAddrD prog 52 t3_j8 1 fun t22 =>
 (lock loadD prog σ 9 t22 fun t23 =>
 (env 132 [p0_j8, t23] σ (fun t24 σ10 =>
 (lock storeD prog σ10 39 t2_j8 t24 fun σ11 =>
 (lock loadD prog σ11 39 t2_j8 fun r0 =>
 (retV (r0) σ11 K)))) (panV X))))
 (lock binD prog .eql 9 t17_j8 (.pv (.str [110, 101, 120, 116])) fun t26 =>
 (condD t26
 (J122_12 env  (p0_j8) (t2_j8) (t3_j8) (t17_j8) (t26) σ K X)
 (lock binD prog .eql 9 t17_j8 (.pv (.str [98, 114, 101, 97, 107])) fun t27 =>
 (condD t27
 (J122_12 env  (p0_j8) (t2_j8) (t3_j8) (t17_j8) (t27) σ K X)
 (lock binD prog .eql 9 t17_j8 (.pv (.str [99, 111, 110, 116, 105, 110, 117, 101])) fun t28 =>
 (J122_12 env  (p0_j8) (t2_j8) (t3_j8) (t17_j8) (t28) σ K X)))))))
theorem J122_8_eq (env : Env)  (p0_j8 t2_j8 t3_j8 t17_j8 t18_j8 : AV) (σ : AS) (K : AV → AS → Prop) (X : PV → AS → Prop) : J122_8 env  p0_j8 t2_j8 t3_j8 t17_j8 t18_j8 σ K X = wpD prog env an122 (subC (bodyC f122) [1, 1, 1, 1, 0, 1, 0, 1]) (contQ prog env an122 (bodyC f122) [1, 1, 1, 1, 0, 1, 0, 1] [] (rootQ prog f122 K X)) [(0, p0_j8), (2, t2_j8), (3, t3_j8), (17, t17_j8), (18, t18_j8)] σ := by
  unfold J122_8
  kernel_rfl
def S122 (env : Env) (p0_a : AV) (σ : AS) (K : AV → AS → Prop) (X : PV → AS → Prop) : Prop :=
 (lock allocD prog σ 39 fun t2 σ1 =>
 (env 60 [p0_a, (.pv (.int .i64 0))] σ1 (fun t6 σ2 =>
 (lock allocD prog σ2 52 fun t3 σ3 =>
 (lock storeD prog σ3 52 t3 t6 fun σ4 =>
 (lock fieldAddrD prog 52 t3 0 fun t7 =>
 (lock loadD prog σ4 9 t7 fun t8 =>
 (lock binD prog .neq 9 t8 (.pv (.str [119, 111, 114, 100])) fun t9 =>
 (condD t9
 (env 70 [p0_a, (.pv (.int .i64 1)), (.pv (.bool false))] σ4 (fun t11 σ5 =>
 (lock buildSliceD prog false σ5 35 1 1 [(0, t11)] fun t12 σ6 =>
 (env 68 [(.pv (.str [101, 120, 112, 114])), (.pv (.str [])), t12] σ6 (fun t13 σ7 =>
 (lock storeD prog σ7 39 t2 t13 fun σ8 =>
 (lock loadD prog σ8 39 t2 fun r0 =>
 (retV (r0) σ8 K)))) (panV X)))) (panV X))
 (env 62 [p0_a, (.pv (.int .i64 1))] σ4 (fun t15 σ9 =>
 (lock fieldAddrD prog 52 t3 1 fun t16 =>
 (lock loadD prog σ9 9 t16 fun t17 =>
 (lock binD prog .eql 9 t17 (.pv (.str [112, 114, 105, 110, 116])) fun t19 =>
 (condD t19
 (J122_8 env  (p0_a) (t2) (t3) (t17) (t19) σ9 K X)
 (lock binD prog .eql 9 t17 (.pv (.str [112, 114, 105, 110, 116, 102])) fun t20 =>
 (J122_8 env  (p0_a) (t2) (t3) (t17) (t20) σ9 K X))))))) (panV X))))))))) (panV X)))
theorem S122_eq (env : Env) (p0_a : AV) (σ : AS) (K : AV → AS → Prop) (X : PV → AS → Prop) : S122 env p0_a σ K X = bodyD prog env an122 f122 [p0_a] σ K X := by
  unfold S122
  kernel_rfl
theorem S122_ok : (match f122.body with | some c => okCode an122 prog f122.ntmps c | none => false) = true := by kernel_rfl
/-! ### (*tedder/syntax.parser).paren (function 119) -/
def an119 : An := { mu := [], cut := [], loop := [] }
def S119 (env : Env) (p0_a : AV) (σ : AS) (K : AV → AS → Prop) (X : PV → AS → Prop) : Prop :=
 (lock allocD prog σ 39 fun t2 σ1 =>
 (env 61 [(.pv (.str [40]))] σ1 (fun t5 σ2 =>
 (env 97 [p0_a, t5] σ2 (fun t6 σ3 =>
 (env 70 [p0_a, (.pv (.int .i64 1)), (.pv (.bool false))] σ3 (fun t8 σ4 =>
 (lock allocD prog σ4 39 fun t3 σ5 =>
 (lock storeD prog σ5 39 t3 t8 fun σ6 =>
 (env 61 [(.pv (.str [41]))] σ6 (fun t10 σ7 =>
 (env 97 [p0_a, t10] σ7 (fun t11 σ8 =>
 (lock loadD prog σ8 39 t3 fun t12 =>
 (lock storeD prog σ8 39 t2 t12 fun σ9 =>
 (lock loadD prog σ9 39 t2 fun r0 =>
 (retV (r0) σ9 K))))) (panV X))) (panV X))))) (panV X))) (panV X))) (panV X)))
theorem S119_eq (env : Env) (p0_a : AV) (σ : AS) (K : AV → AS → Prop) (X : PV → AS → Prop) : S119 env p0_a σ K X = bodyD prog env an119 f119 [p0_a] σ K X := by
  unfold S119
  kernel_rfl
theorem S119_ok : (match f119.body with | some c => okCode an119 prog f119.ntmps c | none => false) = true := by kernel_rfl
/-! ### (*tedder/syntax.parser).body (function 120) -/
def an120 : An := { mu := [], cut := [], loop := [] }
def S120 (env : Env) (p0_a : AV) (σ : AS) (K : AV → AS → Prop) (X : PV → AS → Prop) : Prop :=
 (lock allocD prog σ 39 fun t2 σ1 =>
 (env 71 [p0_a] σ1 (fun t5 σ2 =>
 (env 98 [p0_a] σ2 (fun t7 σ3 =>
 (lock extractD t7 0 fun t8 =>
 (lock extractD t7 1 fun t9 =>
 (lock storeD prog σ3 39 t2 t8 fun σ4 =>
 (lock loadD prog σ4 39 t2 fun r0 =>
 (retV (.tuple [r0, t9]) σ4 K)))))) (panV X))) (panV X)))
theorem S120_eq (env : Env) (p0_a : AV) (σ : AS) (K : AV → AS → Prop) (X : PV → AS → Prop) : S120 env p0_a σ K X = bodyD prog env an120 f120 [p0_a] σ K X := by
  unfold S120
  kernel_rfl
theorem S120_ok : (match f120.body with | some c => okCode an120 prog f120.ntmps c | none => false) = true := by kernel_rfl
/-! ### (*tedder/syntax.parser).choice (function 118) -/
def an118 : An := { mu := [], cut := [(6, [0, 2, 4, 5, 6, 7, 33])], loop := [] }
def J118_6 (env : Env)  (p0_j6 t2_j6 c4_j6 a5_j6 open6_j6 was7_j6 t33_j6 : AV) (σ : AS) (K : AV → AS → Prop) (X : PV → AS → Prop) : Prop :=
 (condD t33_j6
 (env 120 [p0_j6] σ (fun t36 σ11 =>
 (lock extractD t36 0 fun t37 =>
 (lock extractD t36 1 fun t38 =>
 (lock allocD prog σ11 39 fun t9 σ12 =>
 (lock storeD prog σ12 39 t9 t37 fun σ13 =>
 (lock loadD prog σ13 39 c4_j6 fun t39 =>
 (lock loadD prog σ13 39 a5_j6 fun t40 =>
 (lock loadD prog σ13 39 t9 fun t41 =>
 (lock buildSliceD prog false σ13 35 3 3 [(0, t39), (1, t40), (2, t41)] fun t42 σ14 =>
 (env 68 [(.pv (.str [105, 102])), (.pv (.str [])), t42] σ14 (fun t43 σ15 =>
 (lock storeD prog σ15 39 t2_j6 t43 fun σ16 =>
 (lock loadD prog σ16 39 t2_j6 fun r0 =>
 (retV (.tuple [r0, t38]) σ16 K)))) (panV X))))))))))) (panV X))
 (lock nilD p0_j6 fun t47 =>
 (lock fieldAddrD prog 59 t47 0 fun t48 =>
 (lock storeD prog σ 47 t48 was7_j6 fun σ17 =>
 (lock loadD prog σ17 39 c4_j6 fun t49 =>
 (lock loadD prog σ17 39 a5_j6 fun t50 =>
 (lock buildSliceD prog false σ17 35 2 2 [(0, t49), (1, t50)] fun t51 σ18 =>
 (env 68 [(.pv (.str [105, 102])), (.pv (.str [])), t51] σ18 (fun t52 σ19 =>
 (lock storeD prog σ19 39 t2_j6 t52 fun σ20 =>
 (lock loadD prog σ20 39 t2_j6 fun r0 =>
 (retV (.tuple [r0, open6_j6]) σ20 K)))) (panV X)))))))))
theorem J118_6_eq (env : Env)  (p0_j6 t2_j6 c4_j6 a5_j6 open6_j6 was7_j6 t33_j6 : AV) (σ : AS) (K : AV → AS → Prop) (X : PV → AS → Prop) : J118_6 env  p0_j6 t2_j6 c4_j6 a5_j6 open6_j6 was7_j6 t33_j6 σ K X = wpD prog env an118 (subC (bodyC f118) [1, 1, 1, 1, 0, 1, 1]) (contQ prog env an118 (bodyC f118) [1, 1, 1, 1, 0, 1, 1] [] (rootQ prog f118 K X)) [(0, p0_j6), (2, t2_j6), (4, c4_j6), (5, a5_j6), (6, open6_j6), (7, was7_j6), (33, t33_j6)] σ := by
  unfold J118_6
  kernel_rfl
def S118 (env : Env) (p0_a : AV) (σ : AS) (K : AV → AS → Prop) (X : PV → AS → Prop) : Prop :=
 (lock allocD prog σ 39 fun t2 σ1 =>
 (env 119 [p0_a] σ1 (fun t12 σ2 =>
 (lock allocD prog σ2 39 fun t4 σ3 =>
 (lock storeD prog σ3 39 t4 t12 fun σ4 =>
 (env 120 [p0_a] σ4 (fun t15 σ5 =>
 (lock extractD t15 0 fun t16 =>
 (lock extractD t15 1 fun t17 =>
 (lock allocD prog σ5 39 fun t5 σ6 =>
 (lock storeD prog σ6 39 t5 t16 fun σ7 =>
 (lock nilD p0_a fun t19 =>
 (lock fieldAddrD prog 59 t19 0 fun t20 =>
 (lock loadD prog σ7 47 t20 fun t21 =>
 (env 32 [p0_a] σ7 (fun t23 σ8 =>
 (guardD t23 false
 (unD .not t17 fun t27 =>
 (guardD t27 true
 (env 67 [(.pv (.str [101, 108, 115, 101]))] σ8 (fun t31 σ9 =>
 (env 66 [p0_a, t31] σ9 (fun t32 σ10 =>
 (J118_6 env  (p0_a) (t2) (t4) (t5) (t17) (t21) (t32) σ10 K X)) (panV X))) (panV X))
 (J118_6 env  (p0_a) (t2) (t4) (t5) (t17) (t21) (.pv (.bool false)) σ8 K X)))
 (env 67 [(.pv (.str [101, 108, 115, 101]))] σ8 (fun t31 σ21 =>
 (env 66 [p0_a, t31] σ21 (fun t32 σ22 =>
 (J118_6 env  (p0_a) (t2) (t4) (t5) (t17) (t21) (t32) σ22 K X)) (panV X))) (panV X)))) (panV X)))))))))) (panV X))))) (panV X)))
theorem S118_eq (env : Env) (p0_a : AV) (σ : AS) (K : AV → AS → Prop) (X : PV → AS → Prop) : S118 env p0_a σ K X = bodyD prog env an118 f118 [p0_a] σ K X := by
  unfold S118
  kernel_rfl
theorem S118_ok : (match f118.body with | some c => okCode an118 prog f118.ntmps c | none => false) = true := by kernel_rfl
/-! ### (*tedder/syntax.parser).part (function 130) -/
def an130 : An := { mu := [], cut := [(4, [0, 1, 6, 7])], loop := [] }
def J130_4 (env : Env)  (p0_j4 until1_j4 t6_j4 e7_j4 : AV) (σ : AS) (K : AV → AS → Prop) (X : PV → AS → Prop) : Prop :=
 (env 61 [until1_j4] σ (fun t18 σ9 =>
 (env 97 [p0_j4, t18] σ9 (fun t19 σ10 =>
 (env 71 [p0_j4] σ10 (fun t21 σ11 =>
 (lock loadD prog σ11 39 e7_j4 fun t22 =>
 (lock storeD prog σ11 39 t6_j4 t22 fun σ12 =>
 (lock loadD prog σ12 39 t6_j4 fun r0 =>
 (retV (r0) σ12 K))))) (panV X))) (panV X))) (panV X))
theorem J130_4_eq (env : Env)  (p0_j4 until1_j4 t6_j4 e7_j4 : AV) (σ : AS) (K : AV → AS → Prop) (X : PV → AS → Prop) : J130_4 env  p0_j4 until1_j4 t6_j4 e7_j4 σ K X = wpD prog env an130 (subC (bodyC f130) [1, 1, 1]) (contQ prog env an130 (bodyC f130) [1, 1, 1] [] (rootQ prog f130 K X)) [(0, p0_j4), (1, until1_j4), (6, t6_j4), (7, e7_j4)] σ := by
  unfold J130_4
  kernel_rfl
def S130 (env : Env) (p0_a until1_a parse2_a : AV) (σ : AS) (K : AV → AS → Prop) (X : PV → AS → Prop) : Prop :=
 (lock allocD prog σ 39 fun t6 σ1 =>
 (env 65 [] σ1 (fun t8 σ2 =>
 (lock allocD prog σ2 39 fun t7 σ3 =>
 (lock storeD prog σ3 39 t7 t8 fun σ4 =>
 (env 60 [p0_a, (.pv (.int .i64 0))] σ4 (fun t10 σ5 =>
 (env 61 [until1_a] σ5 (fun t12 σ6 =>
 (lock binD prog .neq 52 t10 t12 fun t13 =>
 (condD t13
 (callD env parse2_a [] σ6 (fun t15 σ7 =>
 (lock storeD prog σ7 39 t7 t15 fun σ8 =>
 (J130_4 env  (p0_a) (until1_a) (t6) (t7) σ8 K X))) (panV X))
 (J130_4 env  (p0_a) (until1_a) (t6) (t7) σ6 K X)))) (panV X))) (panV X))))) (panV X)))
theorem S130_eq (env : Env) (p0_a until1_a parse2_a : AV) (σ : AS) (K : AV → AS → Prop) (X : PV → AS → Prop) : S130 env p0_a until1_a parse2_a σ K X = bodyD prog env an130 f130 [p0_a, until1_a, parse2_a] σ K X := by
  unfold S130
  kernel_rfl
theorem S130_ok : (match f130.body with | some c => okCode an130 prog f130.ntmps c | none => false) = true := by kernel_rfl
/-! ### (*tedder/syntax.parser).loop (function 121) -/
def an121 : An := { mu := [], cut := [(3, [1, 2, 37])], loop := [], any := [1, 3, 6] }
def J121_3 (env : Env)  (p1_j3 t2_j3 t37_j3 : AV) (σ : AS) (K : AV → AS → Prop) (X : PV → AS → Prop) : Prop :=
 (condD t37_j3
 ((lock loadD prog σ 57 p1_j3 fun t38 =>
 ((env 60 [t38, (.pv (.int .i64 0))] σ (fun t39 σ39 =>
 (lock fieldD prog 52 t39 1 fun t40 =>
 ((lock loadD prog σ39 57 p1_j3 fun t41 =>
 ((env 60 [t41, (.pv (.int .i64 2))] σ39 (fun t42 σ40 =>
 (lock fieldD prog 52 t42 1 fun t43 =>
 (lock loadD prog σ40 57 p1_j3 fun t44 =>
 (env 62 [t44, (.pv (.int .i64 4))] σ40 (fun t45 σ41 =>
 (lock loadD prog σ41 57 p1_j3 fun t47 =>
 (env 120 [t47] σ41 (fun t48 σ42 =>
 (lock extractD t48 0 fun t49 =>
 (lock extractD t48 1 fun t50 =>
 (lock allocD prog σ42 39 fun t6 σ43 =>
 (lock storeD prog σ43 39 t6 t49 fun σ44 =>
 ((env 68 [(.pv (.str [118, 97, 114])), t43, (.nilS)] σ44 (fun t53 σ49 =>
 ((lock loadD prog σ49 39 t6 fun t54 =>
 ((lock buildSliceD prog false σ49 35 2 2 [(0, t53), (1, t54)] fun t55 σ50 =>
 ((env 68 [(.pv (.str [102, 111, 114, 105, 110])), t40, t55] σ50 (fun t56 σ51 =>
 ((lock storeD prog σ51 39 t2_j3 t56 fun σ52 =>
 (lock loadD prog σ52 39 t2_j3 fun r0 =>
 (retV (.tuple [r0, t50]) σ52 K))) ∧ True)) (panV X)) ∧ True)) ∧ True)) ∧ True)) (panV X)) ∧ ((lock loadD prog σ44 39 t6 fun t54 =>
 ((env 68 [(.pv (.str [118, 97, 114])), t43, (.nilS)] σ44 (fun t53 σ45 =>
 ((lock buildSliceD prog false σ45 35 2 2 [(0, t53), (1, t54)] fun t55 σ46 =>
 ((env 68 [(.pv (.str [102, 111, 114, 105, 110])), t40, t55] σ46 (fun t56 σ47 =>
 ((lock storeD prog σ47 39 t2_j3 t56 fun σ48 =>
 (lock loadD prog σ48 39 t2_j3 fun r0 =>
 (retV (.tuple [r0, t50]) σ48 K))) ∧ True)) (panV X)) ∧ True)) ∧ True)) (panV X)) ∧ True)) ∧ True))))))) (panV X)))) (panV X))))) (panV X)) ∧ True)) ∧ True))) (panV X)) ∧ ((lock loadD prog σ 57 p1_j3 fun t41 =>
 ((env 60 [t38, (.pv (.int .i64 0))] σ (fun t39 σ25 =>
 (lock fieldD prog 52 t39 1 fun t40 =>
 ((env 60 [t41, (.pv (.int .i64 2))] σ25 (fun t42 σ26 =>
 (lock fieldD prog 52 t42 1 fun t43 =>
 (lock loadD prog σ26 57 p1_j3 fun t44 =>
 (env 62 [t44, (.pv (.int .i64 4))] σ26 (fun t45 σ27 =>
 (lock loadD prog σ27 57 p1_j3 fun t47 =>
 (env 120 [t47] σ27 (fun t48 σ28 =>
 (lock extractD t48 0 fun t49 =>
 (lock extractD t48 1 fun t50 =>
 (lock allocD prog σ28 39 fun t6 σ29 =>
 (lock storeD prog σ29 39 t6 t49 fun σ30 =>
 ((env 68 [(.pv (.str [118, 97, 114])), t43, (.nilS)] σ30 (fun t53 σ35 =>
 ((lock loadD prog σ35 39 t6 fun t54 =>
 ((lock buildSliceD prog false σ35 35 2 2 [(0, t53), (1, t54)] fun t55 σ36 =>
 ((env 68 [(.pv (.str [102, 111, 114, 105, 110])), t40, t55] σ36 (fun t56 σ37 =>
 ((lock storeD prog σ37 39 t2_j3 t56 fun σ38 =>
 (lock loadD prog σ38 39 t2_j3 fun r0 =>
 (retV (.tuple [r0, t50]) σ38 K))) ∧ True)) (panV X)) ∧ True)) ∧ True)) ∧ True)) (panV X)) ∧ ((lock loadD prog σ30 39 t6 fun t54 =>
 ((env 68 [(.pv (.str [118, 97, 114])), t43, (.nilS)] σ30 (fun t53 σ31 =>
 ((lock buildSliceD prog false σ31 35 2 2 [(0, t53), (1, t54)] fun t55 σ32 =>
 ((env 68 [(.pv (.str [102, 111, 114, 105, 110])), t40, t55] σ32 (fun t56 σ33 =>
 ((lock storeD prog σ33 39 t2_j3 t56 fun σ34 =>
 (lock loadD prog σ34 39 t2_j3 fun r0 =>
 (retV (.tuple [r0, t50]) σ34 K))) ∧ True)) (panV X)) ∧ True)) ∧ True)) (panV X)) ∧ True)) ∧ True))))))) (panV X)))) (panV X))))) (panV X)) ∧ True))) (panV X)) ∧ True)) ∧ True))) ∧ ((lock loadD prog σ 57 p1_j3 fun t41 =>
 ((lock loadD prog σ 57 p1_j3 fun t38 =>
 ((env 60 [t38, (.pv (.int .i64 0))] σ (fun t39 σ11 =>
 (lock fieldD prog 52 t39 1 fun t40 =>
 ((env 60 [t41, (.pv (.int .i64 2))] σ11 (fun t42 σ12 =>
 (lock fieldD prog 52 t42 1 fun t43 =>
 (lock loadD prog σ12 57 p1_j3 fun t44 =>
 (env 62 [t44, (.pv (.int .i64 4))] σ12 (fun t45 σ13 =>
 (lock loadD prog σ13 57 p1_j3 fun t47 =>
 (env 120 [t47] σ13 (fun t48 σ14 =>
 (lock extractD t48 0 fun t49 =>
 (lock extractD t48 1 fun t50 =>
 (lock allocD prog σ14 39 fun t6 σ15 =>
 (lock storeD prog σ15 39 t6 t49 fun σ16 =>
 ((env 68 [(.pv (.str [118, 97, 114])), t43, (.nilS)] σ16 (fun t53 σ21 =>
 ((lock loadD prog σ21 39 t6 fun t54 =>
 ((lock buildSliceD prog false σ21 35 2 2 [(0, t53), (1, t54)] fun t55 σ22 =>
 ((env 68 [(.pv (.str [102, 111, 114, 105, 110])), t40, t55] σ22 (fun t56 σ23 =>
 ((lock storeD prog σ23 39 t2_j3 t56 fun σ24 =>
 (lock loadD prog σ24 39 t2_j3 fun r0 =>
 (retV (.tuple [r0, t50]) σ24 K))) ∧ True)) (panV X)) ∧ True)) ∧ True)) ∧ True)) (panV X)) ∧ ((lock loadD prog σ16 39 t6 fun t54 =>
 ((env 68 [(.pv (.str [118, 97, 114])), t43, (.nilS)] σ16 (fun t53 σ17 =>
 ((lock buildSliceD prog false σ17 35 2 2 [(0, t53), (1, t54)] fun t55 σ18 =>
 ((env 68 [(.pv (.str [102, 111, 114, 105, 110])), t40, t55] σ18 (fun t56 σ19 =>
 ((lock storeD prog σ19 39 t2_j3 t56 fun σ20 =>
 (lock loadD prog σ20 39 t2_j3 fun r0 =>
 (retV (.tuple [r0, t50]) σ20 K))) ∧ True)) (panV X)) ∧ True)) ∧ True)) (panV X)) ∧ True)) ∧ True))))))) (panV X)))) (panV X))))) (panV X)) ∧ True))) (panV X)) ∧ True)) ∧ True)) ∧ True))
 (lock loadD prog σ 57 p1_j3 fun t58 =>
 (lock loadD prog σ 57 p1_j3 fun t59 =>
 (env 130 [t58, (.pv (.str [59])), (.clo 122 [t59] [])] σ (fun t61 σ53 =>
 (lock allocD prog σ53 39 fun t8 σ54 =>
 (lock storeD prog σ54 39 t8 t61 fun σ55 =>
 (lock loadD prog σ55 57 p1_j3 fun t62 =>
 (env 130 [t62, (.pv (.str [59])), (.clo 131 [] [p1_j3])] σ55 (fun t64 σ56 =>
 (lock allocD prog σ56 39 fun t9 σ57 =>
 (lock storeD prog σ57 39 t9 t64 fun σ58 =>
 (lock loadD prog σ58 57 p1_j3 fun t65 =>
 (lock loadD prog σ58 57 p1_j3 fun t66 =>
 (env 130 [t65, (.pv (.str [41])), (.clo 122 [t66] [])] σ58 (fun t68 σ59 =>
 (lock allocD prog σ59 39 fun t10 σ60 =>
 (lock storeD prog σ60 39 t10 t68 fun σ61 =>
 (lock loadD prog σ61 57 p1_j3 fun t70 =>
 (env 98 [t70] σ61 (fun t71 σ62 =>
 (lock extractD t71 0 fun t72 =>
 (lock extractD t71 1 fun t73 =>
 (lock allocD prog σ62 39 fun t11 σ63 =>
 (lock storeD prog σ63 39 t11 t72 fun σ64 =>
 (lock loadD prog σ64 39 t8 fun t74 =>
 (lock loadD prog σ64 39 t9 fun t75 =>
 (lock loadD prog σ64 39 t10 fun t76 =>
 (lock loadD prog σ64 39 t11 fun t77 =>
 (lock buildSliceD prog false σ64 35 4 4 [(0, t74), (1, t75), (2, t76), (3, t77)] fun t78 σ65 =>
 (env 68 [(.pv (.str [102, 111, 114])), (.pv (.str [])), t78] σ65 (fun t79 σ66 =>
 (lock storeD prog σ66 39 t2_j3 t79 fun σ67 =>
 (lock loadD prog σ67 39 t2_j3 fun r0 =>
 (retV (.tuple [r0, t73]) σ67 K)))) (panV X)))))))))))) (panV X)))))) (panV X))))))) (panV X)))))) (panV X)))))
theorem J121_3_eq (env : Env)  (p1_j3 t2_j3 t37_j3 : AV) (σ : AS) (K : AV → AS → Prop) (X : PV → AS → Prop) : J121_3 env  p1_j3 t2_j3 t37_j3 σ K X = wpD prog env an121 (subC (bodyC f121) [1, 1, 0, 1]) (contQ prog env an121 (bodyC f121) [1, 1, 0, 1] [] (rootQ prog f121 K X)) [(1, p1_j3), (2, t2_j3), (37, t37_j3)] σ := by
  unfold J121_3
  kernel_rfl
def S121 (env : Env) (p0_a : AV) (σ : AS) (K : AV → AS → Prop) (X : PV → AS → Prop) : Prop :=
 (lock boxD σ p0_a fun t1 σ1 =>
 (lock allocD prog σ1 39 fun t2 σ2 =>
 ((lock loadD prog σ2 57 t1 fun t13 =>
 ((env 61 [(.pv (.str [40]))] σ2 (fun t14 σ68 =>
 ((env 97 [t13, t14] σ68 (fun t15 σ69 =>
 (lock loadD prog σ69 57 t1 fun t16 =>
 (env 60 [t16, (.pv (.int .i64 0))] σ69 (fun t17 σ70 =>
 (lock fieldD prog 52 t17 0 fun t18 =>
 (lock binD prog .eql 9 t18 (.pv (.str [110, 97, 109, 101])) fun t19 =>
 (guardD t19 true
 (lock loadD prog σ70 57 t1 fun t21 =>
 (env 60 [t21, (.pv (.int .i64 1))] σ70 (fun t22 σ71 =>
 (env 67 [(.pv (.str [105, 110]))] σ71 (fun t23 σ72 =>
 (lock binD prog .eql 52 t22 t23 fun t24 =>
 (guardD t24 true
 (lock loadD prog σ72 57 t1 fun t27 =>
 (env 60 [t27, (.pv (.int .i64 2))] σ72 (fun t28 σ73 =>
 (lock fieldD prog 52 t28 0 fun t29 =>
 (lock binD prog .eql 9 t29 (.pv (.str [110, 97, 109, 101])) fun t30 =>
 (guardD t30 true
 (lock loadD prog σ73 57 t1 fun t33 =>
 (env 60 [t33, (.pv (.int .i64 3))] σ73 (fun t34 σ74 =>
 (env 61 [(.pv (.str [41]))] σ74 (fun t35 σ75 =>
 (lock binD prog .eql 52 t34 t35 fun t36 =>
 (J121_3 env  (t1) (t2) (t36) σ75 K X))) (panV X))) (panV X)))
 (J121_3 env  (t1) (t2) (.pv (.bool false)) σ73 K X))))) (panV X)))
 (J121_3 env  (t1) (t2) (.pv (.bool false)) σ72 K X)))) (panV X))) (panV X)))
 (J121_3 env  (t1) (t2) (.pv (.bool false)) σ70 K X))))) (panV X)))) (panV X)) ∧ True)) (panV X)) ∧ True)) ∧ ((env 61 [(.pv (.str [40]))] σ2 (fun t14 σ3 =>
 ((lock loadD prog σ3 57 t1 fun t13 =>
 ((env 97 [t13, t14] σ3 (fun t15 σ4 =>
 (lock loadD prog σ4 57 t1 fun t16 =>
 (env 60 [t16, (.pv (.int .i64 0))] σ4 (fun t17 σ5 =>
 (lock fieldD prog 52 t17 0 fun t18 =>
 (lock binD prog .eql 9 t18 (.pv (.str [110, 97, 109, 101])) fun t19 =>
 (guardD t19 true
 (lock loadD prog σ5 57 t1 fun t21 =>
 (env 60 [t21, (.pv (.int .i64 1))] σ5 (fun t22 σ6 =>
 (env 67 [(.pv (.str [105, 110]))] σ6 (fun t23 σ7 =>
 (lock binD prog .eql 52 t22 t23 fun t24 =>
 (guardD t24 true
 (lock loadD prog σ7 57 t1 fun t27 =>
 (env 60 [t27, (.pv (.int .i64 2))] σ7 (fun t28 σ8 =>
 (lock fieldD prog 52 t28 0 fun t29 =>
 (lock binD prog .eql 9 t29 (.pv (.str [110, 97, 109, 101])) fun t30 =>
 (guardD t30 true
 (lock loadD prog σ8 57 t1 fun t33 =>
 (env 60 [t33, (.pv (.int .i64 3))] σ8 (fun t34 σ9 =>
 (env 61 [(.pv (.str [41]))] σ9 (fun t35 σ10 =>
 (lock binD prog .eql 52 t34 t35 fun t36 =>
 (J121_3 env  (t1) (t2) (t36) σ10 K X))) (panV X))) (panV X)))
 (J121_3 env  (t1) (t2) (.pv (.bool false)) σ8 K X))))) (panV X)))
 (J121_3 env  (t1) (t2) (.pv (.bool false)) σ7 K X)))) (panV X))) (panV X)))
 (J121_3 env  (t1) (t2) (.pv (.bool false)) σ5 K X))))) (panV X)))) (panV X)) ∧ True)) ∧ True)) (panV X)) ∧ True))))
theorem S121_eq (env : Env) (p0_a : AV) (σ : AS) (K : AV → AS → Prop) (X : PV → AS → Prop) : S121 env p0_a σ K X = bodyD prog env an121 f121 [p0_a] σ K X := by
  unfold S121
  kernel_rfl
theorem S121_ok : (match f121.body with | some c => okCode an121 prog f121.ntmps c | none => false) = true := by kernel_rfl
/-! ### (*tedder/syntax.parser).loop$1 (function 131) -/
def an131 : An := { mu := [], cut := [], loop := [] }
def S131 (env : Env) (t0_a : AV) (σ : AS) (K : AV → AS → Prop) (X : PV → AS → Prop) : Prop :=
 (lock allocD prog σ 39 fun t1 σ1 =>
 (lock loadD prog σ1 57 t0_a fun t2 =>
 (env 70 [t2, (.pv (.int .i64 1)), (.pv (.bool false))] σ1 (fun t3 σ2 =>
 (lock storeD prog σ2 39 t1 t3 fun σ3 =>
 (lock loadD prog σ3 39 t1 fun r0 =>
 (retV (r0) σ3 K)))) (panV X))))
theorem S131_eq (env : Env) (t0_a : AV) (σ : AS) (K : AV → AS → Prop) (X : PV → AS → Prop) : S131 env t0_a σ K X = bodyD prog env an131 f131 [t0_a] σ K X := by
  unfold S131
  kernel_rfl
theorem S131_ok : (match f131.body with | some c => okCode an131 prog f131.ntmps c | none => false) = true := by kernel_rfl
/-! ### (*tedder/syntax.parser).statement (function 98) -/
def an98 : An := { mu := [], cut := [(15, [0, 2, 8])], loop := [], any := [2, 16] }
def J98_15 (env : Env)  (p0_j15 t2_j15 s8_j15 : AV) (σ : AS) (K : AV → AS → Prop) (X : PV → AS → Prop) : Prop :=
 (env 67 [(.pv (.str [119, 104, 105, 108, 101]))] σ (fun t64 σ34 =>
 (env 97 [p0_j15, t64] σ34 (fun t65 σ35 =>
 ((lock loadD prog σ35 39 s8_j15 fun t66 =>
 ((env 119 [p0_j15] σ35 (fun t68 σ40 =>
 ((lock buildSliceD prog false σ40 35 2 2 [(0, t66), (1, t68)] fun t69 σ41 =>
 ((env 68 [(.pv (.str [100, 111])), (.pv (.str [])), t69] σ41 (fun t70 σ42 =>
 ((lock storeD prog σ42 39 t2_j15 t70 fun σ43 =>
 (lock loadD prog σ43 39 t2_j15 fun r0 =>
 (retV (.tuple [r0, (.pv (.bool true))]) σ43 K))) ∧ True)) (panV X)) ∧ True)) ∧ True)) (panV X)) ∧ True)) ∧ ((env 119 [p0_j15] σ35 (fun t68 σ36 =>
 ((lock loadD prog σ36 39 s8_j15 fun t66 =>
 ((lock buildSliceD prog false σ36 35 2 2 [(0, t66), (1, t68)] fun t69 σ37 =>
 ((env 68 [(.pv (.str [100, 111])), (.pv (.str [])), t69] σ37 (fun t70 σ38 =>
 ((lock storeD prog σ38 39 t2_j15 t70 fun σ39 =>
 (lock loadD prog σ39 39 t2_j15 fun r0 =>
 (retV (.tuple [r0, (.pv (.bool true))]) σ39 K))) ∧ True)) (panV X)) ∧ True)) ∧ True)) ∧ True)) (panV X)) ∧ True))) (panV X))) (panV X))
theorem J98_15_eq (env : Env)  (p0_j15 t2_j15 s8_j15 : AV) (σ : AS) (K : AV → AS → Prop) (X : PV → AS → Prop) : J98_15 env  p0_j15 t2_j15 s8_j15 σ K X = wpD prog env an98 (subC (bodyC f98) [1, 0, 1, 0, 1, 1, 1, 1, 1, 1, 1, 1, 1, 0, 1, 1]) (contQ prog env an98 (bodyC f98) [1, 0, 1, 0, 1, 1, 1, 1, 1, 1, 1, 1, 1, 0, 1, 1] [] (rootQ prog f98 K X)) [(0, p0_j15), (2, t2_j15), (8, s8_j15)] σ := by
  unfold J98_15
  kernel_rfl
def S98 (env : Env) (p0_a : AV) (σ : AS) (K : AV → AS → Prop) (X : PV → AS → Prop) : Prop :=
 (lock allocD prog σ 39 fun t2 σ1 =>
 (env 60 [p0_a, (.pv (.int .i64 0))] σ1 (fun t11 σ2 =>
 (lock allocD prog σ2 52 fun t4 σ3 =>
 (lock storeD prog σ3 52 t4 t11 fun σ4 =>
 ((lock loadD prog σ4 52 t4 fun t13 =>
 ((env 61 [(.pv (.str [123]))] σ4 (fun t14 σ51 =>
 ((lock binD prog .eql 52 t13 t14 fun t15 =>
 (condD t15
 (env 64 [p0_a] σ51 (fun t17 σ52 =>
 (lock storeD prog σ52 39 t2 t17 fun σ53 =>
 (lock loadD prog σ53 39 t2 fun r0 =>
 (retV (.tuple [r0, (.pv (.bool false))]) σ53 K)))) (panV X))
 (env 61 [(.pv (.str [59]))] σ51 (fun t20 σ54 =>
 (env 66 [p0_a, t20] σ54 (fun t21 σ55 =>
 (condD t21
 (env 65 [] σ55 (fun t22 σ56 =>
 (lock storeD prog σ56 39 t2 t22 fun σ57 =>
 (lock loadD prog σ57 39 t2 fun r0 =>
 (retV (.tuple [r0, (.pv (.bool false))]) σ57 K)))) (panV X))
 (env 67 [(.pv (.str [105, 102]))] σ55 (fun t25 σ58 =>
 (env 66 [p0_a, t25] σ58 (fun t26 σ59 =>
 (condD t26
 (env 118 [p0_a] σ59 (fun t28 σ60 =>
 (lock extractD t28 0 fun t29 =>
 (lock extractD t28 1 fun t30 =>
 (lock storeD prog σ60 39 t2 t29 fun σ61 =>
 (lock loadD prog σ61 39 t2 fun r0 =>
 (retV (.tuple [r0, t30]) σ61 K)))))) (panV X))
 (env 67 [(.pv (.str [119, 104, 105, 108, 101]))] σ59 (fun t33 σ62 =>
 (env 66 [p0_a, t33] σ62 (fun t34 σ63 =>
 (condD t34
 (env 119 [p0_a] σ63 (fun t36 σ64 =>
 (lock allocD prog σ64 39 fun t5 σ65 =>
 (lock storeD prog σ65 39 t5 t36 fun σ66 =>
 (env 120 [p0_a] σ66 (fun t39 σ67 =>
 (lock extractD t39 0 fun t40 =>
 (lock extractD t39 1 fun t41 =>
 (lock allocD prog σ67 39 fun t6 σ68 =>
 (lock storeD prog σ68 39 t6 t40 fun σ69 =>
 (lock loadD prog σ69 39 t5 fun t42 =>
 (lock loadD prog σ69 39 t6 fun t43 =>
 (lock buildSliceD prog false σ69 35 2 2 [(0, t42), (1, t43)] fun t44 σ70 =>
 (env 68 [(.pv (.str [119, 104, 105, 108, 101])), (.pv (.str [])), t44] σ70 (fun t45 σ71 =>
 (lock storeD prog σ71 39 t2 t45 fun σ72 =>
 (lock loadD prog σ72 39 t2 fun r0 =>
 (retV (.tuple [r0, t41]) σ72 K)))) (panV X)))))))))) (panV X))))) (panV X))
 (env 67 [(.pv (.str [100, 111]))] σ63 (fun t49 σ73 =>
 (env 66 [p0_a, t49] σ73 (fun t50 σ74 =>
 (condD t50
 (env 120 [p0_a] σ74 (fun t53 σ75 =>
 (lock extractD t53 0 fun t54 =>
 (lock extractD t53 1 fun t55 =>
 (lock allocD prog σ75 39 fun t8 σ76 =>
 (lock storeD prog σ76 39 t8 t54 fun σ77 =>
 (env 32 [p0_a] σ77 (fun t57 σ78 =>
 (guardD t57 false
 (unD .not t55 fun t60 =>
 (env 31 [t60] σ78 (fun t62 σ79 =>
 (J98_15 env  (p0_a) (t2) (t8) σ79 K X)) (panV X)))
 (env 31 [(.pv (.bool true))] σ78 (fun t62 σ80 =>
 (J98_15 env  (p0_a) (t2) (t8) σ80 K X)) (panV X)))) (panV X))))))) (panV X))
 (env 67 [(.pv (.str [102, 111, 114]))] σ74 (fun t73 σ81 =>
 (env 66 [p0_a, t73] σ81 (fun t74 σ82 =>
 (condD t74
 (env 121 [p0_a] σ82 (fun t76 σ83 =>
 (lock extractD t76 0 fun t77 =>
 (lock extractD t76 1 fun t78 =>
 (lock storeD prog σ83 39 t2 t77 fun σ84 =>
 (lock loadD prog σ84 39 t2 fun r0 =>
 (retV (.tuple [r0, t78]) σ84 K)))))) (panV X))
 (env 122 [p0_a] σ82 (fun t80 σ85 =>
 (lock storeD prog σ85 39 t2 t80 fun σ86 =>
 (lock loadD prog σ86 39 t2 fun r0 =>
 (retV (.tuple [r0, (.pv (.bool true))]) σ86 K)))) (panV X)))) (panV X))) (panV X)))) (panV X))) (panV X)))) (panV X))) (panV X)))) (panV X))) (panV X)))) (panV X))) (panV X)))) ∧ True)) (panV X)) ∧ True)) ∧ ((env 61 [(.pv (.str [123]))] σ4 (fun t14 σ5 =>
 ((lock loadD prog σ5 52 t4 fun t13 =>
 ((lock binD prog .eql 52 t13 t14 fun t15 =>
 (condD t15
 (env 64 [p0_a] σ5 (fun t17 σ6 =>
 (lock storeD prog σ6 39 t2 t17 fun σ7 =>
 (lock loadD prog σ7 39 t2 fun r0 =>
 (retV (.tuple [r0, (.pv (.bool false))]) σ7 K)))) (panV X))
 (env 61 [(.pv (.str [59]))] σ5 (fun t20 σ8 =>
 (env 66 [p0_a, t20] σ8 (fun t21 σ9 =>
 (condD t21
 (env 65 [] σ9 (fun t22 σ10 =>
 (lock storeD prog σ10 39 t2 t22 fun σ11 =>
 (lock loadD prog σ11 39 t2 fun r0 =>
 (retV (.tuple [r0, (.pv (.bool false))]) σ11 K)))) (panV X))
 (env 67 [(.pv (.str [105, 102]))] σ9 (fun t25 σ12 =>
 (env 66 [p0_a, t25] σ12 (fun t26 σ13 =>
 (condD t26
 (env 118 [p0_a] σ13 (fun t28 σ14 =>
 (lock extractD t28 0 fun t29 =>
 (lock extractD t28 1 fun t30 =>
 (lock storeD prog σ14 39 t2 t29 fun σ15 =>
 (lock loadD prog σ15 39 t2 fun r0 =>
 (retV (.tuple [r0, t30]) σ15 K)))))) (panV X))
 (env 67 [(.pv (.str [119, 104, 105, 108, 101]))] σ13 (fun t33 σ16 =>
 (env 66 [p0_a, t33] σ16 (fun t34 σ17 =>
 (condD t34
 (env 119 [p0_a] σ17 (fun t36 σ18 =>
 (lock allocD prog σ18 39 fun t5 σ19 =>
 (lock storeD prog σ19 39 t5 t36 fun σ20 =>
 (env 120 [p0_a] σ20 (fun t39 σ21 =>
 (lock extractD t39 0 fun t40 =>
 (lock extractD t39 1 fun t41 =>
 (lock allocD prog σ21 39 fun t6 σ22 =>
 (lock storeD prog σ22 39 t6 t40 fun σ23 =>
 (lock loadD prog σ23 39 t5 fun t42 =>
 (lock loadD prog σ23 39 t6 fun t43 =>
 (lock buildSliceD prog false σ23 35 2 2 [(0, t42), (1, t43)] fun t44 σ24 =>
 (env 68 [(.pv (.str [119, 104, 105, 108, 101])), (.pv (.str [])), t44] σ24 (fun t45 σ25 =>
 (lock storeD prog σ25 39 t2 t45 fun σ26 =>
 (lock loadD prog σ26 39 t2 fun r0 =>
 (retV (.tuple [r0, t41]) σ26 K)))) (panV X)))))))))) (panV X))))) (panV X))
 (env 67 [(.pv (.str [100, 111]))] σ17 (fun t49 σ27 =>
 (env 66 [p0_a, t49] σ27 (fun t50 σ28 =>
 (condD t50
 (env 120 [p0_a] σ28 (fun t53 σ29 =>
 (lock extractD t53 0 fun t54 =>
 (lock extractD t53 1 fun t55 =>
 (lock allocD prog σ29 39 fun t8 σ30 =>
 (lock storeD prog σ30 39 t8 t54 fun σ31 =>
 (env 32 [p0_a] σ31 (fun t57 σ32 =>
 (guardD t57 false
 (unD .not t55 fun t60 =>
 (env 31 [t60] σ32 (fun t62 σ33 =>
 (J98_15 env  (p0_a) (t2) (t8) σ33 K X)) (panV X)))
 (env 31 [(.pv (.bool true))] σ32 (fun t62 σ44 =>
 (J98_15 env  (p0_a) (t2) (t8) σ44 K X)) (panV X)))) (panV X))))))) (panV X))
 (env 67 [(.pv (.str [102, 111, 114]))] σ28 (fun t73 σ45 =>
 (env 66 [p0_a, t73] σ45 (fun t74 σ46 =>
 (condD t74
 (env 121 [p0_a] σ46 (fun t76 σ47 =>
 (lock extractD t76 0 fun t77 =>
 (lock extractD t76 1 fun t78 =>
 (lock storeD prog σ47 39 t2 t77 fun σ48 =>
 (lock loadD prog σ48 39 t2 fun r0 =>
 (retV (.tuple [r0, t78]) σ48 K)))))) (panV X))
 (env 122 [p0_a] σ46 (fun t80 σ49 =>
 (lock storeD prog σ49 39 t2 t80 fun σ50 =>
 (lock loadD prog σ50 39 t2 fun r0 =>
 (retV (.tuple [r0, (.pv (.bool true))]) σ50 K)))) (panV X)))) (panV X))) (panV X)))) (panV X))) (panV X)))) (panV X))) (panV X)))) (panV X))) (panV X)))) (panV X))) (panV X)))) ∧ True)) ∧ True)) (panV X)) ∧ True))))) (panV X)))
theorem S98_eq (env : Env) (p0_a : AV) (σ : AS) (K : AV → AS → Prop) (X : PV → AS → Prop) : S98 env p0_a σ K X = bodyD prog env an98 f98 [p0_a] σ K X := by
  unfold S98
  kernel_rfl
theorem S98_ok : (match f98.body with | some c => okCode an98 prog f98.ntmps c | none => false) = true := by kernel_rfl
/-! ### (*tedder/syntax.parser).block (function 64) -/
def an64 : An := { mu := [], cut := [], loop := [(4, [0, 2, 3])] }
def L64_4 (env : Env) (I4 : Nat → List AV → AS → Prop) (m4 : Nat) (p0_l4 t2_l4 l3_l4 : AV) (σ : AS) (K : AV → AS → Prop) (X : PV → AS → Prop) : Prop :=
 (env 61 [(.pv (.str [125]))] σ (fun t12 σ6 =>
 (env 66 [p0_l4, t12] σ6 (fun t13 σ7 =>
 (unD .not t13 fun t14 =>
 (condD t14
 (env 98 [p0_l4] σ7 (fun t17 σ8 =>
 (lock extractD t17 0 fun t18 =>
 (lock extractD t17 1 fun t19 =>
 (lock allocD prog σ8 39 fun t4 σ9 =>
 (lock storeD prog σ9 39 t4 t18 fun σ10 =>
 (lock loadD prog σ10 39 t4 fun t21 =>
 (lock buildSliceD prog false σ10 35 1 1 [(0, t21)] fun t22 σ11 =>
 (lock appendD prog false σ11 35 l3_l4 t22 fun t23 σ12 =>
 (env 32 [p0_l4] σ12 (fun t25 σ13 =>
 (guardD t25 false
 (unD .not t19 fun t28 =>
 (guardD t28 false
 (env 60 [p0_l4, (.pv (.int .i64 0))] σ13 (fun t32 σ14 =>
 (env 61 [(.pv (.str [125]))] σ14 (fun t33 σ15 =>
 (lock binD prog .eql 52 t32 t33 fun t34 =>
 (env 31 [t34] σ15 (fun t36 σ16 =>
 (∃ m', m' < m4 ∧ I4 m' [p0_l4, t2_l4, t23] σ16)) (panV X)))) (panV X))) (panV X))
 (env 31 [(.pv (.bool true))] σ13 (fun t36 σ17 =>
 (∃ m', m' < m4 ∧ I4 m' [p0_l4, t2_l4, t23] σ17)) (panV X))))
 (env 31 [(.pv (.bool true))] σ13 (fun t36 σ18 =>
 (∃ m', m' < m4 ∧ I4 m' [p0_l4, t2_l4, t23] σ18)) (panV X)))) (panV X)))))))))) (panV X))
 (env 68 [(.pv (.str [98, 108, 111, 99, 107])), (.pv (.str [])), l3_l4] σ7 (fun t38 σ19 =>
 (lock storeD prog σ19 39 t2_l4 t38 fun σ20 =>
 (lock loadD prog σ20 39 t2_l4 fun r0 =>
 (retV (r0) σ20 K)))) (panV X))))) (panV X))) (panV X))
theorem L64_4_eq (env : Env) (I4 : Nat → List AV → AS → Prop) (m4 : Nat) (p0_l4 t2_l4 l3_l4 : AV) (σ : AS) (K : AV → AS → Prop) (X : PV → AS → Prop) : L64_4 env I4 m4 p0_l4 t2_l4 l3_l4 σ K X = wpD prog env an64 (subC (bodyC f64) [1, 1, 1, 1, 0, 0, 0]) (contQ prog env an64 (bodyC f64) [1, 1, 1, 1, 0, 0, 0] [(I4, m4)] (rootQ prog f64 K X)) [(0, p0_l4), (2, t2_l4), (3, l3_l4)] σ := by
  unfold L64_4
  kernel_rfl
theorem lp64_4 {α : Type} {env : Env}  {p0_l4 t2_l4 : AV} {σ : AS} {K : AV → AS → Prop} {X : PV → AS → Prop} (μ : α → AS → Nat) (I : α → AS → Prop) (el3_l4 : α → AV) (a0 : α) (h0 : I a0 σ)
 (h : ∀ a σ, I a σ → L64_4 env  (Inv (fun a => [p0_l4, t2_l4, el3_l4 a]) μ I) (μ a σ) p0_l4 t2_l4 (el3_l4 a) σ K X) :
 ∃ I4 : Nat → List AV → AS → Prop, (∃ m, I4 m [p0_l4, t2_l4, el3_l4 a0] σ) ∧ ∀ (m : Nat) (x0 x1 x2 : AV), ∀ σ, I4 m [x0, x1, x2] σ →
 L64_4 env  I4 m x0 x1 x2 σ K X := by
  refine ⟨Inv (fun a => [p0_l4, t2_l4, el3_l4 a]) μ I, ⟨_, a0, rfl, rfl, h0⟩, ?_⟩
  rintro m x0 x1 x2 σ' ⟨a, hv, rfl, hI⟩
  simp only [List.cons.injEq, and_true] at hv
  obtain ⟨rfl, rfl, rfl⟩ := hv
  exact h a σ' hI
def S64 (env : Env) (p0_a : AV) (σ : AS) (K : AV → AS → Prop) (X : PV → AS → Prop) : Prop :=
 (lock allocD prog σ 39 fun t2 σ1 =>
 (env 61 [(.pv (.str [123]))] σ1 (fun t7 σ2 =>
 (env 97 [p0_a, t7] σ2 (fun t8 σ3 =>
 (env 32 [p0_a] σ3 (fun t10 σ4 =>
 (∃ I4 : Nat → List AV → AS → Prop, (∃ m, I4 m [p0_a, t2, (.nilS)] σ4) ∧ ∀ (m4 : Nat) (p0_l4 t2_l4 l3_l4 : AV), ∀ σ5, I4 m4 [p0_l4, t2_l4, l3_l4] σ5 →
 (L64_4 env I4 m4 p0_l4 t2_l4 l3_l4 σ5 K X))) (panV X))) (panV X))) (panV X)))
theorem S64_eq (env : Env) (p0_a : AV) (σ : AS) (K : AV → AS → Prop) (X : PV → AS → Prop) : S64 env p0_a σ K X = bodyD prog env an64 f64 [p0_a] σ K X := by
  unfold S64
  simp only [L64_4_eq]
  kernel_rfl
theorem S64_ok : (match f64.body with | some c => okCode an64 prog f64.ntmps c | none => false) = true := by kernel_rfl
/-! ### (*tedder/syntax.parser).function (function 69) -/
def an69 : An := { mu := [], cut := [(10, [0, 2, 3, 4]), (12, [0, 2, 3, 4])], loop := [(6, [0, 2, 3, 4, 5])] }
def J69_10 (env : Env) (I6 : Nat → List AV → AS → Prop) (m6 : Nat) (p0_j10 t2_j10 name3_j10 l4_j10 : AV) (σ : AS) (K : AV → AS → Prop) (X : PV → AS → Prop) : Prop :=
 (lock buildSliceD prog false σ 27 1 1 [(0, (.pv (.str [110, 97, 109, 101])))] fun t27 σ10 =>
 (env 99 [p0_j10, t27] σ10 (fun t28 σ11 =>
 (env 68 [(.pv (.str [118, 97, 114])), t28, (.nilS)] σ11 (fun t29 σ12 =>
 (lock buildSliceD prog false σ12 35 1 1 [(0, t29)] fun t30 σ13 =>
 (lock appendD prog false σ13 35 l4_j10 t30 fun t31 σ14 =>
 (env 61 [(.pv (.str [44]))] σ14 (fun t18 σ15 =>
 (env 66 [p0_j10, t18] σ15 (fun t19 σ16 =>
 (∃ m', m' < m6 ∧ I6 m' [p0_j10, t2_j10, name3_j10, t31, t19] σ16)) (panV X))) (panV X))))) (panV X))) (panV X)))
theorem J69_10_eq (env : Env) (I6 : Nat → List AV → AS → Prop) (m6 : Nat) (p0_j10 t2_j10 name3_j10 l4_j10 : AV) (σ : AS) (K : AV → AS → Prop) (X : PV → AS → Prop) : J69_10 env I6 m6 p0_j10 t2_j10 name3_j10 l4_j10 σ K X = wpD prog env an69 (subC (bodyC f69) [1, 1, 1, 1, 0, 1, 0, 0, 1, 0, 0, 1, 0, 0, 1]) (contQ prog env an69 (bodyC f69) [1, 1, 1, 1, 0, 1, 0, 0, 1, 0, 0, 1, 0, 0, 1] [(I6, m6)] (rootQ prog f69 K X)) [(0, p0_j10), (2, t2_j10), (3, name3_j10), (4, l4_j10)] σ := by
  unfold J69_10
  kernel_rfl
def J69_12 (env : Env)  (p0_j12 t2_j12 name3_j12 l4_j12 : AV) (σ : AS) (K : AV → AS → Prop) (X : PV → AS → Prop) : Prop :=
 (env 71 [p0_j12] σ (fun t36 σ19 =>
 (env 68 [(.pv (.str [112, 97, 114, 97, 109, 115])), (.pv (.str [])), l4_j12] σ19 (fun t39 σ20 =>
 (env 64 [p0_j12] σ20 (fun t41 σ21 =>
 (lock buildSliceD prog false σ21 35 2 2 [(0, t39), (1, t41)] fun t42 σ22 =>
 (env 68 [(.pv (.str [102, 117, 110, 99])), name3_j12, t42] σ22 (fun t43 σ23 =>
 (lock storeD prog σ23 39 t2_j12 t43 fun σ24 =>
 (lock loadD prog σ24 39 t2_j12 fun r0 =>
 (retV (r0) σ24 K)))) (panV X)))) (panV X))) (panV X))) (panV X))
theorem J69_12_eq (env : Env)  (p0_j12 t2_j12 name3_j12 l4_j12 : AV) (σ : AS) (K : AV → AS → Prop) (X : PV → AS → Prop) : J69_12 env  p0_j12 t2_j12 name3_j12 l4_j12 σ K X = wpD prog env an69 (subC (bodyC f69) [1, 1, 1, 1, 1]) (contQ prog env an69 (bodyC f69) [1, 1, 1, 1, 1] [] (rootQ prog f69 K X)) [(0, p0_j12), (2, t2_j12), (3, name3_j12), (4, l4_j12)] σ := by
  unfold J69_12
  kernel_rfl
def L69_6 (env : Env) (I6 : Nat → List AV → AS → Prop) (m6 : Nat) (p0_l6 t2_l6 name3_l6 l4_l6 more5_l6 : AV) (σ : AS) (K : AV → AS → Prop) (X : PV → AS → Prop) : Prop :=
 (condD more5_l6
 (lock lenD prog 35 l4_l6 fun t21 =>
 (lock binD prog .gtr 3 t21 (.pv (.int .i64 0)) fun t22 =>
 (condD t22
 (env 71 [p0_l6] σ (fun t24 σ9 =>
 (J69_10 env I6 m6 (p0_l6) (t2_l6) (name3_l6) (l4_l6) σ9 K X)) (panV X))
 (J69_10 env I6 m6 (p0_l6) (t2_l6) (name3_l6) (l4_l6) σ K X))))
 (env 61 [(.pv (.str [41]))] σ (fun t33 σ17 =>
 (env 97 [p0_l6, t33] σ17 (fun t34 σ18 =>
 (J69_12 env  (p0_l6) (t2_l6) (name3_l6) (l4_l6) σ18 K X)) (panV X))) (panV X)))
theorem L69_6_eq (env : Env) (I6 : Nat → List AV → AS → Prop) (m6 : Nat) (p0_l6 t2_l6 name3_l6 l4_l6 more5_l6 : AV) (σ : AS) (K : AV → AS → Prop) (X : PV → AS → Prop) : L69_6 env I6 m6 p0_l6 t2_l6 name3_l6 l4_l6 more5_l6 σ K X = wpD prog env an69 (subC (bodyC f69) [1, 1, 1, 1, 0, 1, 0, 0, 1, 0, 0]) (contQ prog env an69 (bodyC f69) [1, 1, 1, 1, 0, 1, 0, 0, 1, 0, 0] [(I6, m6)] (rootQ prog f69 K X)) [(0, p0_l6), (2, t2_l6), (3, name3_l6), (4, l4_l6), (5, more5_l6)] σ := by
  unfold L69_6
  kernel_rfl
theorem lp69_6 {α : Type} {env : Env}  {p0_l6 t2_l6 name3_l6 : AV} {σ : AS} {K : AV → AS → Prop} {X : PV → AS → Prop} (μ : α → AS → Nat) (I : α → AS → Prop) (el4_l6 emore5_l6 : α → AV) (a0 : α) (h0 : I a0 σ)
 (h : ∀ a σ, I a σ → L69_6 env  (Inv (fun a => [p0_l6, t2_l6, name3_l6, el4_l6 a, emore5_l6 a]) μ I) (μ a σ) p0_l6 t2_l6 name3_l6 (el4_l6 a) (emore5_l6 a) σ K X) :
 ∃ I6 : Nat → List AV → AS → Prop, (∃ m, I6 m [p0_l6, t2_l6, name3_l6, el4_l6 a0, emore5_l6 a0] σ) ∧ ∀ (m : Nat) (x0 x1 x2 x3 x4 : AV), ∀ σ, I6 m [x0, x1, x2, x3, x4] σ →
 L69_6 env  I6 m x0 x1 x2 x3 x4 σ K X := by
  refine ⟨Inv (fun a => [p0_l6, t2_l6, name3_l6, el4_l6 a, emore5_l6 a]) μ I, ⟨_, a0, rfl, rfl, h0⟩, ?_⟩
  rintro m x0 x1 x2 x3 x4 σ' ⟨a, hv, rfl, hI⟩
  simp only [List.cons.injEq, and_true] at hv
  obtain ⟨rfl, rfl, rfl, rfl, rfl⟩ := hv
  exact h a σ' hI
def S69 (env : Env) (p0_a : AV) (σ : AS) (K : AV → AS → Prop) (X : PV → AS → Prop) : Prop :=
 (lock allocD prog σ 39 fun t2 σ1 =>
 (lock buildSliceD prog false σ1 27 2 2 [(0, (.pv (.str [110, 97, 109, 101]))), (1, (.pv (.str [102, 117, 110, 99])))] fun t7 σ2 =>
 (env 99 [p0_a, t7] σ2 (fun t8 σ3 =>
 (env 61 [(.pv (.str [40]))] σ3 (fun t10 σ4 =>
 (env 97 [p0_a, t10] σ4 (fun t11 σ5 =>
 (env 61 [(.pv (.str [41]))] σ5 (fun t13 σ6 =>
 (env 66 [p0_a, t13] σ6 (fun t14 σ7 =>
 (unD .not t14 fun t15 =>
 (condD t15
 (∃ I6 : Nat → List AV → AS → Prop, (∃ m, I6 m [p0_a, t2, t8, (.nilS), (.pv (.bool true))] σ7) ∧ ∀ (m6 : Nat) (p0_l6 t2_l6 name3_l6 l4_l6 more5_l6 : AV), ∀ σ8, I6 m6 [p0_l6, t2_l6, name3_l6, l4_l6, more5_l6] σ8 →
 (L69_6 env I6 m6 p0_l6 t2_l6 name3_l6 l4_l6 more5_l6 σ8 K X))
 (J69_12 env  (p0_a) (t2) (t8) (.nilS) σ7 K X)))) (panV X))) (panV X))) (panV X))) (panV X))) (panV X))))
theorem S69_eq (env : Env) (p0_a : AV) (σ : AS) (K : AV → AS → Prop) (X : PV → AS → Prop) : S69 env p0_a σ K X = bodyD prog env an69 f69 [p0_a] σ K X := by
  unfold S69
  simp only [L69_6_eq]
  kernel_rfl
theorem S69_ok : (match f69.body with | some c => okCode an69 prog f69.ntmps c | none => false) = true := by kernel_rfl
/-! ### (*tedder/syntax.parser).item (function 33) -/
def an33 : An := { mu := [], cut := [], loop := [], any := [2, 4, 6, 9, 11] }
def S33 (env : Env) (p0_a : AV) (σ : AS) (K : AV → AS → Prop) (X : PV → AS → Prop) : Prop :=
 (lock boxD σ p0_a fun t1 σ1 =>
 (lock allocD prog σ1 39 fun t2 σ2 =>
 ((lock loadD prog σ2 57 t1 fun t13 =>
 ((env 67 [(.pv (.str [66, 69, 71, 73, 78]))] σ2 (fun t14 σ241 =>
 ((env 66 [t13, t14] σ241 (fun t15 σ242 =>
 (condD t15
 (lock loadD prog σ242 57 t1 fun t16 =>
 (env 64 [t16] σ242 (fun t17 σ243 =>
 (lock buildSliceD prog false σ243 35 1 1 [(0, t17)] fun t18 σ244 =>
 (env 68 [(.pv (.str [66, 69, 71, 73, 78])), (.pv (.str [])), t18] σ244 (fun t19 σ245 =>
 (lock storeD prog σ245 39 t2 t19 fun σ246 =>
 (lock loadD prog σ246 39 t2 fun r0 =>
 (retV (.tuple [r0, (.pv (.bool false))]) σ246 K)))) (panV X)))) (panV X)))
 ((lock loadD prog σ242 57 t1 fun t21 =>
 ((env 67 [(.pv (.str [69, 78, 68]))] σ242 (fun t22 σ363 =>
 ((env 66 [t21, t22] σ363 (fun t23 σ364 =>
 (condD t23
 (lock loadD prog σ364 57 t1 fun t24 =>
 (env 64 [t24] σ364 (fun t25 σ365 =>
 (lock buildSliceD prog false σ365 35 1 1 [(0, t25)] fun t26 σ366 =>
 (env 68 [(.pv (.str [69, 78, 68])), (.pv (.str [])), t26] σ366 (fun t27 σ367 =>
 (lock storeD prog σ367 39 t2 t27 fun σ368 =>
 (lock loadD prog σ368 39 t2 fun r0 =>
 (retV (.tuple [r0, (.pv (.bool false))]) σ368 K)))) (panV X)))) (panV X)))
 ((lock loadD prog σ364 57 t1 fun t29 =>
 ((env 67 [(.pv (.str [102, 117, 110, 99, 116, 105, 111, 110]))] σ364 (fun t30 σ424 =>
 ((env 66 [t29, t30] σ424 (fun t31 σ425 =>
 (condD t31
 (lock loadD prog σ425 57 t1 fun t32 =>
 (env 69 [t32] σ425 (fun t33 σ426 =>
 (lock storeD prog σ426 39 t2 t33 fun σ427 =>
 (lock loadD prog σ427 39 t2 fun r0 =>
 (retV (.tuple [r0, (.pv (.bool false))]) σ427 K)))) (panV X)))
 (lock loadD prog σ425 57 t1 fun t35 =>
 (env 60 [t35, (.pv (.int .i64 0))] σ425 (fun t36 σ428 =>
 (env 61 [(.pv (.str [123]))] σ428 (fun t37 σ429 =>
 (lock binD prog .eql 52 t36 t37 fun t38 =>
 (condD t38
 ((env 65 [] σ429 (fun t39 σ435 =>
 ((lock loadD prog σ435 57 t1 fun t40 =>
 ((env 64 [t40] σ435 (fun t41 σ436 =>
 ((lock buildSliceD prog false σ436 35 2 2 [(0, t39), (1, t41)] fun t42 σ437 =>
 ((env 68 [(.pv (.str [114, 117, 108, 101])), (.pv (.str [])), t42] σ437 (fun t43 σ438 =>
 ((lock storeD prog σ438 39 t2 t43 fun σ439 =>
 (lock loadD prog σ439 39 t2 fun r0 =>
 (retV (.tuple [r0, (.pv (.bool false))]) σ439 K))) ∧ True)) (panV X)) ∧ True)) ∧ True)) (panV X)) ∧ True)) ∧ True)) (panV X)) ∧ ((lock loadD prog σ429 57 t1 fun t40 =>
 ((env 65 [] σ429 (fun t39 σ430 =>
 ((env 64 [t40] σ430 (fun t41 σ431 =>
 ((lock buildSliceD prog false σ431 35 2 2 [(0, t39), (1, t41)] fun t42 σ432 =>
 ((env 68 [(.pv (.str [114, 117, 108, 101])), (.pv (.str [])), t42] σ432 (fun t43 σ433 =>
 ((lock storeD prog σ433 39 t2 t43 fun σ434 =>
 (lock loadD prog σ434 39 t2 fun r0 =>
 (retV (.tuple [r0, (.pv (.bool false))]) σ434 K))) ∧ True)) (panV X)) ∧ True)) ∧ True)) (panV X)) ∧ True)) (panV X)) ∧ True)) ∧ True))
 (lock loadD prog σ429 57 t1 fun t44 =>
 (env 70 [t44, (.pv (.int .i64 1)), (.pv (.bool false))] σ429 (fun t45 σ440 =>
 (lock allocD prog σ440 39 fun t5 σ441 =>
 (lock storeD prog σ441 39 t5 t45 fun σ442 =>
 ((lock loadD prog σ442 57 t1 fun t46 =>
 ((env 61 [(.pv (.str [44]))] σ442 (fun t47 σ461 =>
 ((env 66 [t46, t47] σ461 (fun t48 σ462 =>
 (condD t48
 (lock loadD prog σ462 57 t1 fun t49 =>
 (env 71 [t49] σ462 (fun t50 σ463 =>
 (lock loadD prog σ463 57 t1 fun t51 =>
 (env 70 [t51, (.pv (.int .i64 1)), (.pv (.bool false))] σ463 (fun t52 σ464 =>
 (lock allocD prog σ464 39 fun t6 σ465 =>
 (lock storeD prog σ465 39 t6 t52 fun σ466 =>
 (callD env (.clo 63 [] [t1]) [] σ466 (fun t55 σ467 =>
 (lock extractD t55 0 fun t56 =>
 (lock extractD t55 1 fun t57 =>
 (lock allocD prog σ467 39 fun t7 σ468 =>
 (lock storeD prog σ468 39 t7 t56 fun σ469 =>
 (lock loadD prog σ469 39 t5 fun t58 =>
 (lock loadD prog σ469 39 t6 fun t59 =>
 (lock loadD prog σ469 39 t7 fun t60 =>
 (lock buildSliceD prog false σ469 35 3 3 [(0, t58), (1, t59), (2, t60)] fun t61 σ470 =>
 (env 68 [(.pv (.str [114, 97, 110, 103, 101])), (.pv (.str [])), t61] σ470 (fun t62 σ471 =>
 (lock storeD prog σ471 39 t2 t62 fun σ472 =>
 (lock loadD prog σ472 39 t2 fun r0 =>
 (retV (.tuple [r0, t57]) σ472 K)))) (panV X))))))))))) (panV X))))) (panV X)))) (panV X)))
 (callD env (.clo 63 [] [t1]) [] σ462 (fun t66 σ473 =>
 (lock extractD t66 0 fun t67 =>
 (lock extractD t66 1 fun t68 =>
 (lock allocD prog σ473 39 fun t9 σ474 =>
 (lock storeD prog σ474 39 t9 t67 fun σ475 =>
 (lock loadD prog σ475 39 t5 fun t69 =>
 (lock loadD prog σ475 39 t9 fun t70 =>
 (lock buildSliceD prog false σ475 35 2 2 [(0, t69), (1, t70)] fun t71 σ476 =>
 (env 68 [(.pv (.str [114, 117, 108, 101])), (.pv (.str [])), t71] σ476 (fun t72 σ477 =>
 (lock storeD prog σ477 39 t2 t72 fun σ478 =>
 (lock loadD prog σ478 39 t2 fun r0 =>
 (retV (.tuple [r0, t68]) σ478 K)))) (panV X)))))))))) (panV X)))) (panV X)) ∧ True)) (panV X)) ∧ True)) ∧ ((env 61 [(.pv (.str [44]))] σ442 (fun t47 σ443 =>
 ((lock loadD prog σ443 57 t1 fun t46 =>
 ((env 66 [t46, t47] σ443 (fun t48 σ444 =>
 (condD t48
 (lock loadD prog σ444 57 t1 fun t49 =>
 (env 71 [t49] σ444 (fun t50 σ445 =>
 (lock loadD prog σ445 57 t1 fun t51 =>
 (env 70 [t51, (.pv (.int .i64 1)), (.pv (.bool false))] σ445 (fun t52 σ446 =>
 (lock allocD prog σ446 39 fun t6 σ447 =>
 (lock storeD prog σ447 39 t6 t52 fun σ448 =>
 (callD env (.clo 63 [] [t1]) [] σ448 (fun t55 σ449 =>
 (lock extractD t55 0 fun t56 =>
 (lock extractD t55 1 fun t57 =>
 (lock allocD prog σ449 39 fun t7 σ450 =>
 (lock storeD prog σ450 39 t7 t56 fun σ451 =>
 (lock loadD prog σ451 39 t5 fun t58 =>
 (lock loadD prog σ451 39 t6 fun t59 =>
 (lock loadD prog σ451 39 t7 fun t60 =>
 (lock buildSliceD prog false σ451 35 3 3 [(0, t58), (1, t59), (2, t60)] fun t61 σ452 =>
 (env 68 [(.pv (.str [114, 97, 110, 103, 101])), (.pv (.str [])), t61] σ452 (fun t62 σ453 =>
 (lock storeD prog σ453 39 t2 t62 fun σ454 =>
 (lock loadD prog σ454 39 t2 fun r0 =>
 (retV (.tuple [r0, t57]) σ454 K)))) (panV X))))))))))) (panV X))))) (panV X)))) (panV X)))
 (callD env (.clo 63 [] [t1]) [] σ444 (fun t66 σ455 =>
 (lock extractD t66 0 fun t67 =>
 (lock extractD t66 1 fun t68 =>
 (lock allocD prog σ455 39 fun t9 σ456 =>
 (lock storeD prog σ456 39 t9 t67 fun σ457 =>
 (lock loadD prog σ457 39 t5 fun t69 =>
 (lock loadD prog σ457 39 t9 fun t70 =>
 (lock buildSliceD prog false σ457 35 2 2 [(0, t69), (1, t70)] fun t71 σ458 =>
 (env 68 [(.pv (.str [114, 117, 108, 101])), (.pv (.str [])), t71] σ458 (fun t72 σ459 =>
 (lock storeD prog σ459 39 t2 t72 fun σ460 =>
 (lock loadD prog σ460 39 t2 fun r0 =>
 (retV (.tuple [r0, t68]) σ460 K)))) (panV X)))))))))) (panV X)))) (panV X)) ∧ True)) ∧ True)) (panV X)) ∧ True))))) (panV X)))))) (panV X))) (panV X))))) (panV X)) ∧ True)) (panV X)) ∧ True)) ∧ ((env 67 [(.pv (.str [102, 117, 110, 99, 116, 105, 111, 110]))] σ364 (fun t30 σ369 =>
 ((lock loadD prog σ369 57 t1 fun t29 =>
 ((env 66 [t29, t30] σ369 (fun t31 σ370 =>
 (condD t31
 (lock loadD prog σ370 57 t1 fun t32 =>
 (env 69 [t32] σ370 (fun t33 σ371 =>
 (lock storeD prog σ371 39 t2 t33 fun σ372 =>
 (lock loadD prog σ372 39 t2 fun r0 =>
 (retV (.tuple [r0, (.pv (.bool false))]) σ372 K)))) (panV X)))
 (lock loadD prog σ370 57 t1 fun t35 =>
 (env 60 [t35, (.pv (.int .i64 0))] σ370 (fun t36 σ373 =>
 (env 61 [(.pv (.str [123]))] σ373 (fun t37 σ374 =>
 (lock binD prog .eql 52 t36 t37 fun t38 =>
 (condD t38
 ((env 65 [] σ374 (fun t39 σ380 =>
 ((lock loadD prog σ380 57 t1 fun t40 =>
 ((env 64 [t40] σ380 (fun t41 σ381 =>
 ((lock buildSliceD prog false σ381 35 2 2 [(0, t39), (1, t41)] fun t42 σ382 =>
 ((env 68 [(.pv (.str [114, 117, 108, 101])), (.pv (.str [])), t42] σ382 (fun t43 σ383 =>
 ((lock storeD prog σ383 39 t2 t43 fun σ384 =>
 (lock loadD prog σ384 39 t2 fun r0 =>
 (retV (.tuple [r0, (.pv (.bool false))]) σ384 K))) ∧ True)) (panV X)) ∧ True)) ∧ True)) (panV X)) ∧ True)) ∧ True)) (panV X)) ∧ ((lock loadD prog σ374 57 t1 fun t40 =>
 ((env 65 [] σ374 (fun t39 σ375 =>
 ((env 64 [t40] σ375 (fun t41 σ376 =>
 ((lock buildSliceD prog false σ376 35 2 2 [(0, t39), (1, t41)] fun t42 σ377 =>
 ((env 68 [(.pv (.str [114, 117, 108, 101])), (.pv (.str [])), t42] σ377 (fun t43 σ378 =>
 ((lock storeD prog σ378 39 t2 t43 fun σ379 =>
 (lock loadD prog σ379 39 t2 fun r0 =>
 (retV (.tuple [r0, (.pv (.bool false))]) σ379 K))) ∧ True)) (panV X)) ∧ True)) ∧ True)) (panV X)) ∧ True)) (panV X)) ∧ True)) ∧ True))
 (lock loadD prog σ374 57 t1 fun t44 =>
 (env 70 [t44, (.pv (.int .i64 1)), (.pv (.bool false))] σ374 (fun t45 σ385 =>
 (lock allocD prog σ385 39 fun t5 σ386 =>
 (lock storeD prog σ386 39 t5 t45 fun σ387 =>
 ((lock loadD prog σ387 57 t1 fun t46 =>
 ((env 61 [(.pv (.str [44]))] σ387 (fun t47 σ406 =>
 ((env 66 [t46, t47] σ406 (fun t48 σ407 =>
 (condD t48
 (lock loadD prog σ407 57 t1 fun t49 =>
 (env 71 [t49] σ407 (fun t50 σ408 =>
 (lock loadD prog σ408 57 t1 fun t51 =>
 (env 70 [t51, (.pv (.int .i64 1)), (.pv (.bool false))] σ408 (fun t52 σ409 =>
 (lock allocD prog σ409 39 fun t6 σ410 =>
 (lock storeD prog σ410 39 t6 t52 fun σ411 =>
 (callD env (.clo 63 [] [t1]) [] σ411 (fun t55 σ412 =>
 (lock extractD t55 0 fun t56 =>
 (lock extractD t55 1 fun t57 =>
 (lock allocD prog σ412 39 fun t7 σ413 =>
 (lock storeD prog σ413 39 t7 t56 fun σ414 =>
 (lock loadD prog σ414 39 t5 fun t58 =>
 (lock loadD prog σ414 39 t6 fun t59 =>
 (lock loadD prog σ414 39 t7 fun t60 =>
 (lock buildSliceD prog false σ414 35 3 3 [(0, t58), (1, t59), (2, t60)] fun t61 σ415 =>
 (env 68 [(.pv (.str [114, 97, 110, 103, 101])), (.pv (.str [])), t61] σ415 (fun t62 σ416 =>
 (lock storeD prog σ416 39 t2 t62 fun σ417 =>
 (lock loadD prog σ417 39 t2 fun r0 =>
 (retV (.tuple [r0, t57]) σ417 K)))) (panV X))))))))))) (panV X))))) (panV X)))) (panV X)))
 (callD env (.clo 63 [] [t1]) [] σ407 (fun t66 σ418 =>
 (lock extractD t66 0 fun t67 =>
 (lock extractD t66 1 fun t68 =>
 (lock allocD prog σ418 39 fun t9 σ419 =>
 (lock storeD prog σ419 39 t9 t67 fun σ420 =>
 (lock loadD prog σ420 39 t5 fun t69 =>
 (lock loadD prog σ420 39 t9 fun t70 =>
 (lock buildSliceD prog false σ420 35 2 2 [(0, t69), (1, t70)] fun t71 σ421 =>
 (env 68 [(.pv (.str [114, 117, 108, 101])), (.pv (.str [])), t71] σ421 (fun t72 σ422 =>
 (lock storeD prog σ422 39 t2 t72 fun σ423 =>
 (lock loadD prog σ423 39 t2 fun r0 =>
 (retV (.tuple [r0, t68]) σ423 K)))) (panV X)))))))))) (panV X)))) (panV X)) ∧ True)) (panV X)) ∧ True)) ∧ ((env 61 [(.pv (.str [44]))] σ387 (fun t47 σ388 =>
 ((lock loadD prog σ388 57 t1 fun t46 =>
 ((env 66 [t46, t47] σ388 (fun t48 σ389 =>
 (condD t48
 (lock loadD prog σ389 57 t1 fun t49 =>
 (env 71 [t49] σ389 (fun t50 σ390 =>
 (lock loadD prog σ390 57 t1 fun t51 =>
 (env 70 [t51, (.pv (.int .i64 1)), (.pv (.bool false))] σ390 (fun t52 σ391 =>
 (lock allocD prog σ391 39 fun t6 σ392 =>
 (lock storeD prog σ392 39 t6 t52 fun σ393 =>
 (callD env (.clo 63 [] [t1]) [] σ393 (fun t55 σ394 =>
 (lock extractD t55 0 fun t56 =>
 (lock extractD t55 1 fun t57 =>
 (lock allocD prog σ394 39 fun t7 σ395 =>
 (lock storeD prog σ395 39 t7 t56 fun σ396 =>
 (lock loadD prog σ396 39 t5 fun t58 =>
 (lock loadD prog σ396 39 t6 fun t59 =>
 (lock loadD prog σ396 39 t7 fun t60 =>
 (lock buildSliceD prog false σ396 35 3 3 [(0, t58), (1, t59), (2, t60)] fun t61 σ397 =>
 (env 68 [(.pv (.str [114, 97, 110, 103, 101])), (.pv (.str [])), t61] σ397 (fun t62 σ398 =>
 (lock storeD prog σ398 39 t2 t62 fun σ399 =>
 (lock loadD prog σ399 39 t2 fun r0 =>
 (retV (.tuple [r0, t57]) σ399 K)))) (panV X))))))))))) (panV X))))) (panV X)))) (panV X)))
 (callD env (.clo 63 [] [t1]) [] σ389 (fun t66 σ400 =>
 (lock extractD t66 0 fun t67 =>
 (lock extractD t66 1 fun t68 =>
 (lock allocD prog σ400 39 fun t9 σ401 =>
 (lock storeD prog σ401 39 t9 t67 fun σ402 =>
 (lock loadD prog σ402 39 t5 fun t69 =>
 (lock loadD prog σ402 39 t9 fun t70 =>
 (lock buildSliceD prog false σ402 35 2 2 [(0, t69), (1, t70)] fun t71 σ403 =>
 (env 68 [(.pv (.str [114, 117, 108, 101])), (.pv (.str [])), t71] σ403 (fun t72 σ404 =>
 (lock storeD prog σ404 39 t2 t72 fun σ405 =>
 (lock loadD prog σ405 39 t2 fun r0 =>
 (retV (.tuple [r0, t68]) σ405 K)))) (panV X)))))))))) (panV X)))) (panV X)) ∧ True)) ∧ True)) (panV X)) ∧ True))))) (panV X)))))) (panV X))) (panV X))))) (panV X)) ∧ True)) ∧ True)) (panV X)) ∧ True)))) (panV X)) ∧ True)) (panV X)) ∧ True)) ∧ ((env 67 [(.pv (.str [69, 78, 68]))] σ242 (fun t22 σ247 =>
 ((lock loadD prog σ247 57 t1 fun t21 =>
 ((env 66 [t21, t22] σ247 (fun t23 σ248 =>
 (condD t23
 (lock loadD prog σ248 57 t1 fun t24 =>
 (env 64 [t24] σ248 (fun t25 σ249 =>
 (lock buildSliceD prog false σ249 35 1 1 [(0, t25)] fun t26 σ250 =>
 (env 68 [(.pv (.str [69, 78, 68])), (.pv (.str [])), t26] σ250 (fun t27 σ251 =>
 (lock storeD prog σ251 39 t2 t27 fun σ252 =>
 (lock loadD prog σ252 39 t2 fun r0 =>
 (retV (.tuple [r0, (.pv (.bool false))]) σ252 K)))) (panV X)))) (panV X)))
 ((lock loadD prog σ248 57 t1 fun t29 =>
 ((env 67 [(.pv (.str [102, 117, 110, 99, 116, 105, 111, 110]))] σ248 (fun t30 σ308 =>
 ((env 66 [t29, t30] σ308 (fun t31 σ309 =>
 (condD t31
 (lock loadD prog σ309 57 t1 fun t32 =>
 (env 69 [t32] σ309 (fun t33 σ310 =>
 (lock storeD prog σ310 39 t2 t33 fun σ311 =>
 (lock loadD prog σ311 39 t2 fun r0 =>
 (retV (.tuple [r0, (.pv (.bool false))]) σ311 K)))) (panV X)))
 (lock loadD prog σ309 57 t1 fun t35 =>
 (env 60 [t35, (.pv (.int .i64 0))] σ309 (fun t36 σ312 =>
 (env 61 [(.pv (.str [123]))] σ312 (fun t37 σ313 =>
 (lock binD prog .eql 52 t36 t37 fun t38 =>
 (condD t38
 ((env 65 [] σ313 (fun t39 σ319 =>
 ((lock loadD prog σ319 57 t1 fun t40 =>
 ((env 64 [t40] σ319 (fun t41 σ320 =>
 ((lock buildSliceD prog false σ320 35 2 2 [(0, t39), (1, t41)] fun t42 σ321 =>
 ((env 68 [(.pv (.str [114, 117, 108, 101])), (.pv (.str [])), t42] σ321 (fun t43 σ322 =>
 ((lock storeD prog σ322 39 t2 t43 fun σ323 =>
 (lock loadD prog σ323 39 t2 fun r0 =>
 (retV (.tuple [r0, (.pv (.bool false))]) σ323 K))) ∧ True)) (panV X)) ∧ True)) ∧ True)) (panV X)) ∧ True)) ∧ True)) (panV X)) ∧ ((lock loadD prog σ313 57 t1 fun t40 =>
 ((env 65 [] σ313 (fun t39 σ314 =>
 ((env 64 [t40] σ314 (fun t41 σ315 =>
 ((lock buildSliceD prog false σ315 35 2 2 [(0, t39), (1, t41)] fun t42 σ316 =>
 ((env 68 [(.pv (.str [114, 117, 108, 101])), (.pv (.str [])), t42] σ316 (fun t43 σ317 =>
 ((lock storeD prog σ317 39 t2 t43 fun σ318 =>
 (lock loadD prog σ318 39 t2 fun r0 =>
 (retV (.tuple [r0, (.pv (.bool false))]) σ318 K))) ∧ True)) (panV X)) ∧ True)) ∧ True)) (panV X)) ∧ True)) (panV X)) ∧ True)) ∧ True))
 (lock loadD prog σ313 57 t1 fun t44 =>
 (env 70 [t44, (.pv (.int .i64 1)), (.pv (.bool false))] σ313 (fun t45 σ324 =>
 (lock allocD prog σ324 39 fun t5 σ325 =>
 (lock storeD prog σ325 39 t5 t45 fun σ326 =>
 ((lock loadD prog σ326 57 t1 fun t46 =>
 ((env 61 [(.pv (.str [44]))] σ326 (fun t47 σ345 =>
 ((env 66 [t46, t47] σ345 (fun t48 σ346 =>
 (condD t48
 (lock loadD prog σ346 57 t1 fun t49 =>
 (env 71 [t49] σ346 (fun t50 σ347 =>
 (lock loadD prog σ347 57 t1 fun t51 =>
 (env 70 [t51, (.pv (.int .i64 1)), (.pv (.bool false))] σ347 (fun t52 σ348 =>
 (lock allocD prog σ348 39 fun t6 σ349 =>
 (lock storeD prog σ349 39 t6 t52 fun σ350 =>
 (callD env (.clo 63 [] [t1]) [] σ350 (fun t55 σ351 =>
 (lock extractD t55 0 fun t56 =>
 (lock extractD t55 1 fun t57 =>
 (lock allocD prog σ351 39 fun t7 σ352 =>
 (lock storeD prog σ352 39 t7 t56 fun σ353 =>
 (lock loadD prog σ353 39 t5 fun t58 =>
 (lock loadD prog σ353 39 t6 fun t59 =>
 (lock loadD prog σ353 39 t7 fun t60 =>
 (lock buildSliceD prog false σ353 35 3 3 [(0, t58), (1, t59), (2, t60)] fun t61 σ354 =>
 (env 68 [(.pv (.str [114, 97, 110, 103, 101])), (.pv (.str [])), t61] σ354 (fun t62 σ355 =>
 (lock storeD prog σ355 39 t2 t62 fun σ356 =>
 (lock loadD prog σ356 39 t2 fun r0 =>
 (retV (.tuple [r0, t57]) σ356 K)))) (panV X))))))))))) (panV X))))) (panV X)))) (panV X)))
 (callD env (.clo 63 [] [t1]) [] σ346 (fun t66 σ357 =>
 (lock extractD t66 0 fun t67 =>
 (lock extractD t66 1 fun t68 =>
 (lock allocD prog σ357 39 fun t9 σ358 =>
 (lock storeD prog σ358 39 t9 t67 fun σ359 =>
 (lock loadD prog σ359 39 t5 fun t69 =>
 (lock loadD prog σ359 39 t9 fun t70 =>
 (lock buildSliceD prog false σ359 35 2 2 [(0, t69), (1, t70)] fun t71 σ360 =>
 (env 68 [(.pv (.str [114, 117, 108, 101])), (.pv (.str [])), t71] σ360 (fun t72 σ361 =>
 (lock storeD prog σ361 39 t2 t72 fun σ362 =>
 (lock loadD prog σ362 39 t2 fun r0 =>
 (retV (.tuple [r0, t68]) σ362 K)))) (panV X)))))))))) (panV X)))) (panV X)) ∧ True)) (panV X)) ∧ True)) ∧ ((env 61 [(.pv (.str [44]))] σ326 (fun t47 σ327 =>
 ((lock loadD prog σ327 57 t1 fun t46 =>
 ((env 66 [t46, t47] σ327 (fun t48 σ328 =>
 (condD t48
 (lock loadD prog σ328 57 t1 fun t49 =>
 (env 71 [t49] σ328 (fun t50 σ329 =>
 (lock loadD prog σ329 57 t1 fun t51 =>
 (env 70 [t51, (.pv (.int .i64 1)), (.pv (.bool false))] σ329 (fun t52 σ330 =>
 (lock allocD prog σ330 39 fun t6 σ331 =>
 (lock storeD prog σ331 39 t6 t52 fun σ332 =>
 (callD env (.clo 63 [] [t1]) [] σ332 (fun t55 σ333 =>
 (lock extractD t55 0 fun t56 =>
 (lock extractD t55 1 fun t57 =>
 (lock allocD prog σ333 39 fun t7 σ334 =>
 (lock storeD prog σ334 39 t7 t56 fun σ335 =>
 (lock loadD prog σ335 39 t5 fun t58 =>
 (lock loadD prog σ335 39 t6 fun t59 =>
 (lock loadD prog σ335 39 t7 fun t60 =>
 (lock buildSliceD prog false σ335 35 3 3 [(0, t58), (1, t59), (2, t60)] fun t61 σ336 =>
 (env 68 [(.pv (.str [114, 97, 110, 103, 101])), (.pv (.str [])), t61] σ336 (fun t62 σ337 =>
 (lock storeD prog σ337 39 t2 t62 fun σ338 =>
 (lock loadD prog σ338 39 t2 fun r0 =>
 (retV (.tuple [r0, t57]) σ338 K)))) (panV X))))))))))) (panV X))))) (panV X)))) (panV X)))
 (callD env (.clo 63 [] [t1]) [] σ328 (fun t66 σ339 =>
 (lock extractD t66 0 fun t67 =>
 (lock extractD t66 1 fun t68 =>
 (lock allocD prog σ339 39 fun t9 σ340 =>
 (lock storeD prog σ340 39 t9 t67 fun σ341 =>
 (lock loadD prog σ341 39 t5 fun t69 =>
 (lock loadD prog σ341 39 t9 fun t70 =>
 (lock buildSliceD prog false σ341 35 2 2 [(0, t69), (1, t70)] fun t71 σ342 =>
 (env 68 [(.pv (.str [114, 117, 108, 101])), (.pv (.str [])), t71] σ342 (fun t72 σ343 =>
 (lock storeD prog σ343 39 t2 t72 fun σ344 =>
 (lock loadD prog σ344 39 t2 fun r0 =>
 (retV (.tuple [r0, t68]) σ344 K)))) (panV X)))))))))) (panV X)))) (panV X)) ∧ True)) ∧ True)) (panV X)) ∧ True))))) (panV X)))))) (panV X))) (panV X))))) (panV X)) ∧ True)) (panV X)) ∧ True)) ∧ ((env 67 [(.pv (.str [102, 117, 110, 99, 116, 105, 111, 110]))] σ248 (fun t30 σ253 =>
 ((lock loadD prog σ253 57 t1 fun t29 =>
 ((env 66 [t29, t30] σ253 (fun t31 σ254 =>
 (condD t31
 (lock loadD prog σ254 57 t1 fun t32 =>
 (env 69 [t32] σ254 (fun t33 σ255 =>
 (lock storeD prog σ255 39 t2 t33 fun σ256 =>
 (lock loadD prog σ256 39 t2 fun r0 =>
 (retV (.tuple [r0, (.pv (.bool false))]) σ256 K)))) (panV X)))
 (lock loadD prog σ254 57 t1 fun t35 =>
 (env 60 [t35, (.pv (.int .i64 0))] σ254 (fun t36 σ257 =>
 (env 61 [(.pv (.str [123]))] σ257 (fun t37 σ258 =>
 (lock binD prog .eql 52 t36 t37 fun t38 =>
 (condD t38
 ((env 65 [] σ258 (fun t39 σ264 =>
 ((lock loadD prog σ264 57 t1 fun t40 =>
 ((env 64 [t40] σ264 (fun t41 σ265 =>
 ((lock buildSliceD prog false σ265 35 2 2 [(0, t39), (1, t41)] fun t42 σ266 =>
 ((env 68 [(.pv (.str [114, 117, 108, 101])), (.pv (.str [])), t42] σ266 (fun t43 σ267 =>
 ((lock storeD prog σ267 39 t2 t43 fun σ268 =>
 (lock loadD prog σ268 39 t2 fun r0 =>
 (retV (.tuple [r0, (.pv (.bool false))]) σ268 K))) ∧ True)) (panV X)) ∧ True)) ∧ True)) (panV X)) ∧ True)) ∧ True)) (panV X)) ∧ ((lock loadD prog σ258 57 t1 fun t40 =>
 ((env 65 [] σ258 (fun t39 σ259 =>
 ((env 64 [t40] σ259 (fun t41 σ260 =>
 ((lock buildSliceD prog false σ260 35 2 2 [(0, t39), (1, t41)] fun t42 σ261 =>
 ((env 68 [(.pv (.str [114, 117, 108, 101])), (.pv (.str [])), t42] σ261 (fun t43 σ262 =>
 ((lock storeD prog σ262 39 t2 t43 fun σ263 =>
 (lock loadD prog σ263 39 t2 fun r0 =>
 (retV (.tuple [r0, (.pv (.bool false))]) σ263 K))) ∧ True)) (panV X)) ∧ True)) ∧ True)) (panV X)) ∧ True)) (panV X)) ∧ True)) ∧ True))
 (lock loadD prog σ258 57 t1 fun t44 =>
 (env 70 [t44, (.pv (.int .i64 1)), (.pv (.bool false))] σ258 (fun t45 σ269 =>
 (lock allocD prog σ269 39 fun t5 σ270 =>
 (lock storeD prog σ270 39 t5 t45 fun σ271 =>
 ((lock loadD prog σ271 57 t1 fun t46 =>
 ((env 61 [(.pv (.str [44]))] σ271 (fun t47 σ290 =>
 ((env 66 [t46, t47] σ290 (fun t48 σ291 =>
 (condD t48
 (lock loadD prog σ291 57 t1 fun t49 =>
 (env 71 [t49] σ291 (fun t50 σ292 =>
 (lock loadD prog σ292 57 t1 fun t51 =>
 (env 70 [t51, (.pv (.int .i64 1)), (.pv (.bool false))] σ292 (fun t52 σ293 =>
 (lock allocD prog σ293 39 fun t6 σ294 =>
 (lock storeD prog σ294 39 t6 t52 fun σ295 =>
 (callD env (.clo 63 [] [t1]) [] σ295 (fun t55 σ296 =>
 (lock extractD t55 0 fun t56 =>
 (lock extractD t55 1 fun t57 =>
 (lock allocD prog σ296 39 fun t7 σ297 =>
 (lock storeD prog σ297 39 t7 t56 fun σ298 =>
 (lock loadD prog σ298 39 t5 fun t58 =>
 (lock loadD prog σ298 39 t6 fun t59 =>
 (lock loadD prog σ298 39 t7 fun t60 =>
 (lock buildSliceD prog false σ298 35 3 3 [(0, t58), (1, t59), (2, t60)] fun t61 σ299 =>
 (env 68 [(.pv (.str [114, 97, 110, 103, 101])), (.pv (.str [])), t61] σ299 (fun t62 σ300 =>
 (lock storeD prog σ300 39 t2 t62 fun σ301 =>
 (lock loadD prog σ301 39 t2 fun r0 =>
 (retV (.tuple [r0, t57]) σ301 K)))) (panV X))))))))))) (panV X))))) (panV X)))) (panV X)))
 (callD env (.clo 63 [] [t1]) [] σ291 (fun t66 σ302 =>
 (lock extractD t66 0 fun t67 =>
 (lock extractD t66 1 fun t68 =>
 (lock allocD prog σ302 39 fun t9 σ303 =>
 (lock storeD prog σ303 39 t9 t67 fun σ304 =>
 (lock loadD prog σ304 39 t5 fun t69 =>
 (lock loadD prog σ304 39 t9 fun t70 =>
 (lock buildSliceD prog false σ304 35 2 2 [(0, t69), (1, t70)] fun t71 σ305 =>
 (env 68 [(.pv (.str [114, 117, 108, 101])), (.pv (.str [])), t71] σ305 (fun t72 σ306 =>
 (lock storeD prog σ306 39 t2 t72 fun σ307 =>
 (lock loadD prog σ307 39 t2 fun r0 =>
 (retV (.tuple [r0, t68]) σ307 K)))) (panV X)))))))))) (panV X)))) (panV X)) ∧ True)) (panV X)) ∧ True)) ∧ ((env 61 [(.pv (.str [44]))] σ271 (fun t47 σ272 =>
 ((lock loadD prog σ272 57 t1 fun t46 =>
 ((env 66 [t46, t47] σ272 (fun t48 σ273 =>
 (condD t48
 (lock loadD prog σ273 57 t1 fun t49 =>
 (env 71 [t49] σ273 (fun t50 σ274 =>
 (lock loadD prog σ274 57 t1 fun t51 =>
 (env 70 [t51, (.pv (.int .i64 1)), (.pv (.bool false))] σ274 (fun t52 σ275 =>
 (lock allocD prog σ275 39 fun t6 σ276 =>
 (lock storeD prog σ276 39 t6 t52 fun σ277 =>
 (callD env (.clo 63 [] [t1]) [] σ277 (fun t55 σ278 =>
 (lock extractD t55 0 fun t56 =>
 (lock extractD t55 1 fun t57 =>
 (lock allocD prog σ278 39 fun t7 σ279 =>
 (lock storeD prog σ279 39 t7 t56 fun σ280 =>
 (lock loadD prog σ280 39 t5 fun t58 =>
 (lock loadD prog σ280 39 t6 fun t59 =>
 (lock loadD prog σ280 39 t7 fun t60 =>
 (lock buildSliceD prog false σ280 35 3 3 [(0, t58), (1, t59), (2, t60)] fun t61 σ281 =>
 (env 68 [(.pv (.str [114, 97, 110, 103, 101])), (.pv (.str [])), t61] σ281 (fun t62 σ282 =>
 (lock storeD prog σ282 39 t2 t62 fun σ283 =>
 (lock loadD prog σ283 39 t2 fun r0 =>
 (retV (.tuple [r0, t57]) σ283 K)))) (panV X))))))))))) (panV X))))) (panV X)))) (panV X)))
 (callD env (.clo 63 [] [t1]) [] σ273 (fun t66 σ284 =>
 (lock extractD t66 0 fun t67 =>
 (lock extractD t66 1 fun t68 =>
 (lock allocD prog σ284 39 fun t9 σ285 =>
 (lock storeD prog σ285 39 t9 t67 fun σ286 =>
 (lock loadD prog σ286 39 t5 fun t69 =>
 (lock loadD prog σ286 39 t9 fun t70 =>
 (lock buildSliceD prog false σ286 35 2 2 [(0, t69), (1, t70)] fun t71 σ287 =>
 (env 68 [(.pv (.str [114, 117, 108, 101])), (.pv (.str [])), t71] σ287 (fun t72 σ288 =>
 (lock storeD prog σ288 39 t2 t72 fun σ289 =>
 (lock loadD prog σ289 39 t2 fun r0 =>
 (retV (.tuple [r0, t68]) σ289 K)))) (panV X)))))))))) (panV X)))) (panV X)) ∧ True)) ∧ True)) (panV X)) ∧ True))))) (panV X)))))) (panV X))) (panV X))))) (panV X)) ∧ True)) ∧ True)) (panV X)) ∧ True)))) (panV X)) ∧ True)) ∧ True)) (panV X)) ∧ True)))) (panV X)) ∧ True)) (panV X)) ∧ True)) ∧ ((env 67 [(.pv (.str [66, 69, 71, 73, 78]))] σ2 (fun t14 σ3 =>
 ((lock loadD prog σ3 57 t1 fun t13 =>
 ((env 66 [t13, t14] σ3 (fun t15 σ4 =>
 (condD t15
 (lock loadD prog σ4 57 t1 fun t16 =>
 (env 64 [t16] σ4 (fun t17 σ5 =>
 (lock buildSliceD prog false σ5 35 1 1 [(0, t17)] fun t18 σ6 =>
 (env 68 [(.pv (.str [66, 69, 71, 73, 78])), (.pv (.str [])), t18] σ6 (fun t19 σ7 =>
 (lock storeD prog σ7 39 t2 t19 fun σ8 =>
 (lock loadD prog σ8 39 t2 fun r0 =>
 (retV (.tuple [r0, (.pv (.bool false))]) σ8 K)))) (panV X)))) (panV X)))
 ((lock loadD prog σ4 57 t1 fun t21 =>
 ((env 67 [(.pv (.str [69, 78, 68]))] σ4 (fun t22 σ125 =>
 ((env 66 [t21, t22] σ125 (fun t23 σ126 =>
 (condD t23
 (lock loadD prog σ126 57 t1 fun t24 =>
 (env 64 [t24] σ126 (fun t25 σ127 =>
 (lock buildSliceD prog false σ127 35 1 1 [(0, t25)] fun t26 σ128 =>
 (env 68 [(.pv (.str [69, 78, 68])), (.pv (.str [])), t26] σ128 (fun t27 σ129 =>
 (lock storeD prog σ129 39 t2 t27 fun σ130 =>
 (lock loadD prog σ130 39 t2 fun r0 =>
 (retV (.tuple [r0, (.pv (.bool false))]) σ130 K)))) (panV X)))) (panV X)))
 ((lock loadD prog σ126 57 t1 fun t29 =>
 ((env 67 [(.pv (.str [102, 117, 110, 99, 116, 105, 111, 110]))] σ126 (fun t30 σ186 =>
 ((env 66 [t29, t30] σ186 (fun t31 σ187 =>
 (condD t31
 (lock loadD prog σ187 57 t1 fun t32 =>
 (env 69 [t32] σ187 (fun t33 σ188 =>
 (lock storeD prog σ188 39 t2 t33 fun σ189 =>
 (lock loadD prog σ189 39 t2 fun r0 =>
 (retV (.tuple [r0, (.pv (.bool false))]) σ189 K)))) (panV X)))
 (lock loadD prog σ187 57 t1 fun t35 =>
 (env 60 [t35, (.pv (.int .i64 0))] σ187 (fun t36 σ190 =>
 (env 61 [(.pv (.str [123]))] σ190 (fun t37 σ191 =>
 (lock binD prog .eql 52 t36 t37 fun t38 =>
 (condD t38
 ((env 65 [] σ191 (fun t39 σ197 =>
 ((lock loadD prog σ197 57 t1 fun t40 =>
 ((env 64 [t40] σ197 (fun t41 σ198 =>
 ((lock buildSliceD prog false σ198 35 2 2 [(0, t39), (1, t41)] fun t42 σ199 =>
 ((env 68 [(.pv (.str [114, 117, 108, 101])), (.pv (.str [])), t42] σ199 (fun t43 σ200 =>
 ((lock storeD prog σ200 39 t2 t43 fun σ201 =>
 (lock loadD prog σ201 39 t2 fun r0 =>
 (retV (.tuple [r0, (.pv (.bool false))]) σ201 K))) ∧ True)) (panV X)) ∧ True)) ∧ True)) (panV X)) ∧ True)) ∧ True)) (panV X)) ∧ ((lock loadD prog σ191 57 t1 fun t40 =>
 ((env 65 [] σ191 (fun t39 σ192 =>
 ((env 64 [t40] σ192 (fun t41 σ193 =>
 ((lock buildSliceD prog false σ193 35 2 2 [(0, t39), (1, t41)] fun t42 σ194 =>
 ((env 68 [(.pv (.str [114, 117, 108, 101])), (.pv (.str [])), t42] σ194 (fun t43 σ195 =>
 ((lock storeD prog σ195 39 t2 t43 fun σ196 =>
 (lock loadD prog σ196 39 t2 fun r0 =>
 (retV (.tuple [r0, (.pv (.bool false))]) σ196 K))) ∧ True)) (panV X)) ∧ True)) ∧ True)) (panV X)) ∧ True)) (panV X)) ∧ True)) ∧ True))
 (lock loadD prog σ191 57 t1 fun t44 =>
 (env 70 [t44, (.pv (.int .i64 1)), (.pv (.bool false))] σ191 (fun t45 σ202 =>
 (lock allocD prog σ202 39 fun t5 σ203 =>
 (lock storeD prog σ203 39 t5 t45 fun σ204 =>
 ((lock loadD prog σ204 57 t1 fun t46 =>
 ((env 61 [(.pv (.str [44]))] σ204 (fun t47 σ223 =>
 ((env 66 [t46, t47] σ223 (fun t48 σ224 =>
 (condD t48
 (lock loadD prog σ224 57 t1 fun t49 =>
 (env 71 [t49] σ224 (fun t50 σ225 =>
 (lock loadD prog σ225 57 t1 fun t51 =>
 (env 70 [t51, (.pv (.int .i64 1)), (.pv (.bool false))] σ225 (fun t52 σ226 =>
 (lock allocD prog σ226 39 fun t6 σ227 =>
 (lock storeD prog σ227 39 t6 t52 fun σ228 =>
 (callD env (.clo 63 [] [t1]) [] σ228 (fun t55 σ229 =>
 (lock extractD t55 0 fun t56 =>
 (lock extractD t55 1 fun t57 =>
 (lock allocD prog σ229 39 fun t7 σ230 =>
 (lock storeD prog σ230 39 t7 t56 fun σ231 =>
 (lock loadD prog σ231 39 t5 fun t58 =>
 (lock loadD prog σ231 39 t6 fun t59 =>
 (lock loadD prog σ231 39 t7 fun t60 =>
 (lock buildSliceD prog false σ231 35 3 3 [(0, t58), (1, t59), (2, t60)] fun t61 σ232 =>
 (env 68 [(.pv (.str [114, 97, 110, 103, 101])), (.pv (.str [])), t61] σ232 (fun t62 σ233 =>
 (lock storeD prog σ233 39 t2 t62 fun σ234 =>
 (lock loadD prog σ234 39 t2 fun r0 =>
 (retV (.tuple [r0, t57]) σ234 K)))) (panV X))))))))))) (panV X))))) (panV X)))) (panV X)))
 (callD env (.clo 63 [] [t1]) [] σ224 (fun t66 σ235 =>
 (lock extractD t66 0 fun t67 =>
 (lock extractD t66 1 fun t68 =>
 (lock allocD prog σ235 39 fun t9 σ236 =>
 (lock storeD prog σ236 39 t9 t67 fun σ237 =>
 (lock loadD prog σ237 39 t5 fun t69 =>
 (lock loadD prog σ237 39 t9 fun t70 =>
 (lock buildSliceD prog false σ237 35 2 2 [(0, t69), (1, t70)] fun t71 σ238 =>
 (env 68 [(.pv (.str [114, 117, 108, 101])), (.pv (.str [])), t71] σ238 (fun t72 σ239 =>
 (lock storeD prog σ239 39 t2 t72 fun σ240 =>
 (lock loadD prog σ240 39 t2 fun r0 =>
 (retV (.tuple [r0, t68]) σ240 K)))) (panV X)))))))))) (panV X)))) (panV X)) ∧ True)) (panV X)) ∧ True)) ∧ ((env 61 [(.pv (.str [44]))] σ204 (fun t47 σ205 =>
 ((lock loadD prog σ205 57 t1 fun t46 =>
 ((env 66 [t46, t47] σ205 (fun t48 σ206 =>
 (condD t48
 (lock loadD prog σ206 57 t1 fun t49 =>
 (env 71 [t49] σ206 (fun t50 σ207 =>
 (lock loadD prog σ207 57 t1 fun t51 =>
 (env 70 [t51, (.pv (.int .i64 1)), (.pv (.bool false))] σ207 (fun t52 σ208 =>
 (lock allocD prog σ208 39 fun t6 σ209 =>
 (lock storeD prog σ209 39 t6 t52 fun σ210 =>
 (callD env (.clo 63 [] [t1]) [] σ210 (fun t55 σ211 =>
 (lock extractD t55 0 fun t56 =>
 (lock extractD t55 1 fun t57 =>
 (lock allocD prog σ211 39 fun t7 σ212 =>
 (lock storeD prog σ212 39 t7 t56 fun σ213 =>
 (lock loadD prog σ213 39 t5 fun t58 =>
 (lock loadD prog σ213 39 t6 fun t59 =>
 (lock loadD prog σ213 39 t7 fun t60 =>
 (lock buildSliceD prog false σ213 35 3 3 [(0, t58), (1, t59), (2, t60)] fun t61 σ214 =>
 (env 68 [(.pv (.str [114, 97, 110, 103, 101])), (.pv (.str [])), t61] σ214 (fun t62 σ215 =>
 (lock storeD prog σ215 39 t2 t62 fun σ216 =>
 (lock loadD prog σ216 39 t2 fun r0 =>
 (retV (.tuple [r0, t57]) σ216 K)))) (panV X))))))))))) (panV X))))) (panV X)))) (panV X)))
 (callD env (.clo 63 [] [t1]) [] σ206 (fun t66 σ217 =>
 (lock extractD t66 0 fun t67 =>
 (lock extractD t66 1 fun t68 =>
 (lock allocD prog σ217 39 fun t9 σ218 =>
 (lock storeD prog σ218 39 t9 t67 fun σ219 =>
 (lock loadD prog σ219 39 t5 fun t69 =>
 (lock loadD prog σ219 39 t9 fun t70 =>
 (lock buildSliceD prog false σ219 35 2 2 [(0, t69), (1, t70)] fun t71 σ220 =>
 (env 68 [(.pv (.str [114, 117, 108, 101])), (.pv (.str [])), t71] σ220 (fun t72 σ221 =>
 (lock storeD prog σ221 39 t2 t72 fun σ222 =>
 (lock loadD prog σ222 39 t2 fun r0 =>
 (retV (.tuple [r0, t68]) σ222 K)))) (panV X)))))))))) (panV X)))) (panV X)) ∧ True)) ∧ True)) (panV X)) ∧ True))))) (panV X)))))) (panV X))) (panV X))))) (panV X)) ∧ True)) (panV X)) ∧ True)) ∧ ((env 67 [(.pv (.str [102, 117, 110, 99, 116, 105, 111, 110]))] σ126 (fun t30 σ131 =>
 ((lock loadD prog σ131 57 t1 fun t29 =>
 ((env 66 [t29, t30] σ131 (fun t31 σ132 =>
 (condD t31
 (lock loadD prog σ132 57 t1 fun t32 =>
 (env 69 [t32] σ132 (fun t33 σ133 =>
 (lock storeD prog σ133 39 t2 t33 fun σ134 =>
 (lock loadD prog σ134 39 t2 fun r0 =>
 (retV (.tuple [r0, (.pv (.bool false))]) σ134 K)))) (panV X)))
 (lock loadD prog σ132 57 t1 fun t35 =>
 (env 60 [t35, (.pv (.int .i64 0))] σ132 (fun t36 σ135 =>
 (env 61 [(.pv (.str [123]))] σ135 (fun t37 σ136 =>
 (lock binD prog .eql 52 t36 t37 fun t38 =>
 (condD t38
 ((env 65 [] σ136 (fun t39 σ142 =>
 ((lock loadD prog σ142 57 t1 fun t40 =>
 ((env 64 [t40] σ142 (fun t41 σ143 =>
 ((lock buildSliceD prog false σ143 35 2 2 [(0, t39), (1, t41)] fun t42 σ144 =>
 ((env 68 [(.pv (.str [114, 117, 108, 101])), (.pv (.str [])), t42] σ144 (fun t43 σ145 =>
 ((lock storeD prog σ145 39 t2 t43 fun σ146 =>
 (lock loadD prog σ146 39 t2 fun r0 =>
 (retV (.tuple [r0, (.pv (.bool false))]) σ146 K))) ∧ True)) (panV X)) ∧ True)) ∧ True)) (panV X)) ∧ True)) ∧ True)) (panV X)) ∧ ((lock loadD prog σ136 57 t1 fun t40 =>
 ((env 65 [] σ136 (fun t39 σ137 =>
 ((env 64 [t40] σ137 (fun t41 σ138 =>
 ((lock buildSliceD prog false σ138 35 2 2 [(0, t39), (1, t41)] fun t42 σ139 =>
 ((env 68 [(.pv (.str [114, 117, 108, 101])), (.pv (.str [])), t42] σ139 (fun t43 σ140 =>
 ((lock storeD prog σ140 39 t2 t43 fun σ141 =>
 (lock loadD prog σ141 39 t2 fun r0 =>
 (retV (.tuple [r0, (.pv (.bool false))]) σ141 K))) ∧ True)) (panV X)) ∧ True)) ∧ True)) (panV X)) ∧ True)) (panV X)) ∧ True)) ∧ True))
 (lock loadD prog σ136 57 t1 fun t44 =>
 (env 70 [t44, (.pv (.int .i64 1)), (.pv (.bool false))] σ136 (fun t45 σ147 =>
 (lock allocD prog σ147 39 fun t5 σ148 =>
 (lock storeD prog σ148 39 t5 t45 fun σ149 =>
 ((lock loadD prog σ149 57 t1 fun t46 =>
 ((env 61 [(.pv (.str [44]))] σ149 (fun t47 σ168 =>
 ((env 66 [t46, t47] σ168 (fun t48 σ169 =>
 (condD t48
 (lock loadD prog σ169 57 t1 fun t49 =>
 (env 71 [t49] σ169 (fun t50 σ170 =>
 (lock loadD prog σ170 57 t1 fun t51 =>
 (env 70 [t51, (.pv (.int .i64 1)), (.pv (.bool false))] σ170 (fun t52 σ171 =>
 (lock allocD prog σ171 39 fun t6 σ172 =>
 (lock storeD prog σ172 39 t6 t52 fun σ173 =>
 (callD env (.clo 63 [] [t1]) [] σ173 (fun t55 σ174 =>
 (lock extractD t55 0 fun t56 =>
 (lock extractD t55 1 fun t57 =>
 (lock allocD prog σ174 39 fun t7 σ175 =>
 (lock storeD prog σ175 39 t7 t56 fun σ176 =>
 (lock loadD prog σ176 39 t5 fun t58 =>
 (lock loadD prog σ176 39 t6 fun t59 =>
 (lock loadD prog σ176 39 t7 fun t60 =>
 (lock buildSliceD prog false σ176 35 3 3 [(0, t58), (1, t59), (2, t60)] fun t61 σ177 =>
 (env 68 [(.pv (.str [114, 97, 110, 103, 101])), (.pv (.str [])), t61] σ177 (fun t62 σ178 =>
 (lock storeD prog σ178 39 t2 t62 fun σ179 =>
 (lock loadD prog σ179 39 t2 fun r0 =>
 (retV (.tuple [r0, t57]) σ179 K)))) (panV X))))))))))) (panV X))))) (panV X)))) (panV X)))
 (callD env (.clo 63 [] [t1]) [] σ169 (fun t66 σ180 =>
 (lock extractD t66 0 fun t67 =>
 (lock extractD t66 1 fun t68 =>
 (lock allocD prog σ180 39 fun t9 σ181 =>
 (lock storeD prog σ181 39 t9 t67 fun σ182 =>
 (lock loadD prog σ182 39 t5 fun t69 =>
 (lock loadD prog σ182 39 t9 fun t70 =>
 (lock buildSliceD prog false σ182 35 2 2 [(0, t69), (1, t70)] fun t71 σ183 =>
 (env 68 [(.pv (.str [114, 117, 108, 101])), (.pv (.str [])), t71] σ183 (fun t72 σ184 =>
 (lock storeD prog σ184 39 t2 t72 fun σ185 =>
 (lock loadD prog σ185 39 t2 fun r0 =>
 (retV (.tuple [r0, t68]) σ185 K)))) (panV X)))))))))) (panV X)))) (panV X)) ∧ True)) (panV X)) ∧ True)) ∧ ((env 61 [(.pv (.str [44]))] σ149 (fun t47 σ150 =>
 ((lock loadD prog σ150 57 t1 fun t46 =>
 ((env 66 [t46, t47] σ150 (fun t48 σ151 =>
 (condD t48
 (lock loadD prog σ151 57 t1 fun t49 =>
 (env 71 [t49] σ151 (fun t50 σ152 =>
 (lock loadD prog σ152 57 t1 fun t51 =>
 (env 70 [t51, (.pv (.int .i64 1)), (.pv (.bool false))] σ152 (fun t52 σ153 =>
 (lock allocD prog σ153 39 fun t6 σ154 =>
 (lock storeD prog σ154 39 t6 t52 fun σ155 =>
 (callD env (.clo 63 [] [t1]) [] σ155 (fun t55 σ156 =>
 (lock extractD t55 0 fun t56 =>
 (lock extractD t55 1 fun t57 =>
 (lock allocD prog σ156 39 fun t7 σ157 =>
 (lock storeD prog σ157 39 t7 t56 fun σ158 =>
 (lock loadD prog σ158 39 t5 fun t58 =>
 (lock loadD prog σ158 39 t6 fun t59 =>
 (lock loadD prog σ158 39 t7 fun t60 =>
 (lock buildSliceD prog false σ158 35 3 3 [(0, t58), (1, t59), (2, t60)] fun t61 σ159 =>
 (env 68 [(.pv (.str [114, 97, 110, 103, 101])), (.pv (.str [])), t61] σ159 (fun t62 σ160 =>
 (lock storeD prog σ160 39 t2 t62 fun σ161 =>
 (lock loadD prog σ161 39 t2 fun r0 =>
 (retV (.tuple [r0, t57]) σ161 K)))) (panV X))))))))))) (panV X))))) (panV X)))) (panV X)))
 (callD env (.clo 63 [] [t1]) [] σ151 (fun t66 σ162 =>
 (lock extractD t66 0 fun t67 =>
 (lock extractD t66 1 fun t68 =>
 (lock allocD prog σ162 39 fun t9 σ163 =>
 (lock storeD prog σ163 39 t9 t67 fun σ164 =>
 (lock loadD prog σ164 39 t5 fun t69 =>
 (lock loadD prog σ164 39 t9 fun t70 =>
 (lock buildSliceD prog false σ164 35 2 2 [(0, t69), (1, t70)] fun t71 σ165 =>
 (env 68 [(.pv (.str [114, 117, 108, 101])), (.pv (.str [])), t71] σ165 (fun t72 σ166 =>
 (lock storeD prog σ166 39 t2 t72 fun σ167 =>
 (lock loadD prog σ167 39 t2 fun r0 =>
 (retV (.tuple [r0, t68]) σ167 K)))) (panV X)))))))))) (panV X)))) (panV X)) ∧ True)) ∧ True)) (panV X)) ∧ True))))) (panV X)))))) (panV X))) (panV X))))) (panV X)) ∧ True)) ∧ True)) (panV X)) ∧ True)))) (panV X)) ∧ True)) (panV X)) ∧ True)) ∧ ((env 67 [(.pv (.str [69, 78, 68]))] σ4 (fun t22 σ9 =>
 ((lock loadD prog σ9 57 t1 fun t21 =>
 ((env 66 [t21, t22] σ9 (fun t23 σ10 =>
 (condD t23
 (lock loadD prog σ10 57 t1 fun t24 =>
 (env 64 [t24] σ10 (fun t25 σ11 =>
 (lock buildSliceD prog false σ11 35 1 1 [(0, t25)] fun t26 σ12 =>
 (env 68 [(.pv (.str [69, 78, 68])), (.pv (.str [])), t26] σ12 (fun t27 σ13 =>
 (lock storeD prog σ13 39 t2 t27 fun σ14 =>
 (lock loadD prog σ14 39 t2 fun r0 =>
 (retV (.tuple [r0, (.pv (.bool false))]) σ14 K)))) (panV X)))) (panV X)))
 ((lock loadD prog σ10 57 t1 fun t29 =>
 ((env 67 [(.pv (.str [102, 117, 110, 99, 116, 105, 111, 110]))] σ10 (fun t30 σ70 =>
 ((env 66 [t29, t30] σ70 (fun t31 σ71 =>
 (condD t31
 (lock loadD prog σ71 57 t1 fun t32 =>
 (env 69 [t32] σ71 (fun t33 σ72 =>
 (lock storeD prog σ72 39 t2 t33 fun σ73 =>
 (lock loadD prog σ73 39 t2 fun r0 =>
 (retV (.tuple [r0, (.pv (.bool false))]) σ73 K)))) (panV X)))
 (lock loadD prog σ71 57 t1 fun t35 =>
 (env 60 [t35, (.pv (.int .i64 0))] σ71 (fun t36 σ74 =>
 (env 61 [(.pv (.str [123]))] σ74 (fun t37 σ75 =>
 (lock binD prog .eql 52 t36 t37 fun t38 =>
 (condD t38
 ((env 65 [] σ75 (fun t39 σ81 =>
 ((lock loadD prog σ81 57 t1 fun t40 =>
 ((env 64 [t40] σ81 (fun t41 σ82 =>
 ((lock buildSliceD prog false σ82 35 2 2 [(0, t39), (1, t41)] fun t42 σ83 =>
 ((env 68 [(.pv (.str [114, 117, 108, 101])), (.pv (.str [])), t42] σ83 (fun t43 σ84 =>
 ((lock storeD prog σ84 39 t2 t43 fun σ85 =>
 (lock loadD prog σ85 39 t2 fun r0 =>
 (retV (.tuple [r0, (.pv (.bool false))]) σ85 K))) ∧ True)) (panV X)) ∧ True)) ∧ True)) (panV X)) ∧ True)) ∧ True)) (panV X)) ∧ ((lock loadD prog σ75 57 t1 fun t40 =>
 ((env 65 [] σ75 (fun t39 σ76 =>
 ((env 64 [t40] σ76 (fun t41 σ77 =>
 ((lock buildSliceD prog false σ77 35 2 2 [(0, t39), (1, t41)] fun t42 σ78 =>
 ((env 68 [(.pv (.str [114, 117, 108, 101])), (.pv (.str [])), t42] σ78 (fun t43 σ79 =>
 ((lock storeD prog σ79 39 t2 t43 fun σ80 =>
 (lock loadD prog σ80 39 t2 fun r0 =>
 (retV (.tuple [r0, (.pv (.bool false))]) σ80 K))) ∧ True)) (panV X)) ∧ True)) ∧ True)) (panV X)) ∧ True)) (panV X)) ∧ True)) ∧ True))
 (lock loadD prog σ75 57 t1 fun t44 =>
 (env 70 [t44, (.pv (.int .i64 1)), (.pv (.bool false))] σ75 (fun t45 σ86 =>
 (lock allocD prog σ86 39 fun t5 σ87 =>
 (lock storeD prog σ87 39 t5 t45 fun σ88 =>
 ((lock loadD prog σ88 57 t1 fun t46 =>
 ((env 61 [(.pv (.str [44]))] σ88 (fun t47 σ107 =>
 ((env 66 [t46, t47] σ107 (fun t48 σ108 =>
 (condD t48
 (lock loadD prog σ108 57 t1 fun t49 =>
 (env 71 [t49] σ108 (fun t50 σ109 =>
 (lock loadD prog σ109 57 t1 fun t51 =>
 (env 70 [t51, (.pv (.int .i64 1)), (.pv (.bool false))] σ109 (fun t52 σ110 =>
 (lock allocD prog σ110 39 fun t6 σ111 =>
 (lock storeD prog σ111 39 t6 t52 fun σ112 =>
 (callD env (.clo 63 [] [t1]) [] σ112 (fun t55 σ113 =>
 (lock extractD t55 0 fun t56 =>
 (lock extractD t55 1 fun t57 =>
 (lock allocD prog σ113 39 fun t7 σ114 =>
 (lock storeD prog σ114 39 t7 t56 fun σ115 =>
 (lock loadD prog σ115 39 t5 fun t58 =>
 (lock loadD prog σ115 39 t6 fun t59 =>
 (lock loadD prog σ115 39 t7 fun t60 =>
 (lock buildSliceD prog false σ115 35 3 3 [(0, t58), (1, t59), (2, t60)] fun t61 σ116 =>
 (env 68 [(.pv (.str [114, 97, 110, 103, 101])), (.pv (.str [])), t61] σ116 (fun t62 σ117 =>
 (lock storeD prog σ117 39 t2 t62 fun σ118 =>
 (lock loadD prog σ118 39 t2 fun r0 =>
 (retV (.tuple [r0, t57]) σ118 K)))) (panV X))))))))))) (panV X))))) (panV X)))) (panV X)))
 (callD env (.clo 63 [] [t1]) [] σ108 (fun t66 σ119 =>
 (lock extractD t66 0 fun t67 =>
 (lock extractD t66 1 fun t68 =>
 (lock allocD prog σ119 39 fun t9 σ120 =>
 (lock storeD prog σ120 39 t9 t67 fun σ121 =>
 (lock loadD prog σ121 39 t5 fun t69 =>
 (lock loadD prog σ121 39 t9 fun t70 =>
 (lock buildSliceD prog false σ121 35 2 2 [(0, t69), (1, t70)] fun t71 σ122 =>
 (env 68 [(.pv (.str [114, 117, 108, 101])), (.pv (.str [])), t71] σ122 (fun t72 σ123 =>
 (lock storeD prog σ123 39 t2 t72 fun σ124 =>
 (lock loadD prog σ124 39 t2 fun r0 =>
 (retV (.tuple [r0, t68]) σ124 K)))) (panV X)))))))))) (panV X)))) (panV X)) ∧ True)) (panV X)) ∧ True)) ∧ ((env 61 [(.pv (.str [44]))] σ88 (fun t47 σ89 =>
 ((lock loadD prog σ89 57 t1 fun t46 =>
 ((env 66 [t46, t47] σ89 (fun t48 σ90 =>
 (condD t48
 (lock loadD prog σ90 57 t1 fun t49 =>
 (env 71 [t49] σ90 (fun t50 σ91 =>
 (lock loadD prog σ91 57 t1 fun t51 =>
 (env 70 [t51, (.pv (.int .i64 1)), (.pv (.bool false))] σ91 (fun t52 σ92 =>
 (lock allocD prog σ92 39 fun t6 σ93 =>
 (lock storeD prog σ93 39 t6 t52 fun σ94 =>
 (callD env (.clo 63 [] [t1]) [] σ94 (fun t55 σ95 =>
 (lock extractD t55 0 fun t56 =>
 (lock extractD t55 1 fun t57 =>
 (lock allocD prog σ95 39 fun t7 σ96 =>
 (lock storeD prog σ96 39 t7 t56 fun σ97 =>
 (lock loadD prog σ97 39 t5 fun t58 =>
 (lock loadD prog σ97 39 t6 fun t59 =>
 (lock loadD prog σ97 39 t7 fun t60 =>
 (lock buildSliceD prog false σ97 35 3 3 [(0, t58), (1, t59), (2, t60)] fun t61 σ98 =>
 (env 68 [(.pv (.str [114, 97, 110, 103, 101])), (.pv (.str [])), t61] σ98 (fun t62 σ99 =>
 (lock storeD prog σ99 39 t2 t62 fun σ100 =>
 (lock loadD prog σ100 39 t2 fun r0 =>
 (retV (.tuple [r0, t57]) σ100 K)))) (panV X))))))))))) (panV X))))) (panV X)))) (panV X)))
 (callD env (.clo 63 [] [t1]) [] σ90 (fun t66 σ101 =>
 (lock extractD t66 0 fun t67 =>
 (lock extractD t66 1 fun t68 =>
 (lock allocD prog σ101 39 fun t9 σ102 =>
 (lock storeD prog σ102 39 t9 t67 fun σ103 =>
 (lock loadD prog σ103 39 t5 fun t69 =>
 (lock loadD prog σ103 39 t9 fun t70 =>
 (lock buildSliceD prog false σ103 35 2 2 [(0, t69), (1, t70)] fun t71 σ104 =>
 (env 68 [(.pv (.str [114, 117, 108, 101])), (.pv (.str [])), t71] σ104 (fun t72 σ105 =>
 (lock storeD prog σ105 39 t2 t72 fun σ106 =>
 (lock loadD prog σ106 39 t2 fun r0 =>
 (retV (.tuple [r0, t68]) σ106 K)))) (panV X)))))))))) (panV X)))) (panV X)) ∧ True)) ∧ True)) (panV X)) ∧ True))))) (panV X)))))) (panV X))) (panV X))))) (panV X)) ∧ True)) (panV X)) ∧ True)) ∧ ((env 67 [(.pv (.str [102, 117, 110, 99, 116, 105, 111, 110]))] σ10 (fun t30 σ15 =>
 ((lock loadD prog σ15 57 t1 fun t29 =>
 ((env 66 [t29, t30] σ15 (fun t31 σ16 =>
 (condD t31
 (lock loadD prog σ16 57 t1 fun t32 =>
 (env 69 [t32] σ16 (fun t33 σ17 =>
 (lock storeD prog σ17 39 t2 t33 fun σ18 =>
 (lock loadD prog σ18 39 t2 fun r0 =>
 (retV (.tuple [r0, (.pv (.bool false))]) σ18 K)))) (panV X)))
 (lock loadD prog σ16 57 t1 fun t35 =>
 (env 60 [t35, (.pv (.int .i64 0))] σ16 (fun t36 σ19 =>
 (env 61 [(.pv (.str [123]))] σ19 (fun t37 σ20 =>
 (lock binD prog .eql 52 t36 t37 fun t38 =>
 (condD t38
 ((env 65 [] σ20 (fun t39 σ26 =>
 ((lock loadD prog σ26 57 t1 fun t40 =>
 ((env 64 [t40] σ26 (fun t41 σ27 =>
 ((lock buildSliceD prog false σ27 35 2 2 [(0, t39), (1, t41)] fun t42 σ28 =>
 ((env 68 [(.pv (.str [114, 117, 108, 101])), (.pv (.str [])), t42] σ28 (fun t43 σ29 =>
 ((lock storeD prog σ29 39 t2 t43 fun σ30 =>
 (lock loadD prog σ30 39 t2 fun r0 =>
 (retV (.tuple [r0, (.pv (.bool false))]) σ30 K))) ∧ True)) (panV X)) ∧ True)) ∧ True)) (panV X)) ∧ True)) ∧ True)) (panV X)) ∧ ((lock loadD prog σ20 57 t1 fun t40 =>
 ((env 65 [] σ20 (fun t39 σ21 =>
 ((env 64 [t40] σ21 (fun t41 σ22 =>
 ((lock buildSliceD prog false σ22 35 2 2 [(0, t39), (1, t41)] fun t42 σ23 =>
 ((env 68 [(.pv (.str [114, 117, 108, 101])), (.pv (.str [])), t42] σ23 (fun t43 σ24 =>
 ((lock storeD prog σ24 39 t2 t43 fun σ25 =>
 (lock loadD prog σ25 39 t2 fun r0 =>
 (retV (.tuple [r0, (.pv (.bool false))]) σ25 K))) ∧ True)) (panV X)) ∧ True)) ∧ True)) (panV X)) ∧ True)) (panV X)) ∧ True)) ∧ True))
 (lock loadD prog σ20 57 t1 fun t44 =>
 (env 70 [t44, (.pv (.int .i64 1)), (.pv (.bool false))] σ20 (fun t45 σ31 =>
 (lock allocD prog σ31 39 fun t5 σ32 =>
 (lock storeD prog σ32 39 t5 t45 fun σ33 =>
 ((lock loadD prog σ33 57 t1 fun t46 =>
 ((env 61 [(.pv (.str [44]))] σ33 (fun t47 σ52 =>
 ((env 66 [t46, t47] σ52 (fun t48 σ53 =>
 (condD t48
 (lock loadD prog σ53 57 t1 fun t49 =>
 (env 71 [t49] σ53 (fun t50 σ54 =>
 (lock loadD prog σ54 57 t1 fun t51 =>
 (env 70 [t51, (.pv (.int .i64 1)), (.pv (.bool false))] σ54 (fun t52 σ55 =>
 (lock allocD prog σ55 39 fun t6 σ56 =>
 (lock storeD prog σ56 39 t6 t52 fun σ57 =>
 (callD env (.clo 63 [] [t1]) [] σ57 (fun t55 σ58 =>
 (lock extractD t55 0 fun t56 =>
 (lock extractD t55 1 fun t57 =>
 (lock allocD prog σ58 39 fun t7 σ59 =>
 (lock storeD prog σ59 39 t7 t56 fun σ60 =>
 (lock loadD prog σ60 39 t5 fun t58 =>
 (lock loadD prog σ60 39 t6 fun t59 =>
 (lock loadD prog σ60 39 t7 fun t60 =>
 (lock buildSliceD prog false σ60 35 3 3 [(0, t58), (1, t59), (2, t60)] fun t61 σ61 =>
 (env 68 [(.pv (.str [114, 97, 110, 103, 101])), (.pv (.str [])), t61] σ61 (fun t62 σ62 =>
 (lock storeD prog σ62 39 t2 t62 fun σ63 =>
 (lock loadD prog σ63 39 t2 fun r0 =>
 (retV (.tuple [r0, t57]) σ63 K)))) (panV X))))))))))) (panV X))))) (panV X)))) (panV X)))
 (callD env (.clo 63 [] [t1]) [] σ53 (fun t66 σ64 =>
 (lock extractD t66 0 fun t67 =>
 (lock extractD t66 1 fun t68 =>
 (lock allocD prog σ64 39 fun t9 σ65 =>
 (lock storeD prog σ65 39 t9 t67 fun σ66 =>
 (lock loadD prog σ66 39 t5 fun t69 =>
 (lock loadD prog σ66 39 t9 fun t70 =>
 (lock buildSliceD prog false σ66 35 2 2 [(0, t69), (1, t70)] fun t71 σ67 =>
 (env 68 [(.pv (.str [114, 117, 108, 101])), (.pv (.str [])), t71] σ67 (fun t72 σ68 =>
 (lock storeD prog σ68 39 t2 t72 fun σ69 =>
 (lock loadD prog σ69 39 t2 fun r0 =>
 (retV (.tuple [r0, t68]) σ69 K)))) (panV X)))))))))) (panV X)))) (panV X)) ∧ True)) (panV X)) ∧ True)) ∧ ((env 61 [(.pv (.str [44]))] σ33 (fun t47 σ34 =>
 ((lock loadD prog σ34 57 t1 fun t46 =>
 ((env 66 [t46, t47] σ34 (fun t48 σ35 =>
 (condD t48
 (lock loadD prog σ35 57 t1 fun t49 =>
 (env 71 [t49] σ35 (fun t50 σ36 =>
 (lock loadD prog σ36 57 t1 fun t51 =>
 (env 70 [t51, (.pv (.int .i64 1)), (.pv (.bool false))] σ36 (fun t52 σ37 =>
 (lock allocD prog σ37 39 fun t6 σ38 =>
 (lock storeD prog σ38 39 t6 t52 fun σ39 =>
 (callD env (.clo 63 [] [t1]) [] σ39 (fun t55 σ40 =>
 (lock extractD t55 0 fun t56 =>
 (lock extractD t55 1 fun t57 =>
 (lock allocD prog σ40 39 fun t7 σ41 =>
 (lock storeD prog σ41 39 t7 t56 fun σ42 =>
 (lock loadD prog σ42 39 t5 fun t58 =>
 (lock loadD prog σ42 39 t6 fun t59 =>
 (lock loadD prog σ42 39 t7 fun t60 =>
 (lock buildSliceD prog false σ42 35 3 3 [(0, t58), (1, t59), (2, t60)] fun t61 σ43 =>
 (env 68 [(.pv (.str [114, 97, 110, 103, 101])), (.pv (.str [])), t61] σ43 (fun t62 σ44 =>
 (lock storeD prog σ44 39 t2 t62 fun σ45 =>
 (lock loadD prog σ45 39 t2 fun r0 =>
 (retV (.tuple [r0, t57]) σ45 K)))) (panV X))))))))))) (panV X))))) (panV X)))) (panV X)))
 (callD env (.clo 63 [] [t1]) [] σ35 (fun t66 σ46 =>
 (lock extractD t66 0 fun t67 =>
 (lock extractD t66 1 fun t68 =>
 (lock allocD prog σ46 39 fun t9 σ47 =>
 (lock storeD prog σ47 39 t9 t67 fun σ48 =>
 (lock loadD prog σ48 39 t5 fun t69 =>
 (lock loadD prog σ48 39 t9 fun t70 =>
 (lock buildSliceD prog false σ48 35 2 2 [(0, t69), (1, t70)] fun t71 σ49 =>
 (env 68 [(.pv (.str [114, 117, 108, 101])), (.pv (.str [])), t71] σ49 (fun t72 σ50 =>
 (lock storeD prog σ50 39 t2 t72 fun σ51 =>
 (lock loadD prog σ51 39 t2 fun r0 =>
 (retV (.tuple [r0, t68]) σ51 K)))) (panV X)))))))))) (panV X)))) (panV X)) ∧ True)) ∧ True)) (panV X)) ∧ True))))) (panV X)))))) (panV X))) (panV X))))) (panV X)) ∧ True)) ∧ True)) (panV X)) ∧ True)))) (panV X)) ∧ True)) ∧ True)) (panV X)) ∧ True)))) (panV X)) ∧ True)) ∧ True)) (panV X)) ∧ True))))
theorem S33_eq (env : Env) (p0_a : AV) (σ : AS) (K : AV → AS → Prop) (X : PV → AS → Prop) : S33 env p0_a σ K X = bodyD prog env an33 f33 [p0_a] σ K X := by
  unfold S33
  kernel_rfl
theorem S33_ok : (match f33.body with | some c => okCode an33 prog f33.ntmps c | none => false) = true := by kernel_rfl
/-! ### (*tedder/syntax.parser).item$1 (function 63) -/
def an63 : An := { mu := [], cut := [], loop := [] }
def S63 (env : Env) (t0_a : AV) (σ : AS) (K : AV → AS → Prop) (X : PV → AS → Prop) : Prop :=
 (lock allocD prog σ 39 fun t1 σ1 =>
 (lock loadD prog σ1 57 t0_a fun t3 =>
 (env 60 [t3, (.pv (.int .i64 0))] σ1 (fun t4 σ2 =>
 (env 61 [(.pv (.str [123]))] σ2 (fun t5 σ3 =>
 (lock binD prog .eql 52 t4 t5 fun t6 =>
 (condD t6
 (lock loadD prog σ3 57 t0_a fun t7 =>
 (env 64 [t7] σ3 (fun t8 σ4 =>
 (lock storeD prog σ4 39 t1 t8 fun σ5 =>
 (lock loadD prog σ5 39 t1 fun r0 =>
 (retV (.tuple [r0, (.pv (.bool false))]) σ5 K)))) (panV X)))
 (env 65 [] σ3 (fun t9 σ6 =>
 (lock storeD prog σ6 39 t1 t9 fun σ7 =>
 (lock loadD prog σ7 39 t1 fun r0 =>
 (retV (.tuple [r0, (.pv (.bool true))]) σ7 K)))) (panV X))))) (panV X))) (panV X))))
theorem S63_eq (env : Env) (t0_a : AV) (σ : AS) (K : AV → AS → Prop) (X : PV → AS → Prop) : S63 env t0_a σ K X = bodyD prog env an63 f63 [t0_a] σ K X := by
  unfold S63
  kernel_rfl
theorem S63_ok : (match f63.body with | some c => okCode an63 prog f63.ntmps c | none => false) = true := by kernel_rfl
end Go.AD
