/- Bodies in the calculus' own words. Printed by gen.py, a program of this claim's own. -/
import Derived.Test.YtcaidbmopehjhaaTy
set_option linter.unusedVariables false
set_option maxRecDepth 100000
namespace Go.AD
/-! ### tedder/chunk.Cut (function 15) -/
def an15 : An := { mu := [36], cut := [(3, [0, 1])], loop := [(5, [0, 1, 5, 20, 21, 22]), (14, [0, 1, 5, 8, 9, 10, 38, 39]), (17, [0, 1, 5, 8, 9, 10, 11, 12, 38, 39])] }
def L15_17 (env : Env) (I14 : Nat → List AV → AS → Prop) (m14 : Nat) (I17 : Nat → List AV → AS → Prop) (m17 : Nat) (counts0_l17 k1_l17 n5_l17 out8_l17 file9_l17 used10_l17 i11_l17 want12_l17 t38_l17 t39_l17 : AV) (σ : AS) (K : AV → AS → Prop) (X : PV → AS → Prop) : Prop :=
 (binD Go.Proofs.Try.prog .gtr 3 want12_l17 (.pv (.int .i64 0)) fun t55 =>
 (condD t55
 (indexAddrD Go.Proofs.Try.prog 22 counts0_l17 file9_l17 fun t59 =>
 (loadD Go.Proofs.Try.prog σ 3 t59 fun t60 =>
 (foldD max2D t60 [(.pv (.int .i64 0))] fun t61 =>
 (binD Go.Proofs.Try.prog .geq 3 used10_l17 t61 fun t62 =>
 (condD t62
 (binD Go.Proofs.Try.prog .add 3 file9_l17 (.pv (.int .i64 1)) fun t64 =>
 (∃ m', m' < m17 ∧ I17 m' [counts0_l17, k1_l17, n5_l17, out8_l17, t64, (.pv (.int .i64 0)), i11_l17, want12_l17, t38_l17, t39_l17] σ))
 (indexAddrD Go.Proofs.Try.prog 22 counts0_l17 file9_l17 fun t68 =>
 (loadD Go.Proofs.Try.prog σ 3 t68 fun t69 =>
 (binD Go.Proofs.Try.prog .sub 3 t69 used10_l17 fun t71 =>
 (foldD min2D want12_l17 [t71] fun t72 =>
 (indexAddrD Go.Proofs.Try.prog 24 out8_l17 i11_l17 fun t77 =>
 (loadD Go.Proofs.Try.prog σ 26 t77 fun t78 =>
 (binD Go.Proofs.Try.prog .add 3 used10_l17 t72 fun t83 =>
 (buildD Go.Proofs.Try.prog 28 [(0, file9_l17), (1, used10_l17), (2, t83)] fun t84 =>
 (buildSliceD Go.Proofs.Try.prog false σ 26 1 1 [(0, t84)] fun t85 σ5 =>
 (SameT 26 26 ∧ (appendD Go.Proofs.Try.prog false σ5 26 t78 t85 fun t86 σ6 =>
 (indexAddrD Go.Proofs.Try.prog 24 out8_l17 i11_l17 fun t87 =>
 (storeD Go.Proofs.Try.prog σ6 26 t87 t86 fun σ7 =>
 (binD Go.Proofs.Try.prog .add 3 used10_l17 t72 fun t90 =>
 (binD Go.Proofs.Try.prog .sub 3 want12_l17 t72 fun t93 =>
 (∃ m', m' < m17 ∧ I17 m' [counts0_l17, k1_l17, n5_l17, out8_l17, file9_l17, t90, i11_l17, t93, t38_l17, t39_l17] σ7)))))))))))))))))))))
 (binD Go.Proofs.Try.prog .add 3 t39_l17 (.pv (.int .i64 1)) fun t94 =>
 (∃ m', m' < m14 ∧ I14 m' [counts0_l17, k1_l17, n5_l17, out8_l17, file9_l17, used10_l17, t38_l17, t94] σ))))
theorem L15_17_eq (env : Env) (I14 : Nat → List AV → AS → Prop) (m14 : Nat) (I17 : Nat → List AV → AS → Prop) (m17 : Nat) (counts0_l17 k1_l17 n5_l17 out8_l17 file9_l17 used10_l17 i11_l17 want12_l17 t38_l17 t39_l17 : AV) (σ : AS) (K : AV → AS → Prop) (X : PV → AS → Prop) : L15_17 env I14 m14 I17 m17 counts0_l17 k1_l17 n5_l17 out8_l17 file9_l17 used10_l17 i11_l17 want12_l17 t38_l17 t39_l17 σ K X = wpD Go.Proofs.Try.prog env an15 (subC (bodyC Go.Proofs.Try.f15) [1, 1, 1, 1, 1, 1, 0, 1, 0, 0, 1, 1, 0, 0, 1, 1, 0, 0]) (contQ Go.Proofs.Try.prog env an15 (bodyC Go.Proofs.Try.f15) [1, 1, 1, 1, 1, 1, 0, 1, 0, 0, 1, 1, 0, 0, 1, 1, 0, 0] [(I14, m14), (I17, m17)] (rootQ Go.Proofs.Try.prog Go.Proofs.Try.f15 K X)) [(0, counts0_l17), (1, k1_l17), (5, n5_l17), (8, out8_l17), (9, file9_l17), (10, used10_l17), (11, i11_l17), (12, want12_l17), (38, t38_l17), (39, t39_l17)] σ := by
  unfold L15_17
  kernel_rfl
def L15_14 (env : Env) (I14 : Nat → List AV → AS → Prop) (m14 : Nat) (counts0_l14 k1_l14 n5_l14 out8_l14 file9_l14 used10_l14 t38_l14 t39_l14 : AV) (σ : AS) (K : AV → AS → Prop) (X : PV → AS → Prop) : Prop :=
 (binD Go.Proofs.Try.prog .lss 3 t39_l14 t38_l14 fun t40 =>
 (condD t40
 (binD Go.Proofs.Try.prog .add 3 t39_l14 (.pv (.int .i64 1)) fun t43 =>
 (binD Go.Proofs.Try.prog .mul 3 t43 n5_l14 fun t45 =>
 (binD Go.Proofs.Try.prog .quo 3 t45 k1_l14 fun t47 =>
 (binD Go.Proofs.Try.prog .mul 3 t39_l14 n5_l14 fun t50 =>
 (binD Go.Proofs.Try.prog .quo 3 t50 k1_l14 fun t52 =>
 (binD Go.Proofs.Try.prog .sub 3 t47 t52 fun t53 =>
 (∃ I17 : Nat → List AV → AS → Prop, (∃ m, I17 m [counts0_l14, k1_l14, n5_l14, out8_l14, file9_l14, used10_l14, t39_l14, t53, t38_l14, t39_l14] σ) ∧ ∀ (m17 : Nat) (counts0_l17 k1_l17 n5_l17 out8_l17 file9_l17 used10_l17 i11_l17 want12_l17 t38_l17 t39_l17 : AV), ∀ σ4, I17 m17 [counts0_l17, k1_l17, n5_l17, out8_l17, file9_l17, used10_l17, i11_l17, want12_l17, t38_l17, t39_l17] σ4 →
 (L15_17 env I14 m14 I17 m17 counts0_l17 k1_l17 n5_l17 out8_l17 file9_l17 used10_l17 i11_l17 want12_l17 t38_l17 t39_l17 σ4 K X))))))))
 (retV (out8_l14) σ K)))
theorem L15_14_eq (env : Env) (I14 : Nat → List AV → AS → Prop) (m14 : Nat) (counts0_l14 k1_l14 n5_l14 out8_l14 file9_l14 used10_l14 t38_l14 t39_l14 : AV) (σ : AS) (K : AV → AS → Prop) (X : PV → AS → Prop) : L15_14 env I14 m14 counts0_l14 k1_l14 n5_l14 out8_l14 file9_l14 used10_l14 t38_l14 t39_l14 σ K X = wpD Go.Proofs.Try.prog env an15 (subC (bodyC Go.Proofs.Try.f15) [1, 1, 1, 1, 1, 1, 0, 1, 0, 0]) (contQ Go.Proofs.Try.prog env an15 (bodyC Go.Proofs.Try.f15) [1, 1, 1, 1, 1, 1, 0, 1, 0, 0] [(I14, m14)] (rootQ Go.Proofs.Try.prog Go.Proofs.Try.f15 K X)) [(0, counts0_l14), (1, k1_l14), (5, n5_l14), (8, out8_l14), (9, file9_l14), (10, used10_l14), (38, t38_l14), (39, t39_l14)] σ := by
  unfold L15_14
  simp only [L15_17_eq]
  kernel_rfl
def L15_5 (env : Env) (I5 : Nat → List AV → AS → Prop) (m5 : Nat) (counts0_l5 k1_l5 n5_l5 t20_l5 t21_l5 t22_l5 : AV) (σ : AS) (K : AV → AS → Prop) (X : PV → AS → Prop) : Prop :=
 (binD Go.Proofs.Try.prog .lss 3 t22_l5 t21_l5 fun t23 =>
 (condD t23
 (indexAddrD Go.Proofs.Try.prog 22 t20_l5 t22_l5 fun t24 =>
 (loadD Go.Proofs.Try.prog σ 3 t24 fun t25 =>
 (binD Go.Proofs.Try.prog .sub 3 (.pv (.int .i64 2147483647)) n5_l5 fun t28 =>
 (binD Go.Proofs.Try.prog .gtr 3 t25 t28 fun t29 =>
 (condD t29
 (retV ((.nilS)) σ K)
 (foldD max2D t25 [(.pv (.int .i64 0))] fun t32 =>
 (binD Go.Proofs.Try.prog .add 3 n5_l5 t32 fun t33 =>
 (binD Go.Proofs.Try.prog .add 3 t22_l5 (.pv (.int .i64 1)) fun t34 =>
 (∃ m', m' < m5 ∧ I5 m' [counts0_l5, k1_l5, t33, t20_l5, t21_l5, t34] σ)))))))))
 (makeSliceD Go.Proofs.Try.prog true σ 24 k1_l5 k1_l5 fun t36 σ2 =>
 (lenD Go.Proofs.Try.prog 24 t36 fun t38 =>
 (∃ I14 : Nat → List AV → AS → Prop, (∃ m, I14 m [counts0_l5, k1_l5, n5_l5, t36, (.pv (.int .i64 0)), (.pv (.int .i64 0)), t38, (.pv (.int .i64 0))] σ2) ∧ ∀ (m14 : Nat) (counts0_l14 k1_l14 n5_l14 out8_l14 file9_l14 used10_l14 t38_l14 t39_l14 : AV), ∀ σ3, I14 m14 [counts0_l14, k1_l14, n5_l14, out8_l14, file9_l14, used10_l14, t38_l14, t39_l14] σ3 →
 (L15_14 env I14 m14 counts0_l14 k1_l14 n5_l14 out8_l14 file9_l14 used10_l14 t38_l14 t39_l14 σ3 K X))))))
theorem L15_5_eq (env : Env) (I5 : Nat → List AV → AS → Prop) (m5 : Nat) (counts0_l5 k1_l5 n5_l5 t20_l5 t21_l5 t22_l5 : AV) (σ : AS) (K : AV → AS → Prop) (X : PV → AS → Prop) : L15_5 env I5 m5 counts0_l5 k1_l5 n5_l5 t20_l5 t21_l5 t22_l5 σ K X = wpD Go.Proofs.Try.prog env an15 (subC (bodyC Go.Proofs.Try.f15) [1, 1, 1, 0, 1, 0, 0]) (contQ Go.Proofs.Try.prog env an15 (bodyC Go.Proofs.Try.f15) [1, 1, 1, 0, 1, 0, 0] [(I5, m5)] (rootQ Go.Proofs.Try.prog Go.Proofs.Try.f15 K X)) [(0, counts0_l5), (1, k1_l5), (5, n5_l5), (20, t20_l5), (21, t21_l5), (22, t22_l5)] σ := by
  unfold L15_5
  simp only [L15_14_eq]
  kernel_rfl
def J15_3 (env : Env)  (counts0_j3 k1_j3 : AV) (σ : AS) (K : AV → AS → Prop) (X : PV → AS → Prop) : Prop :=
 (lenD Go.Proofs.Try.prog 22 counts0_j3 fun t21 =>
 (∃ I5 : Nat → List AV → AS → Prop, (∃ m, I5 m [counts0_j3, k1_j3, (.pv (.int .i64 0)), counts0_j3, t21, (.pv (.int .i64 0))] σ) ∧ ∀ (m5 : Nat) (counts0_l5 k1_l5 n5_l5 t20_l5 t21_l5 t22_l5 : AV), ∀ σ1, I5 m5 [counts0_l5, k1_l5, n5_l5, t20_l5, t21_l5, t22_l5] σ1 →
 (L15_5 env I5 m5 counts0_l5 k1_l5 n5_l5 t20_l5 t21_l5 t22_l5 σ1 K X)))
theorem J15_3_eq (env : Env)  (counts0_j3 k1_j3 : AV) (σ : AS) (K : AV → AS → Prop) (X : PV → AS → Prop) : J15_3 env  counts0_j3 k1_j3 σ K X = wpD Go.Proofs.Try.prog env an15 (subC (bodyC Go.Proofs.Try.f15) [1, 1]) (contQ Go.Proofs.Try.prog env an15 (bodyC Go.Proofs.Try.f15) [1, 1] [] (rootQ Go.Proofs.Try.prog Go.Proofs.Try.f15 K X)) [(0, counts0_j3), (1, k1_j3)] σ := by
  unfold J15_3
  simp only [L15_5_eq]
  kernel_rfl
def S15 (env : Env) (counts0_a k1_a : AV) (σ : AS) (K : AV → AS → Prop) (X : PV → AS → Prop) : Prop :=
 (binD Go.Proofs.Try.prog .lss 3 k1_a (.pv (.int .i64 1)) fun t15 =>
 (guardD t15 false
 (binD Go.Proofs.Try.prog .gtr 3 k1_a (.pv (.int .i64 4096)) fun t18 =>
 (condD t18
 (retV ((.nilS)) σ K)
 (J15_3 env  (counts0_a) (k1_a) σ K X)))
 (retV ((.nilS)) σ K)))
theorem S15_eq (env : Env) (counts0_a k1_a : AV) (σ : AS) (K : AV → AS → Prop) (X : PV → AS → Prop) : S15 env counts0_a k1_a σ K X = bodyD Go.Proofs.Try.prog env an15 Go.Proofs.Try.f15 [counts0_a, k1_a] σ K X := by
  unfold S15
  simp only [J15_3_eq]
  kernel_rfl
theorem S15_ok : (match Go.Proofs.Try.f15.body with | some c => okCode an15 Go.Proofs.Try.prog Go.Proofs.Try.f15.ntmps c | none => false) = true := by kernel_rfl
/-! ### tedder/tedderlaw21.few (function 23) -/
def an23 : An := { mu := [], cut := [], loop := [(5, [3, 9, 10, 11])] }
def L23_5 (env : Env) (I5 : Nat → List AV → AS → Prop) (m5 : Nat) (n3_l5 t9_l5 t10_l5 t11_l5 : AV) (σ : AS) (K : AV → AS → Prop) (X : PV → AS → Prop) : Prop :=
 (binD Go.Proofs.Try.prog .lss 3 t11_l5 t10_l5 fun t12 =>
 (condD t12
 (indexAddrD Go.Proofs.Try.prog 22 t9_l5 t11_l5 fun t13 =>
 (loadD Go.Proofs.Try.prog σ 3 t13 fun t14 =>
 (binD Go.Proofs.Try.prog .sub 3 (.pv (.int .i64 200)) n3_l5 fun t17 =>
 (binD Go.Proofs.Try.prog .gtr 3 t14 t17 fun t18 =>
 (condD t18
 (retV ((.pv (.bool false))) σ K)
 (foldD max2D t14 [(.pv (.int .i64 0))] fun t21 =>
 (binD Go.Proofs.Try.prog .add 3 n3_l5 t21 fun t22 =>
 (binD Go.Proofs.Try.prog .add 3 t11_l5 (.pv (.int .i64 1)) fun t23 =>
 (∃ m', m' < m5 ∧ I5 m' [t22, t9_l5, t10_l5, t23] σ)))))))))
 (retV ((.pv (.bool true))) σ K)))
theorem L23_5_eq (env : Env) (I5 : Nat → List AV → AS → Prop) (m5 : Nat) (n3_l5 t9_l5 t10_l5 t11_l5 : AV) (σ : AS) (K : AV → AS → Prop) (X : PV → AS → Prop) : L23_5 env I5 m5 n3_l5 t9_l5 t10_l5 t11_l5 σ K X = wpD Go.Proofs.Try.prog env an23 (subC (bodyC Go.Proofs.Try.f23) [1, 1, 1, 0, 1, 0, 0]) (contQ Go.Proofs.Try.prog env an23 (bodyC Go.Proofs.Try.f23) [1, 1, 1, 0, 1, 0, 0] [(I5, m5)] (rootQ Go.Proofs.Try.prog Go.Proofs.Try.f23 K X)) [(3, n3_l5), (9, t9_l5), (10, t10_l5), (11, t11_l5)] σ := by
  unfold L23_5
  kernel_rfl
def S23 (env : Env) (counts0_a : AV) (σ : AS) (K : AV → AS → Prop) (X : PV → AS → Prop) : Prop :=
 (lenD Go.Proofs.Try.prog 22 counts0_a fun t7 =>
 (binD Go.Proofs.Try.prog .gtr 3 t7 (.pv (.int .i64 40)) fun t8 =>
 (condD t8
 (retV ((.pv (.bool false))) σ K)
 (lenD Go.Proofs.Try.prog 22 counts0_a fun t10 =>
 (∃ I5 : Nat → List AV → AS → Prop, (∃ m, I5 m [(.pv (.int .i64 0)), counts0_a, t10, (.pv (.int .i64 0))] σ) ∧ ∀ (m5 : Nat) (n3_l5 t9_l5 t10_l5 t11_l5 : AV), ∀ σ1, I5 m5 [n3_l5, t9_l5, t10_l5, t11_l5] σ1 →
 (L23_5 env I5 m5 n3_l5 t9_l5 t10_l5 t11_l5 σ1 K X))))))
theorem S23_eq (env : Env) (counts0_a : AV) (σ : AS) (K : AV → AS → Prop) (X : PV → AS → Prop) : S23 env counts0_a σ K X = bodyD Go.Proofs.Try.prog env an23 Go.Proofs.Try.f23 [counts0_a] σ K X := by
  unfold S23
  simp only [L23_5_eq]
  kernel_rfl
theorem S23_ok : (match Go.Proofs.Try.f23.body with | some c => okCode an23 Go.Proofs.Try.prog Go.Proofs.Try.f23.ntmps c | none => false) = true := by kernel_rfl
/-! ### tedder/tedderlaw18.awake (function 14) -/
def an14 : An := { mu := [], cut := [], loop := [] }
def S14 (env : Env) (σ : AS) (K : AV → AS → Prop) (X : PV → AS → Prop) : Prop :=
 (buildSliceD Go.Proofs.Try.prog false σ 22 2 2 [(0, (.pv (.int .i64 3))), (1, (.pv (.int .i64 2)))] fun t2 σ1 =>
 (env 15 [t2, (.pv (.int .i64 2))] σ1 (fun t3 σ2 =>
 (lenD Go.Proofs.Try.prog 24 t3 fun t5 =>
 (binD Go.Proofs.Try.prog .eql 3 t5 (.pv (.int .i64 2)) fun t6 =>
 (guardD t6 true
 (indexAddrD Go.Proofs.Try.prog 24 t3 (.pv (.int .i64 0)) fun t9 =>
 (loadD Go.Proofs.Try.prog σ2 26 t9 fun t10 =>
 (lenD Go.Proofs.Try.prog 26 t10 fun t11 =>
 (binD Go.Proofs.Try.prog .eql 3 t11 (.pv (.int .i64 1)) fun t12 =>
 (guardD t12 true
 (indexAddrD Go.Proofs.Try.prog 24 t3 (.pv (.int .i64 0)) fun t16 =>
 (loadD Go.Proofs.Try.prog σ2 26 t16 fun t17 =>
 (indexAddrD Go.Proofs.Try.prog 26 t17 (.pv (.int .i64 0)) fun t18 =>
 (loadD Go.Proofs.Try.prog σ2 28 t18 fun t19 =>
 (buildD Go.Proofs.Try.prog 28 [(0, (.pv (.int .i64 0))), (1, (.pv (.int .i64 0))), (2, (.pv (.int .i64 2)))] fun t20 =>
 (binD Go.Proofs.Try.prog .eql 28 t19 t20 fun t21 =>
 (guardD t21 true
 (indexAddrD Go.Proofs.Try.prog 24 t3 (.pv (.int .i64 1)) fun t25 =>
 (loadD Go.Proofs.Try.prog σ2 26 t25 fun t26 =>
 (lenD Go.Proofs.Try.prog 26 t26 fun t27 =>
 (binD Go.Proofs.Try.prog .eql 3 t27 (.pv (.int .i64 2)) fun t28 =>
 (retV (t28) σ2 K)))))
 (retV ((.pv (.bool false))) σ2 K))))))))
 (retV ((.pv (.bool false))) σ2 K))))))
 (retV ((.pv (.bool false))) σ2 K))))) (panV X)))
theorem S14_eq (env : Env) (σ : AS) (K : AV → AS → Prop) (X : PV → AS → Prop) : S14 env  σ K X = bodyD Go.Proofs.Try.prog env an14 Go.Proofs.Try.f14 [] σ K X := by
  unfold S14
  kernel_rfl
theorem S14_ok : (match Go.Proofs.Try.f14.body with | some c => okCode an14 Go.Proofs.Try.prog Go.Proofs.Try.f14.ntmps c | none => false) = true := by kernel_rfl
end Go.AD
