/- Bodies in the calculus' own words. Printed by gen.py, a program of this claim's own. -/
import Derived.Test.YtcaidbmopehjhaaTy
set_option linter.unusedVariables false
set_option maxRecDepth 100000
namespace Go.AD
/-! ### tedder/tedderref18.Cut (function 16) -/
def an16 : An := { mu := [33, 91], cut := [(8, [0, 1, 5]), (21, [0, 1, 5, 7, 8, 9, 10, 11, 12, 75]), (23, [0, 1, 5, 7, 8, 9, 10, 11, 12])], loop := [(3, [0, 1, 5, 6]), (12, [0, 1, 5, 7, 8, 9, 10]), (15, [0, 1, 5, 7, 8, 9, 10, 11]), (17, [0, 1, 5, 7, 8, 9, 10, 11])] }
def J16_23 (env : Env) (I12 : Nat → List AV → AS → Prop) (m12 : Nat) (I15 : Nat → List AV → AS → Prop) (m15 : Nat) (counts0_j23 k1_j23 n5_j23 out7_j23 at8_j23 shard9_j23 f10_j23 r11_j23 l12_j23 : AV) (σ : AS) (K : AV → AS → Prop) (X : PV → AS → Prop) : Prop :=
 (indexAddrD Go.Proofs.Try.prog 24 out7_j23 shard9_j23 fun t95 =>
 (storeD Go.Proofs.Try.prog σ 26 t95 l12_j23 fun σ7 =>
 (binD Go.Proofs.Try.prog .add 3 at8_j23 (.pv (.int .i64 1)) fun t97 =>
 (binD Go.Proofs.Try.prog .add 3 r11_j23 (.pv (.int .i64 1)) fun t47 =>
 (∃ m', m' < m15 ∧ I15 m' [counts0_j23, k1_j23, n5_j23, out7_j23, t97, shard9_j23, f10_j23, t47] σ7)))))
theorem J16_23_eq (env : Env) (I12 : Nat → List AV → AS → Prop) (m12 : Nat) (I15 : Nat → List AV → AS → Prop) (m15 : Nat) (counts0_j23 k1_j23 n5_j23 out7_j23 at8_j23 shard9_j23 f10_j23 r11_j23 l12_j23 : AV) (σ : AS) (K : AV → AS → Prop) (X : PV → AS → Prop) : J16_23 env I12 m12 I15 m15 counts0_j23 k1_j23 n5_j23 out7_j23 at8_j23 shard9_j23 f10_j23 r11_j23 l12_j23 σ K X = wpD Go.Proofs.Try.prog env an16 (subC (bodyC Go.Proofs.Try.f16) [1, 1, 1, 1, 1, 1, 1, 0, 1, 0, 0, 1, 0, 0, 1, 0, 0, 1, 0, 0, 1, 1, 1]) (contQ Go.Proofs.Try.prog env an16 (bodyC Go.Proofs.Try.f16) [1, 1, 1, 1, 1, 1, 1, 0, 1, 0, 0, 1, 0, 0, 1, 0, 0, 1, 0, 0, 1, 1, 1] [(I12, m12), (I15, m15)] (rootQ Go.Proofs.Try.prog Go.Proofs.Try.f16 K X)) [(0, counts0_j23), (1, k1_j23), (5, n5_j23), (7, out7_j23), (8, at8_j23), (9, shard9_j23), (10, f10_j23), (11, r11_j23), (12, l12_j23)] σ := by
  unfold J16_23
  kernel_rfl
def J16_21 (env : Env) (I12 : Nat → List AV → AS → Prop) (m12 : Nat) (I15 : Nat → List AV → AS → Prop) (m15 : Nat) (counts0_j21 k1_j21 n5_j21 out7_j21 at8_j21 shard9_j21 f10_j21 r11_j21 l12_j21 t75_j21 : AV) (σ : AS) (K : AV → AS → Prop) (X : PV → AS → Prop) : Prop :=
 (condD t75_j21
 (lenD Go.Proofs.Try.prog 26 l12_j21 fun t78 =>
 (binD Go.Proofs.Try.prog .sub 3 t78 (.pv (.int .i64 1)) fun t79 =>
 (binD Go.Proofs.Try.prog .add 3 r11_j21 (.pv (.int .i64 1)) fun t81 =>
 (indexAddrD Go.Proofs.Try.prog 26 l12_j21 t79 fun t82 =>
 (fieldAddrD Go.Proofs.Try.prog 28 t82 2 fun t83 =>
 (storeD Go.Proofs.Try.prog σ 3 t83 t81 fun σ6 =>
 (J16_23 env I12 m12 I15 m15 (counts0_j21) (k1_j21) (n5_j21) (out7_j21) (at8_j21) (shard9_j21) (f10_j21) (r11_j21) (l12_j21) σ6 K X)))))))
 (binD Go.Proofs.Try.prog .add 3 r11_j21 (.pv (.int .i64 1)) fun t88 =>
 (buildD Go.Proofs.Try.prog 28 [(0, f10_j21), (1, r11_j21), (2, t88)] fun t89 =>
 (buildSliceD Go.Proofs.Try.prog false σ 26 1 1 [(0, t89)] fun t90 σ8 =>
 (SameT 26 26 ∧ (appendD Go.Proofs.Try.prog true σ8 26 l12_j21 t90 fun t91 σ9 =>
 (J16_23 env I12 m12 I15 m15 (counts0_j21) (k1_j21) (n5_j21) (out7_j21) (at8_j21) (shard9_j21) (f10_j21) (r11_j21) (t91) σ9 K X)))))))
theorem J16_21_eq (env : Env) (I12 : Nat → List AV → AS → Prop) (m12 : Nat) (I15 : Nat → List AV → AS → Prop) (m15 : Nat) (counts0_j21 k1_j21 n5_j21 out7_j21 at8_j21 shard9_j21 f10_j21 r11_j21 l12_j21 t75_j21 : AV) (σ : AS) (K : AV → AS → Prop) (X : PV → AS → Prop) : J16_21 env I12 m12 I15 m15 counts0_j21 k1_j21 n5_j21 out7_j21 at8_j21 shard9_j21 f10_j21 r11_j21 l12_j21 t75_j21 σ K X = wpD Go.Proofs.Try.prog env an16 (subC (bodyC Go.Proofs.Try.f16) [1, 1, 1, 1, 1, 1, 1, 0, 1, 0, 0, 1, 0, 0, 1, 0, 0, 1, 0, 0, 1, 1, 0, 1]) (contQ Go.Proofs.Try.prog env an16 (bodyC Go.Proofs.Try.f16) [1, 1, 1, 1, 1, 1, 1, 0, 1, 0, 0, 1, 0, 0, 1, 0, 0, 1, 0, 0, 1, 1, 0, 1] [(I12, m12), (I15, m15)] (rootQ Go.Proofs.Try.prog Go.Proofs.Try.f16 K X)) [(0, counts0_j21), (1, k1_j21), (5, n5_j21), (7, out7_j21), (8, at8_j21), (9, shard9_j21), (10, f10_j21), (11, r11_j21), (12, l12_j21), (75, t75_j21)] σ := by
  unfold J16_21
  simp only [J16_23_eq]
  kernel_rfl
def L16_17 (env : Env) (I12 : Nat → List AV → AS → Prop) (m12 : Nat) (I15 : Nat → List AV → AS → Prop) (m15 : Nat) (I17 : Nat → List AV → AS → Prop) (m17 : Nat) (counts0_l17 k1_l17 n5_l17 out7_l17 at8_l17 shard9_l17 f10_l17 r11_l17 : AV) (σ : AS) (K : AV → AS → Prop) (X : PV → AS → Prop) : Prop :=
 (binD Go.Proofs.Try.prog .add 3 shard9_l17 (.pv (.int .i64 1)) fun t50 =>
 (binD Go.Proofs.Try.prog .mul 3 t50 n5_l17 fun t52 =>
 (binD Go.Proofs.Try.prog .quo 3 t52 k1_l17 fun t54 =>
 (binD Go.Proofs.Try.prog .geq 3 at8_l17 t54 fun t55 =>
 (condD t55
 (binD Go.Proofs.Try.prog .add 3 shard9_l17 (.pv (.int .i64 1)) fun t57 =>
 (∃ m', m' < m17 ∧ I17 m' [counts0_l17, k1_l17, n5_l17, out7_l17, at8_l17, t57, f10_l17, r11_l17] σ))
 (indexAddrD Go.Proofs.Try.prog 24 out7_l17 shard9_l17 fun t60 =>
 (loadD Go.Proofs.Try.prog σ 26 t60 fun t61 =>
 (lenD Go.Proofs.Try.prog 26 t61 fun t63 =>
 (binD Go.Proofs.Try.prog .gtr 3 t63 (.pv (.int .i64 0)) fun t64 =>
 (guardD t64 true
 (lenD Go.Proofs.Try.prog 26 t61 fun t68 =>
 (binD Go.Proofs.Try.prog .sub 3 t68 (.pv (.int .i64 1)) fun t69 =>
 (indexAddrD Go.Proofs.Try.prog 26 t61 t69 fun t70 =>
 (fieldAddrD Go.Proofs.Try.prog 28 t70 0 fun t71 =>
 (loadD Go.Proofs.Try.prog σ 3 t71 fun t72 =>
 (binD Go.Proofs.Try.prog .eql 3 t72 f10_l17 fun t74 =>
 (J16_21 env I12 m12 I15 m15 (counts0_l17) (k1_l17) (n5_l17) (out7_l17) (at8_l17) (shard9_l17) (f10_l17) (r11_l17) (t61) (t74) σ K X)))))))
 (J16_21 env I12 m12 I15 m15 (counts0_l17) (k1_l17) (n5_l17) (out7_l17) (at8_l17) (shard9_l17) (f10_l17) (r11_l17) (t61) (.pv (.bool false)) σ K X)))))))))))
theorem L16_17_eq (env : Env) (I12 : Nat → List AV → AS → Prop) (m12 : Nat) (I15 : Nat → List AV → AS → Prop) (m15 : Nat) (I17 : Nat → List AV → AS → Prop) (m17 : Nat) (counts0_l17 k1_l17 n5_l17 out7_l17 at8_l17 shard9_l17 f10_l17 r11_l17 : AV) (σ : AS) (K : AV → AS → Prop) (X : PV → AS → Prop) : L16_17 env I12 m12 I15 m15 I17 m17 counts0_l17 k1_l17 n5_l17 out7_l17 at8_l17 shard9_l17 f10_l17 r11_l17 σ K X = wpD Go.Proofs.Try.prog env an16 (subC (bodyC Go.Proofs.Try.f16) [1, 1, 1, 1, 1, 1, 1, 0, 1, 0, 0, 1, 0, 0, 1, 0, 0, 1, 0, 0, 0, 0, 0]) (contQ Go.Proofs.Try.prog env an16 (bodyC Go.Proofs.Try.f16) [1, 1, 1, 1, 1, 1, 1, 0, 1, 0, 0, 1, 0, 0, 1, 0, 0, 1, 0, 0, 0, 0, 0] [(I12, m12), (I15, m15), (I17, m17)] (rootQ Go.Proofs.Try.prog Go.Proofs.Try.f16 K X)) [(0, counts0_l17), (1, k1_l17), (5, n5_l17), (7, out7_l17), (8, at8_l17), (9, shard9_l17), (10, f10_l17), (11, r11_l17)] σ := by
  unfold L16_17
  simp only [J16_21_eq]
  kernel_rfl
def L16_15 (env : Env) (I12 : Nat → List AV → AS → Prop) (m12 : Nat) (I15 : Nat → List AV → AS → Prop) (m15 : Nat) (counts0_l15 k1_l15 n5_l15 out7_l15 at8_l15 shard9_l15 f10_l15 r11_l15 : AV) (σ : AS) (K : AV → AS → Prop) (X : PV → AS → Prop) : Prop :=
 (indexAddrD Go.Proofs.Try.prog 22 counts0_l15 f10_l15 fun t43 =>
 (loadD Go.Proofs.Try.prog σ 3 t43 fun t44 =>
 (binD Go.Proofs.Try.prog .lss 3 r11_l15 t44 fun t45 =>
 (condD t45
 (∃ I17 : Nat → List AV → AS → Prop, (∃ m, I17 m [counts0_l15, k1_l15, n5_l15, out7_l15, at8_l15, shard9_l15, f10_l15, r11_l15] σ) ∧ ∀ (m17 : Nat) (counts0_l17 k1_l17 n5_l17 out7_l17 at8_l17 shard9_l17 f10_l17 r11_l17 : AV), ∀ σ5, I17 m17 [counts0_l17, k1_l17, n5_l17, out7_l17, at8_l17, shard9_l17, f10_l17, r11_l17] σ5 →
 (L16_17 env I12 m12 I15 m15 I17 m17 counts0_l17 k1_l17 n5_l17 out7_l17 at8_l17 shard9_l17 f10_l17 r11_l17 σ5 K X))
 (binD Go.Proofs.Try.prog .add 3 f10_l15 (.pv (.int .i64 1)) fun t39 =>
 (∃ m', m' < m12 ∧ I12 m' [counts0_l15, k1_l15, n5_l15, out7_l15, at8_l15, shard9_l15, t39] σ))))))
theorem L16_15_eq (env : Env) (I12 : Nat → List AV → AS → Prop) (m12 : Nat) (I15 : Nat → List AV → AS → Prop) (m15 : Nat) (counts0_l15 k1_l15 n5_l15 out7_l15 at8_l15 shard9_l15 f10_l15 r11_l15 : AV) (σ : AS) (K : AV → AS → Prop) (X : PV → AS → Prop) : L16_15 env I12 m12 I15 m15 counts0_l15 k1_l15 n5_l15 out7_l15 at8_l15 shard9_l15 f10_l15 r11_l15 σ K X = wpD Go.Proofs.Try.prog env an16 (subC (bodyC Go.Proofs.Try.f16) [1, 1, 1, 1, 1, 1, 1, 0, 1, 0, 0, 1, 0, 0, 1, 0, 0]) (contQ Go.Proofs.Try.prog env an16 (bodyC Go.Proofs.Try.f16) [1, 1, 1, 1, 1, 1, 1, 0, 1, 0, 0, 1, 0, 0, 1, 0, 0] [(I12, m12), (I15, m15)] (rootQ Go.Proofs.Try.prog Go.Proofs.Try.f16 K X)) [(0, counts0_l15), (1, k1_l15), (5, n5_l15), (7, out7_l15), (8, at8_l15), (9, shard9_l15), (10, f10_l15), (11, r11_l15)] σ := by
  unfold L16_15
  simp only [L16_17_eq]
  kernel_rfl
def L16_12 (env : Env) (I12 : Nat → List AV → AS → Prop) (m12 : Nat) (counts0_l12 k1_l12 n5_l12 out7_l12 at8_l12 shard9_l12 f10_l12 : AV) (σ : AS) (K : AV → AS → Prop) (X : PV → AS → Prop) : Prop :=
 (lenD Go.Proofs.Try.prog 22 counts0_l12 fun t36 =>
 (binD Go.Proofs.Try.prog .lss 3 f10_l12 t36 fun t37 =>
 (condD t37
 (∃ I15 : Nat → List AV → AS → Prop, (∃ m, I15 m [counts0_l12, k1_l12, n5_l12, out7_l12, at8_l12, shard9_l12, f10_l12, (.pv (.int .i64 0))] σ) ∧ ∀ (m15 : Nat) (counts0_l15 k1_l15 n5_l15 out7_l15 at8_l15 shard9_l15 f10_l15 r11_l15 : AV), ∀ σ4, I15 m15 [counts0_l15, k1_l15, n5_l15, out7_l15, at8_l15, shard9_l15, f10_l15, r11_l15] σ4 →
 (L16_15 env I12 m12 I15 m15 counts0_l15 k1_l15 n5_l15 out7_l15 at8_l15 shard9_l15 f10_l15 r11_l15 σ4 K X))
 (retV (out7_l12) σ K))))
theorem L16_12_eq (env : Env) (I12 : Nat → List AV → AS → Prop) (m12 : Nat) (counts0_l12 k1_l12 n5_l12 out7_l12 at8_l12 shard9_l12 f10_l12 : AV) (σ : AS) (K : AV → AS → Prop) (X : PV → AS → Prop) : L16_12 env I12 m12 counts0_l12 k1_l12 n5_l12 out7_l12 at8_l12 shard9_l12 f10_l12 σ K X = wpD Go.Proofs.Try.prog env an16 (subC (bodyC Go.Proofs.Try.f16) [1, 1, 1, 1, 1, 1, 1, 0, 1, 0, 0]) (contQ Go.Proofs.Try.prog env an16 (bodyC Go.Proofs.Try.f16) [1, 1, 1, 1, 1, 1, 1, 0, 1, 0, 0] [(I12, m12)] (rootQ Go.Proofs.Try.prog Go.Proofs.Try.f16 K X)) [(0, counts0_l12), (1, k1_l12), (5, n5_l12), (7, out7_l12), (8, at8_l12), (9, shard9_l12), (10, f10_l12)] σ := by
  unfold L16_12
  simp only [L16_15_eq]
  kernel_rfl
def J16_8 (env : Env)  (counts0_j8 k1_j8 n5_j8 : AV) (σ : AS) (K : AV → AS → Prop) (X : PV → AS → Prop) : Prop :=
 (makeSliceD Go.Proofs.Try.prog true σ 24 k1_j8 k1_j8 fun t33 σ2 =>
 (∃ I12 : Nat → List AV → AS → Prop, (∃ m, I12 m [counts0_j8, k1_j8, n5_j8, t33, (.pv (.int .i64 0)), (.pv (.int .i64 0)), (.pv (.int .i64 0))] σ2) ∧ ∀ (m12 : Nat) (counts0_l12 k1_l12 n5_l12 out7_l12 at8_l12 shard9_l12 f10_l12 : AV), ∀ σ3, I12 m12 [counts0_l12, k1_l12, n5_l12, out7_l12, at8_l12, shard9_l12, f10_l12] σ3 →
 (L16_12 env I12 m12 counts0_l12 k1_l12 n5_l12 out7_l12 at8_l12 shard9_l12 f10_l12 σ3 K X)))
theorem J16_8_eq (env : Env)  (counts0_j8 k1_j8 n5_j8 : AV) (σ : AS) (K : AV → AS → Prop) (X : PV → AS → Prop) : J16_8 env  counts0_j8 k1_j8 n5_j8 σ K X = wpD Go.Proofs.Try.prog env an16 (subC (bodyC Go.Proofs.Try.f16) [1, 1, 1, 1]) (contQ Go.Proofs.Try.prog env an16 (bodyC Go.Proofs.Try.f16) [1, 1, 1, 1] [] (rootQ Go.Proofs.Try.prog Go.Proofs.Try.f16 K X)) [(0, counts0_j8), (1, k1_j8), (5, n5_j8)] σ := by
  unfold J16_8
  simp only [L16_12_eq]
  kernel_rfl
def L16_3 (env : Env) (I3 : Nat → List AV → AS → Prop) (m3 : Nat) (counts0_l3 k1_l3 n5_l3 i6_l3 : AV) (σ : AS) (K : AV → AS → Prop) (X : PV → AS → Prop) : Prop :=
 (lenD Go.Proofs.Try.prog 22 counts0_l3 fun t15 =>
 (binD Go.Proofs.Try.prog .lss 3 i6_l3 t15 fun t16 =>
 (condD t16
 (indexAddrD Go.Proofs.Try.prog 22 counts0_l3 i6_l3 fun t22 =>
 (loadD Go.Proofs.Try.prog σ 3 t22 fun t23 =>
 (foldD max2D t23 [(.pv (.int .i64 0))] fun t24 =>
 (binD Go.Proofs.Try.prog .add 3 n5_l3 t24 fun t25 =>
 (binD Go.Proofs.Try.prog .add 3 i6_l3 (.pv (.int .i64 1)) fun t18 =>
 (∃ m', m' < m3 ∧ I3 m' [counts0_l3, k1_l3, t25, t18] σ))))))
 (binD Go.Proofs.Try.prog .lss 3 k1_l3 (.pv (.int .i64 1)) fun t27 =>
 (guardD t27 false
 (binD Go.Proofs.Try.prog .gtr 3 k1_l3 (.pv (.int .i64 4096)) fun t30 =>
 (condD t30
 (retV ((.nilS)) σ K)
 (J16_8 env  (counts0_l3) (k1_l3) (n5_l3) σ K X)))
 (retV ((.nilS)) σ K))))))
theorem L16_3_eq (env : Env) (I3 : Nat → List AV → AS → Prop) (m3 : Nat) (counts0_l3 k1_l3 n5_l3 i6_l3 : AV) (σ : AS) (K : AV → AS → Prop) (X : PV → AS → Prop) : L16_3 env I3 m3 counts0_l3 k1_l3 n5_l3 i6_l3 σ K X = wpD Go.Proofs.Try.prog env an16 (subC (bodyC Go.Proofs.Try.f16) [1, 1, 0, 1, 0, 0]) (contQ Go.Proofs.Try.prog env an16 (bodyC Go.Proofs.Try.f16) [1, 1, 0, 1, 0, 0] [(I3, m3)] (rootQ Go.Proofs.Try.prog Go.Proofs.Try.f16 K X)) [(0, counts0_l3), (1, k1_l3), (5, n5_l3), (6, i6_l3)] σ := by
  unfold L16_3
  simp only [J16_8_eq]
  kernel_rfl
def S16 (env : Env) (counts0_a k1_a : AV) (σ : AS) (K : AV → AS → Prop) (X : PV → AS → Prop) : Prop :=
 (∃ I3 : Nat → List AV → AS → Prop, (∃ m, I3 m [counts0_a, k1_a, (.pv (.int .i64 0)), (.pv (.int .i64 0))] σ) ∧ ∀ (m3 : Nat) (counts0_l3 k1_l3 n5_l3 i6_l3 : AV), ∀ σ1, I3 m3 [counts0_l3, k1_l3, n5_l3, i6_l3] σ1 →
 (L16_3 env I3 m3 counts0_l3 k1_l3 n5_l3 i6_l3 σ1 K X))
theorem S16_eq (env : Env) (counts0_a k1_a : AV) (σ : AS) (K : AV → AS → Prop) (X : PV → AS → Prop) : S16 env counts0_a k1_a σ K X = bodyD Go.Proofs.Try.prog env an16 Go.Proofs.Try.f16 [counts0_a, k1_a] σ K X := by
  unfold S16
  simp only [L16_3_eq]
  kernel_rfl
theorem S16_ok : (match Go.Proofs.Try.f16.body with | some c => okCode an16 Go.Proofs.Try.prog Go.Proofs.Try.f16.ntmps c | none => false) = true := by kernel_rfl
end Go.AD
