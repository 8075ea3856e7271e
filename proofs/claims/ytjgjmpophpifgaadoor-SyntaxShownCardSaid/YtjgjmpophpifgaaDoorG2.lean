/- Bodies in the calculus' own words. Printed by gen.py, a program of this claim's own. -/
import Derived.Test.YtjgjmpophpifgaaDoorTy
set_option linter.unusedVariables false
set_option maxRecDepth 100000
namespace Go.AD
open Go.Proofs.Tryd
/-! ### (*strings.Builder).WriteByte (function 47) -/
def an47 : An := { mu := [], cut := [], loop := [] }
def S47 (env : Env) (b0_a c1_a : AV) (σ : AS) (K : AV → AS → Prop) (X : PV → AS → Prop) : Prop :=
 (env 96 [b0_a] σ (fun t6 σ1 =>
 (lock nilD b0_a fun t9 =>
 (lock fieldAddrD prog 75 t9 1 fun t10 =>
 (lock loadD prog σ1 30 t10 fun t11 =>
 (lock buildSliceD prog false σ1 30 1 1 [(0, c1_a)] fun t13 σ2 =>
 (lock appendD prog false σ2 30 t11 t13 fun t14 σ3 =>
 (lock nilD b0_a fun t15 =>
 (lock fieldAddrD prog 75 t15 1 fun t16 =>
 (lock storeD prog σ3 30 t16 t14 fun σ4 =>
 (retV ((.pv .nilIface)) σ4 K)))))))))) (panV X))
theorem S47_eq (env : Env) (b0_a c1_a : AV) (σ : AS) (K : AV → AS → Prop) (X : PV → AS → Prop) : S47 env b0_a c1_a σ K X = bodyD prog env an47 f47 [b0_a, c1_a] σ K X := by
  unfold S47
  kernel_rfl
theorem S47_ok : (match f47.body with | some c => okCode an47 prog f47.ntmps c | none => false) = true := by kernel_rfl
/-! ### (*tedder/lex.lexer).inText (function 90) -/
def an90 : An := { mu := [], cut := [(15, [1, 8, 9, 51])], loop := [(4, [1, 5, 21, 22, 23])] }
def L90_4 (env : Env) (I4 : Nat → List AV → AS → Prop) (m4 : Nat) (b1_l4 v5_l4 t21_l4 t22_l4 t23_l4 : AV) (σ : AS) (K : AV → AS → Prop) (X : PV → AS → Prop) : Prop :=
 (lock binD prog .lss 3 t23_l4 t22_l4 fun t24 =>
 (condD t24
 (lock indexAddrD prog 30 t21_l4 t23_l4 fun t25 =>
 (lock loadD prog σ 5 t25 fun t26 =>
 (lock binD prog .mul 3 v5_l4 (.pv (.int .i64 8)) fun t28 =>
 (lock binD prog .sub 5 t26 (.pv (.int .u8 48)) fun t30 =>
 (lock convD prog σ 5 3 t30 fun t31 =>
 (lock binD prog .add 3 t28 t31 fun t32 =>
 (lock binD prog .add 3 t23_l4 (.pv (.int .i64 1)) fun t33 =>
 (∃ m', m' < m4 ∧ I4 m' [b1_l4, t32, t21_l4, t22_l4, t33] σ))))))))
 (lock convD prog σ 3 5 v5_l4 fun t36 =>
 (env 47 [b1_l4, t36] σ (fun t37 σ5 =>
 (retV (.tuple []) σ5 K)) (panV X)))))
theorem L90_4_eq (env : Env) (I4 : Nat → List AV → AS → Prop) (m4 : Nat) (b1_l4 v5_l4 t21_l4 t22_l4 t23_l4 : AV) (σ : AS) (K : AV → AS → Prop) (X : PV → AS → Prop) : L90_4 env I4 m4 b1_l4 v5_l4 t21_l4 t22_l4 t23_l4 σ K X = wpD prog env an90 (subC (bodyC f90) [0, 1, 1, 0, 1, 0, 1, 0, 0]) (contQ prog env an90 (bodyC f90) [0, 1, 1, 0, 1, 0, 1, 0, 0] [(I4, m4)] (rootQ prog f90 K X)) [(1, b1_l4), (5, v5_l4), (21, t21_l4), (22, t22_l4), (23, t23_l4)] σ := by
  unfold L90_4
  kernel_rfl
theorem lp90_4 {α : Type} {env : Env}  {b1_l4 t21_l4 t22_l4 : AV} {σ : AS} {K : AV → AS → Prop} {X : PV → AS → Prop} (μ : α → AS → Nat) (I : α → AS → Prop) (ev5_l4 et23_l4 : α → AV) (a0 : α) (h0 : I a0 σ)
 (h : ∀ a σ, I a σ → L90_4 env  (Inv (fun a => [b1_l4, ev5_l4 a, t21_l4, t22_l4, et23_l4 a]) μ I) (μ a σ) b1_l4 (ev5_l4 a) t21_l4 t22_l4 (et23_l4 a) σ K X) :
 ∃ I4 : Nat → List AV → AS → Prop, (∃ m, I4 m [b1_l4, ev5_l4 a0, t21_l4, t22_l4, et23_l4 a0] σ) ∧ ∀ (m : Nat) (x0 x1 x2 x3 x4 : AV), ∀ σ, I4 m [x0, x1, x2, x3, x4] σ →
 L90_4 env  I4 m x0 x1 x2 x3 x4 σ K X := by
  refine ⟨Inv (fun a => [b1_l4, ev5_l4 a, t21_l4, t22_l4, et23_l4 a]) μ I, ⟨_, a0, rfl, rfl, h0⟩, ?_⟩
  rintro m x0 x1 x2 x3 x4 σ' ⟨a, hv, rfl, hI⟩
  simp only [List.cons.injEq, and_true] at hv
  obtain ⟨rfl, rfl, rfl, rfl, rfl⟩ := hv
  exact h a σ' hI
def J90_15 (env : Env)  (b1_j15 c8_j15 i9_j15 t51_j15 : AV) (σ : AS) (K : AV → AS → Prop) (X : PV → AS → Prop) : Prop :=
 (condD t51_j15
 (env 47 [b1_j15, c8_j15] σ (fun t64 σ8 =>
 (retV (.tuple []) σ8 K)) (panV X))
 (lock binD prog .geq 3 i9_j15 (.pv (.int .i64 0)) fun t67 =>
 (condD t67
 (lock binD prog .add 3 (.pv (.int .i64 7)) i9_j15 fun t70 =>
 (lock convD prog σ 3 5 t70 fun t71 =>
 (env 47 [b1_j15, t71] σ (fun t72 σ9 =>
 (retV (.tuple []) σ9 K)) (panV X))))
 (env 47 [b1_j15, (.pv (.int .u8 92))] σ (fun t44 σ10 =>
 (env 47 [b1_j15, c8_j15] σ10 (fun t47 σ11 =>
 (retV (.tuple []) σ11 K)) (panV X))) (panV X)))))
theorem J90_15_eq (env : Env)  (b1_j15 c8_j15 i9_j15 t51_j15 : AV) (σ : AS) (K : AV → AS → Prop) (X : PV → AS → Prop) : J90_15 env  b1_j15 c8_j15 i9_j15 t51_j15 σ K X = wpD prog env an90 (subC (bodyC f90) [1, 1, 1, 0, 1, 1, 1]) (contQ prog env an90 (bodyC f90) [1, 1, 1, 0, 1, 1, 1] [] (rootQ prog f90 K X)) [(1, b1_j15), (8, c8_j15), (9, i9_j15), (51, t51_j15)] σ := by
  unfold J90_15
  kernel_rfl
def S90 (env : Env) (l0_a b1_a : AV) (σ : AS) (K : AV → AS → Prop) (X : PV → AS → Prop) : Prop :=
 (lock nilD l0_a fun t11 =>
 (lock fieldAddrD prog 72 t11 0 fun t12 =>
 (lock loadD prog σ 9 t12 fun t13 =>
 (env 86 [t13, (.pv (.func 114))] σ (fun t14 σ1 =>
 (lock (foldD min2D) t14 [(.pv (.int .i64 3))] fun t15 =>
 (lock binD prog .gtr 3 t15 (.pv (.int .i64 0)) fun t17 =>
 (condD t17
 (env 84 [l0_a, t15] σ1 (fun t20 σ2 =>
 (lock bytesD prog false σ2 9 30 t20 fun t21 σ3 =>
 (lock lenD prog 30 t21 fun t22 =>
 (∃ I4 : Nat → List AV → AS → Prop, (∃ m, I4 m [b1_a, (.pv (.int .i64 0)), t21, t22, (.pv (.int .i64 0))] σ3) ∧ ∀ (m4 : Nat) (b1_l4 v5_l4 t21_l4 t22_l4 t23_l4 : AV), ∀ σ4, I4 m4 [b1_l4, v5_l4, t21_l4, t22_l4, t23_l4] σ4 →
 (L90_4 env I4 m4 b1_l4 v5_l4 t21_l4 t22_l4 t23_l4 σ4 K X))))) (panV X))
 (env 84 [l0_a, (.pv (.int .i64 1))] σ1 (fun t39 σ6 =>
 (lock indexD prog 9 t39 (.pv (.int .i64 0)) fun t40 =>
 (env 24 [(.pv (.str [97, 98, 116, 110, 118, 102, 114])), t40] σ6 (fun t42 σ7 =>
 (lock binD prog .eql 5 t40 (.pv (.int .u8 10)) fun t50 =>
 (condD t50
 (retV (.tuple []) σ7 K)
 (lock binD prog .eql 5 t40 (.pv (.int .u8 34)) fun t53 =>
 (guardD t53 false
 (lock binD prog .eql 5 t40 (.pv (.int .u8 92)) fun t56 =>
 (guardD t56 false
 (lock binD prog .eql 5 t40 (.pv (.int .u8 47)) fun t60 =>
 (J90_15 env  (b1_a) (t40) (t42) (t60) σ7 K X))
 (J90_15 env  (b1_a) (t40) (t42) (.pv (.bool true)) σ7 K X)))
 (J90_15 env  (b1_a) (t40) (t42) (.pv (.bool true)) σ7 K X)))))) (panV X)))) (panV X)))))) (panV X)))))
theorem S90_eq (env : Env) (l0_a b1_a : AV) (σ : AS) (K : AV → AS → Prop) (X : PV → AS → Prop) : S90 env l0_a b1_a σ K X = bodyD prog env an90 f90 [l0_a, b1_a] σ K X := by
  unfold S90
  simp only [L90_4_eq]
  kernel_rfl
theorem S90_ok : (match f90.body with | some c => okCode an90 prog f90.ntmps c | none => false) = true := by kernel_rfl
/-! ### (*tedder/lex.lexer).inEre (function 92) -/
def an92 : An := { mu := [], cut := [], loop := [] }
def S92 (env : Env) (l0_a b1_a : AV) (σ : AS) (K : AV → AS → Prop) (X : PV → AS → Prop) : Prop :=
 (lock nilD l0_a fun t6 =>
 (lock fieldAddrD prog 72 t6 0 fun t7 =>
 (lock loadD prog σ 9 t7 fun t8 =>
 (lock indexD prog 9 t8 (.pv (.int .i64 0)) fun t9 =>
 (lock binD prog .eql 5 t9 (.pv (.int .u8 10)) fun t10 =>
 (condD t10
 (retV (.tuple []) σ K)
 (env 84 [l0_a, (.pv (.int .i64 1))] σ (fun t12 σ1 =>
 (lock indexD prog 9 t12 (.pv (.int .i64 0)) fun t13 =>
 (lock binD prog .neq 5 t13 (.pv (.int .u8 47)) fun t15 =>
 (condD t15
 (env 47 [b1_a, (.pv (.int .u8 92))] σ1 (fun t17 σ2 =>
 (env 47 [b1_a, t13] σ2 (fun t20 σ3 =>
 (retV (.tuple []) σ3 K)) (panV X))) (panV X))
 (env 47 [b1_a, t13] σ1 (fun t20 σ4 =>
 (retV (.tuple []) σ4 K)) (panV X)))))) (panV X))))))))
theorem S92_eq (env : Env) (l0_a b1_a : AV) (σ : AS) (K : AV → AS → Prop) (X : PV → AS → Prop) : S92 env l0_a b1_a σ K X = bodyD prog env an92 f92 [l0_a, b1_a] σ K X := by
  unfold S92
  kernel_rfl
theorem S92_ok : (match f92.body with | some c => okCode an92 prog f92.ntmps c | none => false) = true := by kernel_rfl
/-! ### (*tedder/lex.lexer).quoted (function 89) -/
def an89 : An := { mu := [], cut := [(3, [0, 1, 2, 8])], loop := [(2, [0, 1, 2, 8])] }
def J89_3 (env : Env) (I2 : Nat → List AV → AS → Prop) (m2 : Nat) (l0_j3 end1_j3 escape2_j3 b8_j3 : AV) (σ : AS) (K : AV → AS → Prop) (X : PV → AS → Prop) : Prop :=
 (env 84 [l0_j3, (.pv (.int .i64 1))] σ (fun t24 σ3 =>
 (lock indexD prog 9 t24 (.pv (.int .i64 0)) fun t25 =>
 (lock binD prog .eql 5 t25 end1_j3 fun t31 =>
 (condD t31
 (env 48 [b8_j3] σ3 (fun t32 σ4 =>
 (retV (.tuple [t32, (.pv (.bool true))]) σ4 K)) (panV X))
 (lock binD prog .neq 5 t25 (.pv (.int .u8 92)) fun t35 =>
 (condD t35
 (env 47 [b8_j3, t25] σ3 (fun t37 σ5 =>
 (∃ m', m' < m2 ∧ I2 m' [l0_j3, end1_j3, escape2_j3, b8_j3] σ5)) (panV X))
 (lock nilD l0_j3 fun t40 =>
 (lock fieldAddrD prog 72 t40 0 fun t41 =>
 (lock loadD prog σ3 9 t41 fun t42 =>
 (lock binD prog .eql 9 t42 (.pv (.str [])) fun t43 =>
 (condD t43
 (retV (.tuple [(.pv (.str [])), (.pv (.bool false))]) σ3 K)
 (callD env escape2_j3 [b8_j3] σ3 (fun t27 σ6 =>
 (∃ m', m' < m2 ∧ I2 m' [l0_j3, end1_j3, escape2_j3, b8_j3] σ6)) (panV X))))))))))))) (panV X))
theorem J89_3_eq (env : Env) (I2 : Nat → List AV → AS → Prop) (m2 : Nat) (l0_j3 end1_j3 escape2_j3 b8_j3 : AV) (σ : AS) (K : AV → AS → Prop) (X : PV → AS → Prop) : J89_3 env I2 m2 l0_j3 end1_j3 escape2_j3 b8_j3 σ K X = wpD prog env an89 (subC (bodyC f89) [1, 1, 0, 0, 0, 1]) (contQ prog env an89 (bodyC f89) [1, 1, 0, 0, 0, 1] [(I2, m2)] (rootQ prog f89 K X)) [(0, l0_j3), (1, end1_j3), (2, escape2_j3), (8, b8_j3)] σ := by
  unfold J89_3
  kernel_rfl
def L89_2 (env : Env) (I2 : Nat → List AV → AS → Prop) (m2 : Nat) (l0_l2 end1_l2 escape2_l2 b8_l2 : AV) (σ : AS) (K : AV → AS → Prop) (X : PV → AS → Prop) : Prop :=
 (lock nilD l0_l2 fun t11 =>
 (lock fieldAddrD prog 72 t11 0 fun t12 =>
 (lock loadD prog σ 9 t12 fun t13 =>
 (lock binD prog .neq 9 t13 (.pv (.str [])) fun t14 =>
 (guardD t14 true
 (lock nilD l0_l2 fun t17 =>
 (lock fieldAddrD prog 72 t17 0 fun t18 =>
 (lock loadD prog σ 9 t18 fun t19 =>
 (lock indexD prog 9 t19 (.pv (.int .i64 0)) fun t20 =>
 (lock binD prog .neq 5 t20 (.pv (.int .u8 10)) fun t21 =>
 (condD t21
 (J89_3 env I2 m2 (l0_l2) (end1_l2) (escape2_l2) (b8_l2) σ K X)
 (retV (.tuple [(.pv (.str [])), (.pv (.bool false))]) σ K)))))))
 (retV (.tuple [(.pv (.str [])), (.pv (.bool false))]) σ K))))))
theorem L89_2_eq (env : Env) (I2 : Nat → List AV → AS → Prop) (m2 : Nat) (l0_l2 end1_l2 escape2_l2 b8_l2 : AV) (σ : AS) (K : AV → AS → Prop) (X : PV → AS → Prop) : L89_2 env I2 m2 l0_l2 end1_l2 escape2_l2 b8_l2 σ K X = wpD prog env an89 (subC (bodyC f89) [1, 1, 0, 0, 0]) (contQ prog env an89 (bodyC f89) [1, 1, 0, 0, 0] [(I2, m2)] (rootQ prog f89 K X)) [(0, l0_l2), (1, end1_l2), (2, escape2_l2), (8, b8_l2)] σ := by
  unfold L89_2
  kernel_rfl
theorem lp89_2 {α : Type} {env : Env}  {l0_l2 end1_l2 escape2_l2 b8_l2 : AV} {σ : AS} {K : AV → AS → Prop} {X : PV → AS → Prop} (μ : α → AS → Nat) (I : α → AS → Prop) (a0 : α) (h0 : I a0 σ)
 (h : ∀ a σ, I a σ → L89_2 env  (Inv (fun a => [l0_l2, end1_l2, escape2_l2, b8_l2]) μ I) (μ a σ) l0_l2 end1_l2 escape2_l2 b8_l2 σ K X) :
 ∃ I2 : Nat → List AV → AS → Prop, (∃ m, I2 m [l0_l2, end1_l2, escape2_l2, b8_l2] σ) ∧ ∀ (m : Nat) (x0 x1 x2 x3 : AV), ∀ σ, I2 m [x0, x1, x2, x3] σ →
 L89_2 env  I2 m x0 x1 x2 x3 σ K X := by
  refine ⟨Inv (fun a => [l0_l2, end1_l2, escape2_l2, b8_l2]) μ I, ⟨_, a0, rfl, rfl, h0⟩, ?_⟩
  rintro m x0 x1 x2 x3 σ' ⟨a, hv, rfl, hI⟩
  simp only [List.cons.injEq, and_true] at hv
  obtain ⟨rfl, rfl, rfl, rfl⟩ := hv
  exact h a σ' hI
def S89 (env : Env) (l0_a end1_a escape2_a : AV) (σ : AS) (K : AV → AS → Prop) (X : PV → AS → Prop) : Prop :=
 (lock allocD prog σ 75 fun t8 σ1 =>
 (∃ I2 : Nat → List AV → AS → Prop, (∃ m, I2 m [l0_a, end1_a, escape2_a, t8] σ1) ∧ ∀ (m2 : Nat) (l0_l2 end1_l2 escape2_l2 b8_l2 : AV), ∀ σ2, I2 m2 [l0_l2, end1_l2, escape2_l2, b8_l2] σ2 →
 (L89_2 env I2 m2 l0_l2 end1_l2 escape2_l2 b8_l2 σ2 K X)))
theorem S89_eq (env : Env) (l0_a end1_a escape2_a : AV) (σ : AS) (K : AV → AS → Prop) (X : PV → AS → Prop) : S89 env l0_a end1_a escape2_a σ K X = bodyD prog env an89 f89 [l0_a, end1_a, escape2_a] σ K X := by
  unfold S89
  simp only [L89_2_eq]
  kernel_rfl
theorem S89_ok : (match f89.body with | some c => okCode an89 prog f89.ntmps c | none => false) = true := by kernel_rfl
/-! ### (*tedder/lex.lexer).token (function 45) -/
def an45 : An := { mu := [], cut := [(5, [0, 3, 4, 19]), (21, [0, 3, 77]), (28, [0, 3, 103])], loop := [] }
def J45_28 (env : Env)  (l0_j28 c3_j28 t103_j28 : AV) (σ : AS) (K : AV → AS → Prop) (X : PV → AS → Prop) : Prop :=
 (condD t103_j28
 (env 84 [l0_j28, (.pv (.int .i64 2))] σ (fun t120 σ21 =>
 (env 88 [l0_j28, (.pv (.str [111, 112])), t120] σ21 (fun t121 σ22 =>
 (retV ((.pv (.bool true))) σ22 K)) (panV X))) (panV X))
 (env 24 [(.pv (.str [123, 125, 40, 41, 91, 93, 59, 44, 43, 45, 42, 47, 37, 94, 33, 62, 60, 63, 58, 126, 36, 61])), c3_j28] σ (fun t124 σ23 =>
 (lock binD prog .geq 3 t124 (.pv (.int .i64 0)) fun t125 =>
 (condD t125
 (env 84 [l0_j28, (.pv (.int .i64 1))] σ23 (fun t128 σ24 =>
 (env 88 [l0_j28, (.pv (.str [111, 112])), t128] σ24 (fun t129 σ25 =>
 (retV ((.pv (.bool true))) σ25 K)) (panV X))) (panV X))
 (retV ((.pv (.bool false))) σ23 K)))) (panV X)))
theorem J45_28_eq (env : Env)  (l0_j28 c3_j28 t103_j28 : AV) (σ : AS) (K : AV → AS → Prop) (X : PV → AS → Prop) : J45_28 env  l0_j28 c3_j28 t103_j28 σ K X = wpD prog env an45 (subC (bodyC f45) [1, 1, 1, 0, 0, 1, 1, 1, 1, 1, 1, 1, 1, 1, 1, 1, 1, 1, 1, 1, 1, 1]) (contQ prog env an45 (bodyC f45) [1, 1, 1, 0, 0, 1, 1, 1, 1, 1, 1, 1, 1, 1, 1, 1, 1, 1, 1, 1, 1, 1] [] (rootQ prog f45 K X)) [(0, l0_j28), (3, c3_j28), (103, t103_j28)] σ := by
  unfold J45_28
  kernel_rfl
def J45_21 (env : Env)  (l0_j21 c3_j21 t77_j21 : AV) (σ : AS) (K : AV → AS → Prop) (X : PV → AS → Prop) : Prop :=
 (condD t77_j21
 (env 84 [l0_j21, (.pv (.int .i64 1))] σ (fun t86 σ15 =>
 (env 89 [l0_j21, (.pv (.int .u8 47)), (.clo 92 [l0_j21] [])] σ15 (fun t91 σ16 =>
 (lock extractD t91 0 fun t92 =>
 (lock extractD t91 1 fun t93 =>
 (env 88 [l0_j21, (.pv (.str [101, 114, 101])), t92] σ16 (fun t96 σ17 =>
 (retV (t93) σ17 K)) (panV X))))) (panV X))) (panV X))
 (env 93 [c3_j21] σ (fun t100 σ18 =>
 (condD t100
 (env 94 [l0_j21] σ18 (fun t102 σ19 =>
 (retV (t102) σ19 K)) (panV X))
 (lock nilD l0_j21 fun t105 =>
 (lock fieldAddrD prog 72 t105 0 fun t106 =>
 (lock loadD prog σ18 9 t106 fun t107 =>
 (lock lenD prog 9 t107 fun t108 =>
 (lock binD prog .gtr 3 t108 (.pv (.int .i64 1)) fun t109 =>
 (guardD t109 true
 (lock nilD l0_j21 fun t112 =>
 (lock fieldAddrD prog 72 t112 0 fun t113 =>
 (lock loadD prog σ18 9 t113 fun t114 =>
 (lock sliceD prog 9 t114 none (some (.pv (.int .i64 2))) fun t115 =>
 (env 95 [(.pv (.str [32, 62, 62, 32, 33, 126, 32, 43, 61, 32, 45, 61, 32, 42, 61, 32, 47, 61, 32, 37, 61, 32, 94, 61, 32, 61, 61, 32, 60, 61, 32, 62, 61, 32, 33, 61, 32, 43, 43, 32, 45, 45, 32, 38, 38, 32, 124, 124, 32])), t115] σ18 (fun t116 σ20 =>
 (J45_28 env  (l0_j21) (c3_j21) (t116) σ20 K X)) (panV X))))))
 (J45_28 env  (l0_j21) (c3_j21) (.pv (.bool false)) σ18 K X))))))))) (panV X)))
theorem J45_21_eq (env : Env)  (l0_j21 c3_j21 t77_j21 : AV) (σ : AS) (K : AV → AS → Prop) (X : PV → AS → Prop) : J45_21 env  l0_j21 c3_j21 t77_j21 σ K X = wpD prog env an45 (subC (bodyC f45) [1, 1, 1, 0, 0, 1, 1, 1, 1, 1, 1, 1, 1, 1, 1, 1, 1, 1]) (contQ prog env an45 (bodyC f45) [1, 1, 1, 0, 0, 1, 1, 1, 1, 1, 1, 1, 1, 1, 1, 1, 1, 1] [] (rootQ prog f45 K X)) [(0, l0_j21), (3, c3_j21), (77, t77_j21)] σ := by
  unfold J45_21
  kernel_rfl
def J45_5 (env : Env)  (l0_j5 c3_j5 n4_j5 t19_j5 : AV) (σ : AS) (K : AV → AS → Prop) (X : PV → AS → Prop) : Prop :=
 (condD t19_j5
 (env 84 [l0_j5, (.pv (.int .i64 1))] σ (fun t27 σ2 =>
 (retV ((.pv (.bool true))) σ2 K)) (panV X))
 (lock nilD l0_j5 fun t30 =>
 (lock fieldAddrD prog 72 t30 0 fun t31 =>
 (lock loadD prog σ 9 t31 fun t32 =>
 (env 85 [t32, (.pv (.str [92, 10]))] σ (fun t33 σ3 =>
 (condD t33
 (env 84 [l0_j5, (.pv (.int .i64 2))] σ3 (fun t35 σ4 =>
 (retV ((.pv (.bool true))) σ4 K)) (panV X))
 (lock binD prog .eql 5 c3_j5 (.pv (.int .u8 35)) fun t38 =>
 (condD t38
 (lock nilD l0_j5 fun t41 =>
 (lock fieldAddrD prog 72 t41 0 fun t42 =>
 (lock loadD prog σ3 9 t42 fun t43 =>
 (env 86 [t43, (.pv (.func 87))] σ3 (fun t44 σ5 =>
 (env 84 [l0_j5, t44] σ5 (fun t45 σ6 =>
 (retV ((.pv (.bool true))) σ6 K)) (panV X))) (panV X)))))
 (lock binD prog .eql 5 c3_j5 (.pv (.int .u8 10)) fun t48 =>
 (condD t48
 (env 84 [l0_j5, (.pv (.int .i64 1))] σ3 (fun t50 σ7 =>
 (env 88 [l0_j5, (.pv (.str [110, 108])), (.pv (.str []))] σ7 (fun t52 σ8 =>
 (retV ((.pv (.bool true))) σ8 K)) (panV X))) (panV X))
 (lock binD prog .gtr 3 n4_j5 (.pv (.int .i64 0)) fun t55 =>
 (condD t55
 (env 84 [l0_j5, n4_j5] σ3 (fun t59 σ9 =>
 (env 88 [l0_j5, (.pv (.str [110, 117, 109])), t59] σ9 (fun t60 σ10 =>
 (retV ((.pv (.bool true))) σ10 K)) (panV X))) (panV X))
 (lock binD prog .eql 5 c3_j5 (.pv (.int .u8 34)) fun t63 =>
 (condD t63
 (env 84 [l0_j5, (.pv (.int .i64 1))] σ3 (fun t65 σ11 =>
 (env 89 [l0_j5, (.pv (.int .u8 34)), (.clo 90 [l0_j5] [])] σ11 (fun t70 σ12 =>
 (lock extractD t70 0 fun t71 =>
 (lock extractD t70 1 fun t72 =>
 (env 88 [l0_j5, (.pv (.str [115, 116, 114])), t71] σ12 (fun t75 σ13 =>
 (retV (t72) σ13 K)) (panV X))))) (panV X))) (panV X))
 (lock binD prog .eql 5 c3_j5 (.pv (.int .u8 47)) fun t79 =>
 (guardD t79 true
 (env 91 [l0_j5] σ3 (fun t82 σ14 =>
 (unD .not t82 fun t83 =>
 (J45_21 env  (l0_j5) (c3_j5) (t83) σ14 K X))) (panV X))
 (J45_21 env  (l0_j5) (c3_j5) (.pv (.bool false)) σ3 K X))))))))))))) (panV X))))))
theorem J45_5_eq (env : Env)  (l0_j5 c3_j5 n4_j5 t19_j5 : AV) (σ : AS) (K : AV → AS → Prop) (X : PV → AS → Prop) : J45_5 env  l0_j5 c3_j5 n4_j5 t19_j5 σ K X = wpD prog env an45 (subC (bodyC f45) [1, 1, 1, 0, 0, 1]) (contQ prog env an45 (bodyC f45) [1, 1, 1, 0, 0, 1] [] (rootQ prog f45 K X)) [(0, l0_j5), (3, c3_j5), (4, n4_j5), (19, t19_j5)] σ := by
  unfold J45_5
  kernel_rfl
def S45 (env : Env) (l0_a : AV) (σ : AS) (K : AV → AS → Prop) (X : PV → AS → Prop) : Prop :=
 (lock nilD l0_a fun t10 =>
 (lock fieldAddrD prog 72 t10 0 fun t11 =>
 (lock loadD prog σ 9 t11 fun t12 =>
 (lock indexD prog 9 t12 (.pv (.int .i64 0)) fun t13 =>
 (lock nilD l0_a fun t15 =>
 (lock fieldAddrD prog 72 t15 0 fun t16 =>
 (lock loadD prog σ 9 t16 fun t17 =>
 (env 83 [t17] σ (fun t18 σ1 =>
 (lock binD prog .eql 5 t13 (.pv (.int .u8 32)) fun t21 =>
 (guardD t21 false
 (lock binD prog .eql 5 t13 (.pv (.int .u8 9)) fun t24 =>
 (J45_5 env  (l0_a) (t13) (t18) (t24) σ1 K X))
 (J45_5 env  (l0_a) (t13) (t18) (.pv (.bool true)) σ1 K X)))) (panV X)))))))))
theorem S45_eq (env : Env) (l0_a : AV) (σ : AS) (K : AV → AS → Prop) (X : PV → AS → Prop) : S45 env l0_a σ K X = bodyD prog env an45 f45 [l0_a] σ K X := by
  unfold S45
  kernel_rfl
theorem S45_ok : (match f45.body with | some c => okCode an45 prog f45.ntmps c | none => false) = true := by kernel_rfl
/-! ### tedder/lex.Lex (function 27) -/
def an27 : An := { mu := [], cut := [(4, [4]), (5, [4, 5])], loop := [(3, [4, 5])] }
def J27_4 (env : Env) (I3 : Nat → List AV → AS → Prop) (m3 : Nat) (l4_j4 : AV) (σ : AS) (K : AV → AS → Prop) (X : PV → AS → Prop) : Prop :=
 (env 45 [l4_j4] σ (fun t21 σ3 =>
 (guardD t21 true
 (lock nilD l4_j4 fun t24 =>
 (lock fieldAddrD prog 72 t24 1 fun t25 =>
 (lock loadD prog σ3 47 t25 fun t26 =>
 (lock lenD prog 47 t26 fun t27 =>
 (lock binD prog .leq 3 t27 (.pv (.int .i64 20000)) fun t28 =>
 (∃ m', m' < m3 ∧ I3 m' [l4_j4, t28] σ3))))))
 (∃ m', m' < m3 ∧ I3 m' [l4_j4, (.pv (.bool false))] σ3))) (panV X))
theorem J27_4_eq (env : Env) (I3 : Nat → List AV → AS → Prop) (m3 : Nat) (l4_j4 : AV) (σ : AS) (K : AV → AS → Prop) (X : PV → AS → Prop) : J27_4 env I3 m3 l4_j4 σ K X = wpD prog env an27 (subC (bodyC f27) [1, 1, 1, 0, 0, 0, 1]) (contQ prog env an27 (bodyC f27) [1, 1, 1, 0, 0, 0, 1] [(I3, m3)] (rootQ prog f27 K X)) [(4, l4_j4)] σ := by
  unfold J27_4
  kernel_rfl
def J27_5 (env : Env)  (l4_j5 ok5_j5 : AV) (σ : AS) (K : AV → AS → Prop) (X : PV → AS → Prop) : Prop :=
 (unD .not ok5_j5 fun t31 =>
 (condD t31
 (retV (.tuple [(.nilS), (.pv (.bool false))]) σ K)
 (lock nilD l4_j5 fun t33 =>
 (lock fieldAddrD prog 72 t33 1 fun t34 =>
 (lock loadD prog σ 47 t34 fun t35 =>
 (retV (.tuple [t35, (.pv (.bool true))]) σ K))))))
theorem J27_5_eq (env : Env)  (l4_j5 ok5_j5 : AV) (σ : AS) (K : AV → AS → Prop) (X : PV → AS → Prop) : J27_5 env  l4_j5 ok5_j5 σ K X = wpD prog env an27 (subC (bodyC f27) [1, 1, 1, 1]) (contQ prog env an27 (bodyC f27) [1, 1, 1, 1] [] (rootQ prog f27 K X)) [(4, l4_j5), (5, ok5_j5)] σ := by
  unfold J27_5
  kernel_rfl
def L27_3 (env : Env) (I3 : Nat → List AV → AS → Prop) (m3 : Nat) (l4_l3 ok5_l3 : AV) (σ : AS) (K : AV → AS → Prop) (X : PV → AS → Prop) : Prop :=
 (guardD ok5_l3 true
 (lock nilD l4_l3 fun t15 =>
 (lock fieldAddrD prog 72 t15 0 fun t16 =>
 (lock loadD prog σ 9 t16 fun t17 =>
 (lock binD prog .neq 9 t17 (.pv (.str [])) fun t18 =>
 (condD t18
 (J27_4 env I3 m3 (l4_l3) σ K X)
 (J27_5 env  (l4_l3) (ok5_l3) σ K X))))))
 (J27_5 env  (l4_l3) (ok5_l3) σ K X))
theorem L27_3_eq (env : Env) (I3 : Nat → List AV → AS → Prop) (m3 : Nat) (l4_l3 ok5_l3 : AV) (σ : AS) (K : AV → AS → Prop) (X : PV → AS → Prop) : L27_3 env I3 m3 l4_l3 ok5_l3 σ K X = wpD prog env an27 (subC (bodyC f27) [1, 1, 1, 0, 0, 0]) (contQ prog env an27 (bodyC f27) [1, 1, 1, 0, 0, 0] [(I3, m3)] (rootQ prog f27 K X)) [(4, l4_l3), (5, ok5_l3)] σ := by
  unfold L27_3
  kernel_rfl
theorem lp27_3 {α : Type} {env : Env}  {l4_l3 : AV} {σ : AS} {K : AV → AS → Prop} {X : PV → AS → Prop} (μ : α → AS → Nat) (I : α → AS → Prop) (eok5_l3 : α → AV) (a0 : α) (h0 : I a0 σ)
 (h : ∀ a σ, I a σ → L27_3 env  (Inv (fun a => [l4_l3, eok5_l3 a]) μ I) (μ a σ) l4_l3 (eok5_l3 a) σ K X) :
 ∃ I3 : Nat → List AV → AS → Prop, (∃ m, I3 m [l4_l3, eok5_l3 a0] σ) ∧ ∀ (m : Nat) (x0 x1 : AV), ∀ σ, I3 m [x0, x1] σ →
 L27_3 env  I3 m x0 x1 σ K X := by
  refine ⟨Inv (fun a => [l4_l3, eok5_l3 a]) μ I, ⟨_, a0, rfl, rfl, h0⟩, ?_⟩
  rintro m x0 x1 σ' ⟨a, hv, rfl, hI⟩
  simp only [List.cons.injEq, and_true] at hv
  obtain ⟨rfl, rfl⟩ := hv
  exact h a σ' hI
def S27 (env : Env) (s0_a : AV) (σ : AS) (K : AV → AS → Prop) (X : PV → AS → Prop) : Prop :=
 (lock buildD prog 72 [(0, s0_a)] fun t7 =>
 (lock boxD σ t7 fun t8 σ1 =>
 (lock lenD prog 9 s0_a fun t10 =>
 (lock binD prog .leq 3 t10 (.pv (.int .i64 65536)) fun t11 =>
 (∃ I3 : Nat → List AV → AS → Prop, (∃ m, I3 m [t8, t11] σ1) ∧ ∀ (m3 : Nat) (l4_l3 ok5_l3 : AV), ∀ σ2, I3 m3 [l4_l3, ok5_l3] σ2 →
 (L27_3 env I3 m3 l4_l3 ok5_l3 σ2 K X))))))
theorem S27_eq (env : Env) (s0_a : AV) (σ : AS) (K : AV → AS → Prop) (X : PV → AS → Prop) : S27 env s0_a σ K X = bodyD prog env an27 f27 [s0_a] σ K X := by
  unfold S27
  simp only [L27_3_eq]
  kernel_rfl
theorem S27_ok : (match f27.body with | some c => okCode an27 prog f27.ntmps c | none => false) = true := by kernel_rfl
end Go.AD
