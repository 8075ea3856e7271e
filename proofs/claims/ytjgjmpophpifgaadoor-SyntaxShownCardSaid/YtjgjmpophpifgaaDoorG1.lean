/- Bodies in the calculus' own words. Printed by gen.py, a program of this claim's own. -/
import Derived.Test.YtjgjmpophpifgaaDoorTy
set_option linter.unusedVariables false
set_option maxRecDepth 100000
namespace Go.AD
open Go.Proofs.Tryd
/-! ### tedder/lex.digit (function 112) -/
def an112 : An := { mu := [], cut := [], loop := [] }
def S112 (env : Env) (c0_a : AV) (σ : AS) (K : AV → AS → Prop) (X : PV → AS → Prop) : Prop :=
 (lock binD prog .leq 5 (.pv (.int .u8 48)) c0_a fun t4 =>
 (guardD t4 true
 (lock binD prog .leq 5 c0_a (.pv (.int .u8 57)) fun t7 =>
 (retV (t7) σ K))
 (retV ((.pv (.bool false))) σ K)))
theorem S112_eq (env : Env) (c0_a : AV) (σ : AS) (K : AV → AS → Prop) (X : PV → AS → Prop) : S112 env c0_a σ K X = bodyD prog env an112 f112 [c0_a] σ K X := by
  unfold S112
  kernel_rfl
theorem S112_ok : (match f112.body with | some c => okCode an112 prog f112.ntmps c | none => false) = true := by kernel_rfl
/-! ### tedder/lex.octal (function 114) -/
def an114 : An := { mu := [], cut := [], loop := [] }
def S114 (env : Env) (c0_a : AV) (σ : AS) (K : AV → AS → Prop) (X : PV → AS → Prop) : Prop :=
 (lock binD prog .leq 5 (.pv (.int .u8 48)) c0_a fun t4 =>
 (guardD t4 true
 (lock binD prog .leq 5 c0_a (.pv (.int .u8 55)) fun t7 =>
 (retV (t7) σ K))
 (retV ((.pv (.bool false))) σ K)))
theorem S114_eq (env : Env) (c0_a : AV) (σ : AS) (K : AV → AS → Prop) (X : PV → AS → Prop) : S114 env c0_a σ K X = bodyD prog env an114 f114 [c0_a] σ K X := by
  unfold S114
  kernel_rfl
theorem S114_ok : (match f114.body with | some c => okCode an114 prog f114.ntmps c | none => false) = true := by kernel_rfl
/-! ### tedder/lex.letter (function 93) -/
def an93 : An := { mu := [], cut := [], loop := [] }
def S93 (env : Env) (c0_a : AV) (σ : AS) (K : AV → AS → Prop) (X : PV → AS → Prop) : Prop :=
 (lock binD prog .or 5 c0_a (.pv (.int .u8 32)) fun t4 =>
 (lock binD prog .leq 5 (.pv (.int .u8 97)) t4 fun t5 =>
 (guardD t5 true
 (lock binD prog .or 5 c0_a (.pv (.int .u8 32)) fun t8 =>
 (lock binD prog .leq 5 t8 (.pv (.int .u8 122)) fun t9 =>
 (guardD t9 false
 (lock binD prog .eql 5 c0_a (.pv (.int .u8 95)) fun t13 =>
 (retV (t13) σ K))
 (retV ((.pv (.bool true))) σ K))))
 (lock binD prog .eql 5 c0_a (.pv (.int .u8 95)) fun t13 =>
 (retV (t13) σ K)))))
theorem S93_eq (env : Env) (c0_a : AV) (σ : AS) (K : AV → AS → Prop) (X : PV → AS → Prop) : S93 env c0_a σ K X = bodyD prog env an93 f93 [c0_a] σ K X := by
  unfold S93
  kernel_rfl
theorem S93_ok : (match f93.body with | some c => okCode an93 prog f93.ntmps c | none => false) = true := by kernel_rfl
/-! ### tedder/lex.inner (function 115) -/
def an115 : An := { mu := [], cut := [], loop := [] }
def S115 (env : Env) (c0_a : AV) (σ : AS) (K : AV → AS → Prop) (X : PV → AS → Prop) : Prop :=
 (env 93 [c0_a] σ (fun t4 σ1 =>
 (guardD t4 false
 (env 112 [c0_a] σ1 (fun t7 σ2 =>
 (retV (t7) σ2 K)) (panV X))
 (retV ((.pv (.bool true))) σ1 K))) (panV X))
theorem S115_eq (env : Env) (c0_a : AV) (σ : AS) (K : AV → AS → Prop) (X : PV → AS → Prop) : S115 env c0_a σ K X = bodyD prog env an115 f115 [c0_a] σ K X := by
  unfold S115
  kernel_rfl
theorem S115_ok : (match f115.body with | some c => okCode an115 prog f115.ntmps c | none => false) = true := by kernel_rfl
/-! ### (*tedder/lex.lexer).token$1 (function 87) -/
def an87 : An := { mu := [], cut := [], loop := [] }
def S87 (env : Env) (c0_a : AV) (σ : AS) (K : AV → AS → Prop) (X : PV → AS → Prop) : Prop :=
 (lock binD prog .neq 5 c0_a (.pv (.int .u8 10)) fun t4 =>
 (retV (t4) σ K))
theorem S87_eq (env : Env) (c0_a : AV) (σ : AS) (K : AV → AS → Prop) (X : PV → AS → Prop) : S87 env c0_a σ K X = bodyD prog env an87 f87 [c0_a] σ K X := by
  unfold S87
  kernel_rfl
theorem S87_ok : (match f87.body with | some c => okCode an87 prog f87.ntmps c | none => false) = true := by kernel_rfl
/-! ### tedder/lex.span (function 86) -/
def an86 : An := { mu := [], cut := [], loop := [(2, [0, 1, 5])] }
def L86_2 (env : Env) (I2 : Nat → List AV → AS → Prop) (m2 : Nat) (s0_l2 is1_l2 n5_l2 : AV) (σ : AS) (K : AV → AS → Prop) (X : PV → AS → Prop) : Prop :=
 (lock lenD prog 9 s0_l2 fun t8 =>
 (lock binD prog .lss 3 n5_l2 t8 fun t9 =>
 (guardD t9 true
 (lock indexD prog 9 s0_l2 n5_l2 fun t14 =>
 (callD env is1_l2 [t14] σ (fun t15 σ2 =>
 (condD t15
 (lock binD prog .add 3 n5_l2 (.pv (.int .i64 1)) fun t18 =>
 (∃ m', m' < m2 ∧ I2 m' [s0_l2, is1_l2, t18] σ2))
 (retV (n5_l2) σ2 K))) (panV X)))
 (retV (n5_l2) σ K))))
theorem L86_2_eq (env : Env) (I2 : Nat → List AV → AS → Prop) (m2 : Nat) (s0_l2 is1_l2 n5_l2 : AV) (σ : AS) (K : AV → AS → Prop) (X : PV → AS → Prop) : L86_2 env I2 m2 s0_l2 is1_l2 n5_l2 σ K X = wpD prog env an86 (subC (bodyC f86) [1, 1, 0, 0, 0]) (contQ prog env an86 (bodyC f86) [1, 1, 0, 0, 0] [(I2, m2)] (rootQ prog f86 K X)) [(0, s0_l2), (1, is1_l2), (5, n5_l2)] σ := by
  unfold L86_2
  kernel_rfl
theorem lp86_2 {α : Type} {env : Env}  {s0_l2 is1_l2 : AV} {σ : AS} {K : AV → AS → Prop} {X : PV → AS → Prop} (μ : α → AS → Nat) (I : α → AS → Prop) (en5_l2 : α → AV) (a0 : α) (h0 : I a0 σ)
 (h : ∀ a σ, I a σ → L86_2 env  (Inv (fun a => [s0_l2, is1_l2, en5_l2 a]) μ I) (μ a σ) s0_l2 is1_l2 (en5_l2 a) σ K X) :
 ∃ I2 : Nat → List AV → AS → Prop, (∃ m, I2 m [s0_l2, is1_l2, en5_l2 a0] σ) ∧ ∀ (m : Nat) (x0 x1 x2 : AV), ∀ σ, I2 m [x0, x1, x2] σ →
 L86_2 env  I2 m x0 x1 x2 σ K X := by
  refine ⟨Inv (fun a => [s0_l2, is1_l2, en5_l2 a]) μ I, ⟨_, a0, rfl, rfl, h0⟩, ?_⟩
  rintro m x0 x1 x2 σ' ⟨a, hv, rfl, hI⟩
  simp only [List.cons.injEq, and_true] at hv
  obtain ⟨rfl, rfl, rfl⟩ := hv
  exact h a σ' hI
def S86 (env : Env) (s0_a is1_a : AV) (σ : AS) (K : AV → AS → Prop) (X : PV → AS → Prop) : Prop :=
 (∃ I2 : Nat → List AV → AS → Prop, (∃ m, I2 m [s0_a, is1_a, (.pv (.int .i64 0))] σ) ∧ ∀ (m2 : Nat) (s0_l2 is1_l2 n5_l2 : AV), ∀ σ1, I2 m2 [s0_l2, is1_l2, n5_l2] σ1 →
 (L86_2 env I2 m2 s0_l2 is1_l2 n5_l2 σ1 K X))
theorem S86_eq (env : Env) (s0_a is1_a : AV) (σ : AS) (K : AV → AS → Prop) (X : PV → AS → Prop) : S86 env s0_a is1_a σ K X = bodyD prog env an86 f86 [s0_a, is1_a] σ K X := by
  unfold S86
  simp only [L86_2_eq]
  kernel_rfl
theorem S86_ok : (match f86.body with | some c => okCode an86 prog f86.ntmps c | none => false) = true := by kernel_rfl
/-! ### tedder/lex.number (function 83) -/
def an83 : An := { mu := [], cut := [(4, [0, 3, 4, 20]), (7, [0, 3, 4]), (10, [0, 3, 49]), (13, [0, 3, 6])], loop := [] }
def J83_13 (env : Env)  (s0_j13 n3_j13 at6_j13 : AV) (σ : AS) (K : AV → AS → Prop) (X : PV → AS → Prop) : Prop :=
 (lock sliceD prog 9 s0_j13 (some at6_j13) none fun t72 =>
 (env 86 [t72, (.pv (.func 112))] σ (fun t73 σ3 =>
 (lock binD prog .gtr 3 t73 (.pv (.int .i64 0)) fun t75 =>
 (condD t75
 (lock binD prog .add 3 at6_j13 t73 fun t78 =>
 (retV (t78) σ3 K))
 (retV (n3_j13) σ3 K)))) (panV X)))
theorem J83_13_eq (env : Env)  (s0_j13 n3_j13 at6_j13 : AV) (σ : AS) (K : AV → AS → Prop) (X : PV → AS → Prop) : J83_13 env  s0_j13 n3_j13 at6_j13 σ K X = wpD prog env an83 (subC (bodyC f83) [1, 1, 1, 1, 1, 0, 1, 0, 1, 1]) (contQ prog env an83 (bodyC f83) [1, 1, 1, 1, 1, 0, 1, 0, 1, 1] [] (rootQ prog f83 K X)) [(0, s0_j13), (3, n3_j13), (6, at6_j13)] σ := by
  unfold J83_13
  kernel_rfl
def J83_10 (env : Env)  (s0_j10 n3_j10 t49_j10 : AV) (σ : AS) (K : AV → AS → Prop) (X : PV → AS → Prop) : Prop :=
 (condD t49_j10
 (lock binD prog .add 3 n3_j10 (.pv (.int .i64 1)) fun t51 =>
 (lock lenD prog 9 s0_j10 fun t54 =>
 (lock binD prog .lss 3 t51 t54 fun t55 =>
 (guardD t55 true
 (lock indexD prog 9 s0_j10 t51 fun t59 =>
 (lock binD prog .eql 5 t59 (.pv (.int .u8 43)) fun t60 =>
 (guardD t60 false
 (lock indexD prog 9 s0_j10 t51 fun t64 =>
 (lock binD prog .eql 5 t64 (.pv (.int .u8 45)) fun t65 =>
 (condD t65
 (lock binD prog .add 3 t51 (.pv (.int .i64 1)) fun t69 =>
 (J83_13 env  (s0_j10) (n3_j10) (t69) σ K X))
 (J83_13 env  (s0_j10) (n3_j10) (t51) σ K X))))
 (lock binD prog .add 3 t51 (.pv (.int .i64 1)) fun t69 =>
 (J83_13 env  (s0_j10) (n3_j10) (t69) σ K X)))))
 (J83_13 env  (s0_j10) (n3_j10) (t51) σ K X)))))
 (retV (n3_j10) σ K))
theorem J83_10_eq (env : Env)  (s0_j10 n3_j10 t49_j10 : AV) (σ : AS) (K : AV → AS → Prop) (X : PV → AS → Prop) : J83_10 env  s0_j10 n3_j10 t49_j10 σ K X = wpD prog env an83 (subC (bodyC f83) [1, 1, 1, 1, 1, 0, 1]) (contQ prog env an83 (bodyC f83) [1, 1, 1, 1, 1, 0, 1] [] (rootQ prog f83 K X)) [(0, s0_j10), (3, n3_j10), (49, t49_j10)] σ := by
  unfold J83_10
  kernel_rfl
def J83_7 (env : Env)  (s0_j7 n3_j7 some4_j7 : AV) (σ : AS) (K : AV → AS → Prop) (X : PV → AS → Prop) : Prop :=
 (lock binD prog .eql 3 some4_j7 (.pv (.int .i64 0)) fun t38 =>
 (condD t38
 (retV ((.pv (.int .i64 0))) σ K)
 (lock lenD prog 9 s0_j7 fun t41 =>
 (lock binD prog .lss 3 n3_j7 t41 fun t42 =>
 (guardD t42 true
 (lock indexD prog 9 s0_j7 n3_j7 fun t46 =>
 (lock binD prog .or 5 t46 (.pv (.int .u8 32)) fun t47 =>
 (lock binD prog .eql 5 t47 (.pv (.int .u8 101)) fun t48 =>
 (J83_10 env  (s0_j7) (n3_j7) (t48) σ K X))))
 (J83_10 env  (s0_j7) (n3_j7) (.pv (.bool false)) σ K X))))))
theorem J83_7_eq (env : Env)  (s0_j7 n3_j7 some4_j7 : AV) (σ : AS) (K : AV → AS → Prop) (X : PV → AS → Prop) : J83_7 env  s0_j7 n3_j7 some4_j7 σ K X = wpD prog env an83 (subC (bodyC f83) [1, 1, 1, 1]) (contQ prog env an83 (bodyC f83) [1, 1, 1, 1] [] (rootQ prog f83 K X)) [(0, s0_j7), (3, n3_j7), (4, some4_j7)] σ := by
  unfold J83_7
  kernel_rfl
def J83_4 (env : Env)  (s0_j4 n3_j4 some4_j4 t20_j4 : AV) (σ : AS) (K : AV → AS → Prop) (X : PV → AS → Prop) : Prop :=
 (condD t20_j4
 (lock binD prog .add 3 n3_j4 (.pv (.int .i64 1)) fun t23 =>
 (lock sliceD prog 9 s0_j4 (some t23) none fun t24 =>
 (env 86 [t24, (.pv (.func 112))] σ (fun t25 σ2 =>
 (lock binD prog .add 3 some4_j4 t25 fun t28 =>
 (lock binD prog .gtr 3 t28 (.pv (.int .i64 0)) fun t29 =>
 (condD t29
 (lock binD prog .add 3 n3_j4 (.pv (.int .i64 1)) fun t31 =>
 (lock binD prog .add 3 t31 t25 fun t33 =>
 (lock binD prog .add 3 some4_j4 t25 fun t36 =>
 (J83_7 env  (s0_j4) (t33) (t36) σ2 K X))))
 (J83_7 env  (s0_j4) (n3_j4) (some4_j4) σ2 K X))))) (panV X))))
 (J83_7 env  (s0_j4) (n3_j4) (some4_j4) σ K X))
theorem J83_4_eq (env : Env)  (s0_j4 n3_j4 some4_j4 t20_j4 : AV) (σ : AS) (K : AV → AS → Prop) (X : PV → AS → Prop) : J83_4 env  s0_j4 n3_j4 some4_j4 t20_j4 σ K X = wpD prog env an83 (subC (bodyC f83) [1, 1, 1, 0, 1]) (contQ prog env an83 (bodyC f83) [1, 1, 1, 0, 1] [] (rootQ prog f83 K X)) [(0, s0_j4), (3, n3_j4), (4, some4_j4), (20, t20_j4)] σ := by
  unfold J83_4
  kernel_rfl
def S83 (env : Env) (s0_a : AV) (σ : AS) (K : AV → AS → Prop) (X : PV → AS → Prop) : Prop :=
 (env 86 [s0_a, (.pv (.func 112))] σ (fun t9 σ1 =>
 (lock lenD prog 9 s0_a fun t13 =>
 (lock binD prog .lss 3 t9 t13 fun t14 =>
 (guardD t14 true
 (lock indexD prog 9 s0_a t9 fun t18 =>
 (lock binD prog .eql 5 t18 (.pv (.int .u8 46)) fun t19 =>
 (J83_4 env  (s0_a) (t9) (t9) (t19) σ1 K X)))
 (J83_4 env  (s0_a) (t9) (t9) (.pv (.bool false)) σ1 K X))))) (panV X))
theorem S83_eq (env : Env) (s0_a : AV) (σ : AS) (K : AV → AS → Prop) (X : PV → AS → Prop) : S83 env s0_a σ K X = bodyD prog env an83 f83 [s0_a] σ K X := by
  unfold S83
  kernel_rfl
theorem S83_ok : (match f83.body with | some c => okCode an83 prog f83.ntmps c | none => false) = true := by kernel_rfl
/-! ### (*tedder/lex.lexer).take (function 84) -/
def an84 : An := { mu := [], cut := [], loop := [] }
def S84 (env : Env) (l0_a n1_a : AV) (σ : AS) (K : AV → AS → Prop) (X : PV → AS → Prop) : Prop :=
 (lock nilD l0_a fun t7 =>
 (lock fieldAddrD prog 72 t7 0 fun t8 =>
 (lock loadD prog σ 9 t8 fun t9 =>
 (lock sliceD prog 9 t9 none (some n1_a) fun t11 =>
 (lock nilD l0_a fun t14 =>
 (lock fieldAddrD prog 72 t14 0 fun t15 =>
 (lock loadD prog σ 9 t15 fun t16 =>
 (lock sliceD prog 9 t16 (some n1_a) none fun t18 =>
 (lock nilD l0_a fun t19 =>
 (lock fieldAddrD prog 72 t19 0 fun t20 =>
 (lock storeD prog σ 9 t20 t18 fun σ1 =>
 (retV (t11) σ1 K))))))))))))
theorem S84_eq (env : Env) (l0_a n1_a : AV) (σ : AS) (K : AV → AS → Prop) (X : PV → AS → Prop) : S84 env l0_a n1_a σ K X = bodyD prog env an84 f84 [l0_a, n1_a] σ K X := by
  unfold S84
  kernel_rfl
theorem S84_ok : (match f84.body with | some c => okCode an84 prog f84.ntmps c | none => false) = true := by kernel_rfl
/-! ### (*tedder/lex.lexer).put (function 88) -/
def an88 : An := { mu := [], cut := [], loop := [] }
def S88 (env : Env) (l0_a kind1_a text2_a : AV) (σ : AS) (K : AV → AS → Prop) (X : PV → AS → Prop) : Prop :=
 (lock nilD l0_a fun t8 =>
 (lock fieldAddrD prog 72 t8 1 fun t9 =>
 (lock loadD prog σ 47 t9 fun t10 =>
 (lock buildD prog 52 [(0, kind1_a), (1, text2_a)] fun t13 =>
 (lock buildSliceD prog false σ 47 1 1 [(0, t13)] fun t14 σ1 =>
 (lock appendD prog false σ1 47 t10 t14 fun t15 σ2 =>
 (lock nilD l0_a fun t16 =>
 (lock fieldAddrD prog 72 t16 1 fun t17 =>
 (lock storeD prog σ2 47 t17 t15 fun σ3 =>
 (retV (.tuple []) σ3 K))))))))))
theorem S88_eq (env : Env) (l0_a kind1_a text2_a : AV) (σ : AS) (K : AV → AS → Prop) (X : PV → AS → Prop) : S88 env l0_a kind1_a text2_a σ K X = bodyD prog env an88 f88 [l0_a, kind1_a, text2_a] σ K X := by
  unfold S88
  kernel_rfl
theorem S88_ok : (match f88.body with | some c => okCode an88 prog f88.ntmps c | none => false) = true := by kernel_rfl
/-! ### tedder/lex.listed (function 95) -/
def an95 : An := { mu := [], cut := [], loop := [] }
def S95 (env : Env) (list0_a w1_a : AV) (σ : AS) (K : AV → AS → Prop) (X : PV → AS → Prop) : Prop :=
 (lock binD prog .add 9 (.pv (.str [32])) w1_a fun t7 =>
 (lock binD prog .add 9 t7 (.pv (.str [32])) fun t8 =>
 (env 116 [list0_a, t8] σ (fun t9 σ1 =>
 (retV (t9) σ1 K)) (panV X))))
theorem S95_eq (env : Env) (list0_a w1_a : AV) (σ : AS) (K : AV → AS → Prop) (X : PV → AS → Prop) : S95 env list0_a w1_a σ K X = bodyD prog env an95 f95 [list0_a, w1_a] σ K X := by
  unfold S95
  kernel_rfl
theorem S95_ok : (match f95.body with | some c => okCode an95 prog f95.ntmps c | none => false) = true := by kernel_rfl
/-! ### (*tedder/lex.lexer).operand (function 91) -/
def an91 : An := { mu := [], cut := [(9, [3, 23, 24])], loop := [], any := [3] }
def J91_9 (env : Env)  (t3_j9 t23_j9 t24_j9 : AV) (σ : AS) (K : AV → AS → Prop) (X : PV → AS → Prop) : Prop :=
 (condD t24_j9
 (retV ((.pv (.bool true))) σ K)
 (lock binD prog .eql 9 t23_j9 (.pv (.str [98, 117, 105, 108, 116])) fun t30 =>
 (condD t30
 (lock fieldAddrD prog 52 t3_j9 1 fun t31 =>
 (lock loadD prog σ 9 t31 fun t32 =>
 (lock binD prog .eql 9 t32 (.pv (.str [108, 101, 110, 103, 116, 104])) fun t33 =>
 (retV (t33) σ K))))
 (lock binD prog .eql 9 t23_j9 (.pv (.str [111, 112])) fun t35 =>
 (condD t35
 (lock fieldAddrD prog 52 t3_j9 1 fun t36 =>
 (lock loadD prog σ 9 t36 fun t37 =>
 (env 95 [(.pv (.str [32, 41, 32, 93, 32, 36, 32, 43, 43, 32, 45, 45, 32])), t37] σ (fun t38 σ3 =>
 (retV (t38) σ3 K)) (panV X))))
 (retV ((.pv (.bool false))) σ K))))))
theorem J91_9_eq (env : Env)  (t3_j9 t23_j9 t24_j9 : AV) (σ : AS) (K : AV → AS → Prop) (X : PV → AS → Prop) : J91_9 env  t3_j9 t23_j9 t24_j9 σ K X = wpD prog env an91 (subC (bodyC f91) [1, 1, 0, 1, 1, 0, 1]) (contQ prog env an91 (bodyC f91) [1, 1, 0, 1, 1, 0, 1] [] (rootQ prog f91 K X)) [(3, t3_j9), (23, t23_j9), (24, t24_j9)] σ := by
  unfold J91_9
  kernel_rfl
def S91 (env : Env) (l0_a : AV) (σ : AS) (K : AV → AS → Prop) (X : PV → AS → Prop) : Prop :=
 (lock nilD l0_a fun t5 =>
 (lock fieldAddrD prog 72 t5 1 fun t6 =>
 (lock loadD prog σ 47 t6 fun t7 =>
 (lock lenD prog 47 t7 fun t8 =>
 (lock binD prog .eql 3 t8 (.pv (.int .i64 0)) fun t9 =>
 (condD t9
 (retV ((.pv (.bool false))) σ K)
 (lock nilD l0_a fun t11 =>
 (lock fieldAddrD prog 72 t11 1 fun t12 =>
 (lock nilD l0_a fun t15 =>
 (lock fieldAddrD prog 72 t15 1 fun t16 =>
 ((lock loadD prog σ 47 t12 fun t13 =>
 ((lock loadD prog σ 47 t16 fun t17 =>
 (lock lenD prog 47 t17 fun t18 =>
 (lock binD prog .sub 3 t18 (.pv (.int .i64 1)) fun t19 =>
 (lock indexAddrD prog 47 t13 t19 fun t20 =>
 ((lock loadD prog σ 52 t20 fun t21 =>
 ((lock allocD prog σ 52 fun t3 σ15 =>
 ((lock storeD prog σ15 52 t3 t21 fun σ16 =>
 (lock fieldAddrD prog 52 t3 0 fun t22 =>
 (lock loadD prog σ16 9 t22 fun t23 =>
 (lock binD prog .eql 9 t23 (.pv (.str [110, 117, 109])) fun t25 =>
 (condD t25
 (J91_9 env  (t3) (t23) (t25) σ16 K X)
 (lock binD prog .eql 9 t23 (.pv (.str [115, 116, 114])) fun t26 =>
 (condD t26
 (J91_9 env  (t3) (t23) (t26) σ16 K X)
 (lock binD prog .eql 9 t23 (.pv (.str [101, 114, 101])) fun t27 =>
 (condD t27
 (J91_9 env  (t3) (t23) (t27) σ16 K X)
 (lock binD prog .eql 9 t23 (.pv (.str [110, 97, 109, 101])) fun t28 =>
 (J91_9 env  (t3) (t23) (t28) σ16 K X))))))))))) ∧ True)) ∧ True)) ∧ ((lock allocD prog σ 52 fun t3 σ13 =>
 ((lock loadD prog σ13 52 t20 fun t21 =>
 ((lock storeD prog σ13 52 t3 t21 fun σ14 =>
 (lock fieldAddrD prog 52 t3 0 fun t22 =>
 (lock loadD prog σ14 9 t22 fun t23 =>
 (lock binD prog .eql 9 t23 (.pv (.str [110, 117, 109])) fun t25 =>
 (condD t25
 (J91_9 env  (t3) (t23) (t25) σ14 K X)
 (lock binD prog .eql 9 t23 (.pv (.str [115, 116, 114])) fun t26 =>
 (condD t26
 (J91_9 env  (t3) (t23) (t26) σ14 K X)
 (lock binD prog .eql 9 t23 (.pv (.str [101, 114, 101])) fun t27 =>
 (condD t27
 (J91_9 env  (t3) (t23) (t27) σ14 K X)
 (lock binD prog .eql 9 t23 (.pv (.str [110, 97, 109, 101])) fun t28 =>
 (J91_9 env  (t3) (t23) (t28) σ14 K X))))))))))) ∧ True)) ∧ True)) ∧ True)))))) ∧ ((lock allocD prog σ 52 fun t3 σ11 =>
 ((lock loadD prog σ11 47 t16 fun t17 =>
 (lock lenD prog 47 t17 fun t18 =>
 (lock binD prog .sub 3 t18 (.pv (.int .i64 1)) fun t19 =>
 (lock indexAddrD prog 47 t13 t19 fun t20 =>
 ((lock loadD prog σ11 52 t20 fun t21 =>
 ((lock storeD prog σ11 52 t3 t21 fun σ12 =>
 (lock fieldAddrD prog 52 t3 0 fun t22 =>
 (lock loadD prog σ12 9 t22 fun t23 =>
 (lock binD prog .eql 9 t23 (.pv (.str [110, 117, 109])) fun t25 =>
 (condD t25
 (J91_9 env  (t3) (t23) (t25) σ12 K X)
 (lock binD prog .eql 9 t23 (.pv (.str [115, 116, 114])) fun t26 =>
 (condD t26
 (J91_9 env  (t3) (t23) (t26) σ12 K X)
 (lock binD prog .eql 9 t23 (.pv (.str [101, 114, 101])) fun t27 =>
 (condD t27
 (J91_9 env  (t3) (t23) (t27) σ12 K X)
 (lock binD prog .eql 9 t23 (.pv (.str [110, 97, 109, 101])) fun t28 =>
 (J91_9 env  (t3) (t23) (t28) σ12 K X))))))))))) ∧ True)) ∧ True))))) ∧ True)) ∧ True))) ∧ ((lock loadD prog σ 47 t16 fun t17 =>
 (lock lenD prog 47 t17 fun t18 =>
 (lock binD prog .sub 3 t18 (.pv (.int .i64 1)) fun t19 =>
 ((lock loadD prog σ 47 t12 fun t13 =>
 (lock indexAddrD prog 47 t13 t19 fun t20 =>
 ((lock loadD prog σ 52 t20 fun t21 =>
 ((lock allocD prog σ 52 fun t3 σ9 =>
 ((lock storeD prog σ9 52 t3 t21 fun σ10 =>
 (lock fieldAddrD prog 52 t3 0 fun t22 =>
 (lock loadD prog σ10 9 t22 fun t23 =>
 (lock binD prog .eql 9 t23 (.pv (.str [110, 117, 109])) fun t25 =>
 (condD t25
 (J91_9 env  (t3) (t23) (t25) σ10 K X)
 (lock binD prog .eql 9 t23 (.pv (.str [115, 116, 114])) fun t26 =>
 (condD t26
 (J91_9 env  (t3) (t23) (t26) σ10 K X)
 (lock binD prog .eql 9 t23 (.pv (.str [101, 114, 101])) fun t27 =>
 (condD t27
 (J91_9 env  (t3) (t23) (t27) σ10 K X)
 (lock binD prog .eql 9 t23 (.pv (.str [110, 97, 109, 101])) fun t28 =>
 (J91_9 env  (t3) (t23) (t28) σ10 K X))))))))))) ∧ True)) ∧ True)) ∧ ((lock allocD prog σ 52 fun t3 σ7 =>
 ((lock loadD prog σ7 52 t20 fun t21 =>
 ((lock storeD prog σ7 52 t3 t21 fun σ8 =>
 (lock fieldAddrD prog 52 t3 0 fun t22 =>
 (lock loadD prog σ8 9 t22 fun t23 =>
 (lock binD prog .eql 9 t23 (.pv (.str [110, 117, 109])) fun t25 =>
 (condD t25
 (J91_9 env  (t3) (t23) (t25) σ8 K X)
 (lock binD prog .eql 9 t23 (.pv (.str [115, 116, 114])) fun t26 =>
 (condD t26
 (J91_9 env  (t3) (t23) (t26) σ8 K X)
 (lock binD prog .eql 9 t23 (.pv (.str [101, 114, 101])) fun t27 =>
 (condD t27
 (J91_9 env  (t3) (t23) (t27) σ8 K X)
 (lock binD prog .eql 9 t23 (.pv (.str [110, 97, 109, 101])) fun t28 =>
 (J91_9 env  (t3) (t23) (t28) σ8 K X))))))))))) ∧ True)) ∧ True)) ∧ True)))) ∧ ((lock allocD prog σ 52 fun t3 σ5 =>
 ((lock loadD prog σ5 47 t12 fun t13 =>
 (lock indexAddrD prog 47 t13 t19 fun t20 =>
 ((lock loadD prog σ5 52 t20 fun t21 =>
 ((lock storeD prog σ5 52 t3 t21 fun σ6 =>
 (lock fieldAddrD prog 52 t3 0 fun t22 =>
 (lock loadD prog σ6 9 t22 fun t23 =>
 (lock binD prog .eql 9 t23 (.pv (.str [110, 117, 109])) fun t25 =>
 (condD t25
 (J91_9 env  (t3) (t23) (t25) σ6 K X)
 (lock binD prog .eql 9 t23 (.pv (.str [115, 116, 114])) fun t26 =>
 (condD t26
 (J91_9 env  (t3) (t23) (t26) σ6 K X)
 (lock binD prog .eql 9 t23 (.pv (.str [101, 114, 101])) fun t27 =>
 (condD t27
 (J91_9 env  (t3) (t23) (t27) σ6 K X)
 (lock binD prog .eql 9 t23 (.pv (.str [110, 97, 109, 101])) fun t28 =>
 (J91_9 env  (t3) (t23) (t28) σ6 K X))))))))))) ∧ True)) ∧ True))) ∧ True)) ∧ True))))) ∧ ((lock allocD prog σ 52 fun t3 σ1 =>
 ((lock loadD prog σ1 47 t12 fun t13 =>
 ((lock loadD prog σ1 47 t16 fun t17 =>
 (lock lenD prog 47 t17 fun t18 =>
 (lock binD prog .sub 3 t18 (.pv (.int .i64 1)) fun t19 =>
 (lock indexAddrD prog 47 t13 t19 fun t20 =>
 ((lock loadD prog σ1 52 t20 fun t21 =>
 ((lock storeD prog σ1 52 t3 t21 fun σ4 =>
 (lock fieldAddrD prog 52 t3 0 fun t22 =>
 (lock loadD prog σ4 9 t22 fun t23 =>
 (lock binD prog .eql 9 t23 (.pv (.str [110, 117, 109])) fun t25 =>
 (condD t25
 (J91_9 env  (t3) (t23) (t25) σ4 K X)
 (lock binD prog .eql 9 t23 (.pv (.str [115, 116, 114])) fun t26 =>
 (condD t26
 (J91_9 env  (t3) (t23) (t26) σ4 K X)
 (lock binD prog .eql 9 t23 (.pv (.str [101, 114, 101])) fun t27 =>
 (condD t27
 (J91_9 env  (t3) (t23) (t27) σ4 K X)
 (lock binD prog .eql 9 t23 (.pv (.str [110, 97, 109, 101])) fun t28 =>
 (J91_9 env  (t3) (t23) (t28) σ4 K X))))))))))) ∧ True)) ∧ True))))) ∧ True)) ∧ ((lock loadD prog σ1 47 t16 fun t17 =>
 (lock lenD prog 47 t17 fun t18 =>
 (lock binD prog .sub 3 t18 (.pv (.int .i64 1)) fun t19 =>
 ((lock loadD prog σ1 47 t12 fun t13 =>
 (lock indexAddrD prog 47 t13 t19 fun t20 =>
 ((lock loadD prog σ1 52 t20 fun t21 =>
 ((lock storeD prog σ1 52 t3 t21 fun σ2 =>
 (lock fieldAddrD prog 52 t3 0 fun t22 =>
 (lock loadD prog σ2 9 t22 fun t23 =>
 (lock binD prog .eql 9 t23 (.pv (.str [110, 117, 109])) fun t25 =>
 (condD t25
 (J91_9 env  (t3) (t23) (t25) σ2 K X)
 (lock binD prog .eql 9 t23 (.pv (.str [115, 116, 114])) fun t26 =>
 (condD t26
 (J91_9 env  (t3) (t23) (t26) σ2 K X)
 (lock binD prog .eql 9 t23 (.pv (.str [101, 114, 101])) fun t27 =>
 (condD t27
 (J91_9 env  (t3) (t23) (t27) σ2 K X)
 (lock binD prog .eql 9 t23 (.pv (.str [110, 97, 109, 101])) fun t28 =>
 (J91_9 env  (t3) (t23) (t28) σ2 K X))))))))))) ∧ True)) ∧ True))) ∧ True)))) ∧ True))) ∧ True)))))))))))))
theorem S91_eq (env : Env) (l0_a : AV) (σ : AS) (K : AV → AS → Prop) (X : PV → AS → Prop) : S91 env l0_a σ K X = bodyD prog env an91 f91 [l0_a] σ K X := by
  unfold S91
  kernel_rfl
theorem S91_ok : (match f91.body with | some c => okCode an91 prog f91.ntmps c | none => false) = true := by kernel_rfl
/-! ### (*tedder/lex.lexer).name (function 94) -/
def an94 : An := { mu := [], cut := [], loop := [] }
def S94 (env : Env) (l0_a : AV) (σ : AS) (K : AV → AS → Prop) (X : PV → AS → Prop) : Prop :=
 (lock nilD l0_a fun t6 =>
 (lock fieldAddrD prog 72 t6 0 fun t7 =>
 (lock loadD prog σ 9 t7 fun t8 =>
 (env 86 [t8, (.pv (.func 115))] σ (fun t9 σ1 =>
 (env 84 [l0_a, t9] σ1 (fun t10 σ2 =>
 (env 95 [(.pv (.str [32, 103, 101, 116, 108, 105, 110, 101, 32, 115, 121, 115, 116, 101, 109, 32, 99, 108, 111, 115, 101, 32, 102, 102, 108, 117, 115, 104, 32, 110, 101, 120, 116, 102, 105, 108, 101, 32, 114, 97, 110, 100, 32, 115, 114, 97, 110, 100, 32, 115, 105, 110, 32, 99, 111, 115, 32, 97, 116, 97, 110, 50, 32, 101, 120, 112, 32, 108, 111, 103, 32, 115, 113, 114, 116, 32, 102, 117, 110, 99, 32, 69, 78, 86, 73, 82, 79, 78, 32, 65, 82, 71, 86, 32, 65, 82, 71, 67, 32])), t10] σ2 (fun t16 σ3 =>
 (condD t16
 (retV ((.pv (.bool false))) σ3 K)
 (env 95 [(.pv (.str [32, 66, 69, 71, 73, 78, 32, 69, 78, 68, 32, 102, 117, 110, 99, 116, 105, 111, 110, 32, 100, 101, 108, 101, 116, 101, 32, 105, 110, 32, 105, 102, 32, 101, 108, 115, 101, 32, 119, 104, 105, 108, 101, 32, 100, 111, 32, 102, 111, 114, 32, 98, 114, 101, 97, 107, 32, 99, 111, 110, 116, 105, 110, 117, 101, 32, 110, 101, 120, 116, 32, 101, 120, 105, 116, 32, 114, 101, 116, 117, 114, 110, 32, 112, 114, 105, 110, 116, 32, 112, 114, 105, 110, 116, 102, 32])), t10] σ3 (fun t19 σ4 =>
 (condD t19
 (env 88 [l0_a, (.pv (.str [119, 111, 114, 100])), t10] σ4 (fun t22 σ5 =>
 (retV ((.pv (.bool true))) σ5 K)) (panV X))
 (env 95 [(.pv (.str [32, 108, 101, 110, 103, 116, 104, 32, 115, 117, 98, 115, 116, 114, 32, 105, 110, 100, 101, 120, 32, 115, 112, 108, 105, 116, 32, 115, 117, 98, 32, 103, 115, 117, 98, 32, 109, 97, 116, 99, 104, 32, 115, 112, 114, 105, 110, 116, 102, 32, 116, 111, 108, 111, 119, 101, 114, 32, 116, 111, 117, 112, 112, 101, 114, 32, 105, 110, 116, 32])), t10] σ4 (fun t25 σ6 =>
 (condD t25
 (env 88 [l0_a, (.pv (.str [98, 117, 105, 108, 116])), t10] σ6 (fun t28 σ7 =>
 (retV ((.pv (.bool true))) σ7 K)) (panV X))
 (lock nilD l0_a fun t31 =>
 (lock fieldAddrD prog 72 t31 0 fun t32 =>
 (lock loadD prog σ6 9 t32 fun t33 =>
 (env 85 [t33, (.pv (.str [40]))] σ6 (fun t34 σ8 =>
 (condD t34
 (env 88 [l0_a, (.pv (.str [102, 117, 110, 99])), t10] σ8 (fun t37 σ9 =>
 (retV ((.pv (.bool true))) σ9 K)) (panV X))
 (env 88 [l0_a, (.pv (.str [110, 97, 109, 101])), t10] σ8 (fun t13 σ10 =>
 (retV ((.pv (.bool true))) σ10 K)) (panV X)))) (panV X))))))) (panV X)))) (panV X)))) (panV X))) (panV X))) (panV X)))))
theorem S94_eq (env : Env) (l0_a : AV) (σ : AS) (K : AV → AS → Prop) (X : PV → AS → Prop) : S94 env l0_a σ K X = bodyD prog env an94 f94 [l0_a] σ K X := by
  unfold S94
  kernel_rfl
theorem S94_ok : (match f94.body with | some c => okCode an94 prog f94.ntmps c | none => false) = true := by kernel_rfl
end Go.AD
