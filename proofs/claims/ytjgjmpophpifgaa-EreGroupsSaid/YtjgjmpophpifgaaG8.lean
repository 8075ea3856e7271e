/- Bodies in the calculus' own words. Printed by gen.py, a program of this claim's own. -/
import Derived.Test.YtjgjmpophpifgaaTy
set_option linter.unusedVariables false
set_option maxRecDepth 100000
namespace Go.AD
/-! ### (*tedder/ere.reader).group (function 66) -/
def an66 : An := { mu := [], cut := [(4, [0, 2]), (7, [0, 2, 3])], loop := [] }
def J66_7 (env : Env)  (r0_j7 t2_j7 e3_j7 : AV) (σ : AS) (K : AV → AS → Prop) (X : PV → AS → Prop) : Prop :=
 (lock nilD r0_j7 fun t24 =>
 (lock fieldAddrD Go.Proofs.Try.prog 54 t24 1 fun t25 =>
 (lock loadD Go.Proofs.Try.prog σ 3 t25 fun t26 =>
 (lock binD Go.Proofs.Try.prog .sub 3 t26 (.pv (.int .i64 1)) fun t27 =>
 (lock nilD r0_j7 fun t28 =>
 (lock fieldAddrD Go.Proofs.Try.prog 54 t28 1 fun t29 =>
 (lock storeD Go.Proofs.Try.prog σ 3 t29 t27 fun σ7 =>
 (lock loadD Go.Proofs.Try.prog σ7 34 e3_j7 fun t30 =>
 (lock storeD Go.Proofs.Try.prog σ7 34 t2_j7 t30 fun σ8 =>
 (lock loadD Go.Proofs.Try.prog σ8 34 t2_j7 fun r0 =>
 (retV (r0) σ8 K)))))))))))
theorem J66_7_eq (env : Env)  (r0_j7 t2_j7 e3_j7 : AV) (σ : AS) (K : AV → AS → Prop) (X : PV → AS → Prop) : J66_7 env  r0_j7 t2_j7 e3_j7 σ K X = wpD Go.Proofs.Try.prog env an66 (subC (bodyC Go.Proofs.Try.f66) [1, 1, 1, 1]) (contQ Go.Proofs.Try.prog env an66 (bodyC Go.Proofs.Try.f66) [1, 1, 1, 1] [] (rootQ Go.Proofs.Try.prog Go.Proofs.Try.f66 K X)) [(0, r0_j7), (2, t2_j7), (3, e3_j7)] σ := by
  unfold J66_7
  kernel_rfl
def J66_4 (env : Env)  (r0_j4 t2_j4 : AV) (σ : AS) (K : AV → AS → Prop) (X : PV → AS → Prop) : Prop :=
 (env 31 [r0_j4] σ (fun t18 σ3 =>
 (lock allocD Go.Proofs.Try.prog σ3 34 fun t3 σ4 =>
 (lock storeD Go.Proofs.Try.prog σ4 34 t3 t18 fun σ5 =>
 (env 48 [r0_j4, (.pv (.str [41]))] σ5 (fun t20 σ6 =>
 (unD .not t20 fun t21 =>
 (condD t21
 (lock ifaceD Go.Proofs.Try.prog 51 (.pv (.int .i64 1)) fun t22 =>
 (lock panicD σ6 t22 (panV X)))
 (J66_7 env  (r0_j4) (t2_j4) (t3) σ6 K X)))) (panV X))))) (panV X))
theorem J66_4_eq (env : Env)  (r0_j4 t2_j4 : AV) (σ : AS) (K : AV → AS → Prop) (X : PV → AS → Prop) : J66_4 env  r0_j4 t2_j4 σ K X = wpD Go.Proofs.Try.prog env an66 (subC (bodyC Go.Proofs.Try.f66) [1, 1]) (contQ Go.Proofs.Try.prog env an66 (bodyC Go.Proofs.Try.f66) [1, 1] [] (rootQ Go.Proofs.Try.prog Go.Proofs.Try.f66 K X)) [(0, r0_j4), (2, t2_j4)] σ := by
  unfold J66_4
  kernel_rfl
def S66 (env : Env) (r0_a : AV) (σ : AS) (K : AV → AS → Prop) (X : PV → AS → Prop) : Prop :=
 (lock allocD Go.Proofs.Try.prog σ 34 fun t2 σ1 =>
 (lock nilD r0_a fun t5 =>
 (lock fieldAddrD Go.Proofs.Try.prog 54 t5 1 fun t6 =>
 (lock loadD Go.Proofs.Try.prog σ1 3 t6 fun t7 =>
 (lock binD Go.Proofs.Try.prog .add 3 t7 (.pv (.int .i64 1)) fun t8 =>
 (lock nilD r0_a fun t9 =>
 (lock fieldAddrD Go.Proofs.Try.prog 54 t9 1 fun t10 =>
 (lock storeD Go.Proofs.Try.prog σ1 3 t10 t8 fun σ2 =>
 (lock nilD r0_a fun t12 =>
 (lock fieldAddrD Go.Proofs.Try.prog 54 t12 1 fun t13 =>
 (lock loadD Go.Proofs.Try.prog σ2 3 t13 fun t14 =>
 (lock binD Go.Proofs.Try.prog .gtr 3 t14 (.pv (.int .i64 100)) fun t15 =>
 (condD t15
 (lock ifaceD Go.Proofs.Try.prog 51 (.pv (.int .i64 1)) fun t16 =>
 (lock panicD σ2 t16 (panV X)))
 (J66_4 env  (r0_a) (t2) σ2 K X))))))))))))))
theorem S66_eq (env : Env) (r0_a : AV) (σ : AS) (K : AV → AS → Prop) (X : PV → AS → Prop) : S66 env r0_a σ K X = bodyD Go.Proofs.Try.prog env an66 Go.Proofs.Try.f66 [r0_a] σ K X := by
  unfold S66
  kernel_rfl
theorem S66_ok : (match Go.Proofs.Try.f66.body with | some c => okCode an66 Go.Proofs.Try.prog Go.Proofs.Try.f66.ntmps c | none => false) = true := by kernel_rfl
/-! ### (*tedder/ere.reader).atom (function 60) -/
def an60 : An := { mu := [], cut := [(16, [2, 3])], loop := [] }
def J60_16 (env : Env)  (t2_j16 c3_j16 : AV) (σ : AS) (K : AV → AS → Prop) (X : PV → AS → Prop) : Prop :=
 (lock buildSliceD Go.Proofs.Try.prog false σ 50 1 1 [(0, c3_j16)] fun t42 σ13 =>
 (lock convD Go.Proofs.Try.prog σ13 50 9 t42 fun t43 =>
 (lock buildD Go.Proofs.Try.prog 34 [(0, (.pv (.str [115, 101, 116]))), (1, t43)] fun t44 =>
 (lock storeD Go.Proofs.Try.prog σ13 34 t2_j16 t44 fun σ14 =>
 (lock loadD Go.Proofs.Try.prog σ14 34 t2_j16 fun r0 =>
 (retV (r0) σ14 K))))))
theorem J60_16_eq (env : Env)  (t2_j16 c3_j16 : AV) (σ : AS) (K : AV → AS → Prop) (X : PV → AS → Prop) : J60_16 env  t2_j16 c3_j16 σ K X = wpD Go.Proofs.Try.prog env an60 (subC (bodyC Go.Proofs.Try.f60) [1, 1, 1, 1]) (contQ Go.Proofs.Try.prog env an60 (bodyC Go.Proofs.Try.f60) [1, 1, 1, 1] [] (rootQ Go.Proofs.Try.prog Go.Proofs.Try.f60 K X)) [(2, t2_j16), (3, c3_j16)] σ := by
  unfold J60_16
  kernel_rfl
def S60 (env : Env) (r0_a : AV) (σ : AS) (K : AV → AS → Prop) (X : PV → AS → Prop) : Prop :=
 (lock allocD Go.Proofs.Try.prog σ 34 fun t2 σ1 =>
 (lock nilD r0_a fun t5 =>
 (lock fieldAddrD Go.Proofs.Try.prog 54 t5 0 fun t6 =>
 (lock loadD Go.Proofs.Try.prog σ1 9 t6 fun t7 =>
 (lock indexD Go.Proofs.Try.prog 9 t7 (.pv (.int .i64 0)) fun t8 =>
 (lock nilD r0_a fun t11 =>
 (lock fieldAddrD Go.Proofs.Try.prog 54 t11 0 fun t12 =>
 (lock loadD Go.Proofs.Try.prog σ1 9 t12 fun t13 =>
 (lock sliceD Go.Proofs.Try.prog 9 t13 (some (.pv (.int .i64 1))) none fun t14 =>
 (lock nilD r0_a fun t15 =>
 (lock fieldAddrD Go.Proofs.Try.prog 54 t15 0 fun t16 =>
 (lock storeD Go.Proofs.Try.prog σ1 9 t16 t14 fun σ2 =>
 (lock binD Go.Proofs.Try.prog .eql 5 t8 (.pv (.int .u8 40)) fun t19 =>
 (condD t19
 (env 66 [r0_a] σ2 (fun t21 σ3 =>
 (lock storeD Go.Proofs.Try.prog σ3 34 t2 t21 fun σ4 =>
 (lock loadD Go.Proofs.Try.prog σ4 34 t2 fun r0 =>
 (retV (r0) σ4 K)))) (panV X))
 (lock binD Go.Proofs.Try.prog .eql 5 t8 (.pv (.int .u8 91)) fun t23 =>
 (condD t23
 (env 67 [r0_a] σ2 (fun t25 σ5 =>
 (lock storeD Go.Proofs.Try.prog σ5 34 t2 t25 fun σ6 =>
 (lock loadD Go.Proofs.Try.prog σ6 34 t2 fun r0 =>
 (retV (r0) σ6 K)))) (panV X))
 (lock binD Go.Proofs.Try.prog .eql 5 t8 (.pv (.int .u8 94)) fun t27 =>
 (condD t27
 (lock buildD Go.Proofs.Try.prog 34 [(0, (.pv (.str [98, 111, 108])))] fun t28 =>
 (lock storeD Go.Proofs.Try.prog σ2 34 t2 t28 fun σ7 =>
 (lock loadD Go.Proofs.Try.prog σ7 34 t2 fun r0 =>
 (retV (r0) σ7 K))))
 (lock binD Go.Proofs.Try.prog .eql 5 t8 (.pv (.int .u8 36)) fun t30 =>
 (condD t30
 (lock buildD Go.Proofs.Try.prog 34 [(0, (.pv (.str [101, 111, 108])))] fun t31 =>
 (lock storeD Go.Proofs.Try.prog σ2 34 t2 t31 fun σ8 =>
 (lock loadD Go.Proofs.Try.prog σ8 34 t2 fun r0 =>
 (retV (r0) σ8 K))))
 (lock binD Go.Proofs.Try.prog .eql 5 t8 (.pv (.int .u8 46)) fun t33 =>
 (condD t33
 (lock allocD Go.Proofs.Try.prog σ2 83 fun t34 σ9 =>
 (env 68 [t34, (.pv (.bool false))] σ9 (fun t35 σ10 =>
 (lock buildD Go.Proofs.Try.prog 34 [(0, (.pv (.str [115, 101, 116]))), (1, t35)] fun t36 =>
 (lock storeD Go.Proofs.Try.prog σ10 34 t2 t36 fun σ11 =>
 (lock loadD Go.Proofs.Try.prog σ11 34 t2 fun r0 =>
 (retV (r0) σ11 K))))) (panV X)))
 (lock binD Go.Proofs.Try.prog .eql 5 t8 (.pv (.int .u8 92)) fun t38 =>
 (condD t38
 (env 69 [r0_a] σ2 (fun t40 σ12 =>
 (J60_16 env  (t2) (t40) σ12 K X)) (panV X))
 (J60_16 env  (t2) (t8) σ2 K X)))))))))))))))))))))))))
theorem S60_eq (env : Env) (r0_a : AV) (σ : AS) (K : AV → AS → Prop) (X : PV → AS → Prop) : S60 env r0_a σ K X = bodyD Go.Proofs.Try.prog env an60 Go.Proofs.Try.f60 [r0_a] σ K X := by
  unfold S60
  kernel_rfl
theorem S60_ok : (match Go.Proofs.Try.f60.body with | some c => okCode an60 Go.Proofs.Try.prog Go.Proofs.Try.f60.ntmps c | none => false) = true := by kernel_rfl
/-! ### tedder/ere.joined (function 49) -/
def an49 : An := { mu := [], cut := [], loop := [] }
def S49 (env : Env) (op0_a l1_a : AV) (σ : AS) (K : AV → AS → Prop) (X : PV → AS → Prop) : Prop :=
 (lock allocD Go.Proofs.Try.prog σ 34 fun t4 σ1 =>
 (lock lenD Go.Proofs.Try.prog 32 l1_a fun t6 =>
 (lock binD Go.Proofs.Try.prog .eql 3 t6 (.pv (.int .i64 1)) fun t7 =>
 (condD t7
 (lock indexAddrD Go.Proofs.Try.prog 32 l1_a (.pv (.int .i64 0)) fun t9 =>
 (lock loadD Go.Proofs.Try.prog σ1 34 t9 fun t10 =>
 (lock storeD Go.Proofs.Try.prog σ1 34 t4 t10 fun σ2 =>
 (lock loadD Go.Proofs.Try.prog σ2 34 t4 fun r0 =>
 (retV (r0) σ2 K)))))
 (lock buildD Go.Proofs.Try.prog 34 [(0, op0_a), (2, l1_a)] fun t13 =>
 (lock storeD Go.Proofs.Try.prog σ1 34 t4 t13 fun σ3 =>
 (lock loadD Go.Proofs.Try.prog σ3 34 t4 fun r0 =>
 (retV (r0) σ3 K))))))))
theorem S49_eq (env : Env) (op0_a l1_a : AV) (σ : AS) (K : AV → AS → Prop) (X : PV → AS → Prop) : S49 env op0_a l1_a σ K X = bodyD Go.Proofs.Try.prog env an49 Go.Proofs.Try.f49 [op0_a, l1_a] σ K X := by
  unfold S49
  kernel_rfl
theorem S49_ok : (match Go.Proofs.Try.f49.body with | some c => okCode an49 Go.Proofs.Try.prog Go.Proofs.Try.f49.ntmps c | none => false) = true := by kernel_rfl
/-! ### (*tedder/ere.reader).pieces (function 47) -/
def an47 : An := { mu := [], cut := [(5, [0, 2, 3]), (8, [0, 2, 3])], loop := [(3, [0, 2, 3, 4, 5]), (10, [0, 2, 3, 9, 10, 11, 12])] }
def L47_10 (env : Env) (I3 : Nat → List AV → AS → Prop) (m3 : Nat) (I10 : Nat → List AV → AS → Prop) (m10 : Nat) (r0_l10 t2_l10 l3_l10 e9_l10 lo10_l10 hi11_l10 ok12_l10 : AV) (σ : AS) (K : AV → AS → Prop) (X : PV → AS → Prop) : Prop :=
 (condD ok12_l10
 (lock loadD Go.Proofs.Try.prog σ 34 e9_l10 fun t55 =>
 (lock buildSliceD Go.Proofs.Try.prog false σ 32 1 1 [(0, t55)] fun t56 σ10 =>
 (lock buildD Go.Proofs.Try.prog 34 [(0, (.pv (.str [114, 101, 112]))), (2, t56), (3, lo10_l10), (4, hi11_l10)] fun t59 =>
 (lock storeD Go.Proofs.Try.prog σ10 34 e9_l10 t59 fun σ11 =>
 (env 59 [r0_l10] σ11 (fun t51 σ12 =>
 (lock extractD t51 0 fun t52 =>
 (lock extractD t51 1 fun t53 =>
 (lock extractD t51 2 fun t54 =>
 (∃ m', m' < m10 ∧ I10 m' [r0_l10, t2_l10, l3_l10, e9_l10, t52, t53, t54] σ12))))) (panV X))))))
 (lock loadD Go.Proofs.Try.prog σ 34 e9_l10 fun t61 =>
 (lock buildSliceD Go.Proofs.Try.prog false σ 32 1 1 [(0, t61)] fun t62 σ13 =>
 (lock appendD Go.Proofs.Try.prog false σ13 32 l3_l10 t62 fun t63 σ14 =>
 (env 58 [r0_l10] σ14 (fun t29 σ15 =>
 (lock extractD t29 0 fun t30 =>
 (lock extractD t29 1 fun t31 =>
 (∃ m', m' < m3 ∧ I3 m' [r0_l10, t2_l10, t63, t30, t31] σ15)))) (panV X))))))
theorem L47_10_eq (env : Env) (I3 : Nat → List AV → AS → Prop) (m3 : Nat) (I10 : Nat → List AV → AS → Prop) (m10 : Nat) (r0_l10 t2_l10 l3_l10 e9_l10 lo10_l10 hi11_l10 ok12_l10 : AV) (σ : AS) (K : AV → AS → Prop) (X : PV → AS → Prop) : L47_10 env I3 m3 I10 m10 r0_l10 t2_l10 l3_l10 e9_l10 lo10_l10 hi11_l10 ok12_l10 σ K X = wpD Go.Proofs.Try.prog env an47 (subC (bodyC Go.Proofs.Try.f47) [1, 1, 0, 1, 0, 0, 1, 0, 0, 1, 1, 0, 1, 0, 0]) (contQ Go.Proofs.Try.prog env an47 (bodyC Go.Proofs.Try.f47) [1, 1, 0, 1, 0, 0, 1, 0, 0, 1, 1, 0, 1, 0, 0] [(I3, m3), (I10, m10)] (rootQ Go.Proofs.Try.prog Go.Proofs.Try.f47 K X)) [(0, r0_l10), (2, t2_l10), (3, l3_l10), (9, e9_l10), (10, lo10_l10), (11, hi11_l10), (12, ok12_l10)] σ := by
  unfold L47_10
  kernel_rfl
theorem lp47_10 {α : Type} {env : Env} {I3 : Nat → List AV → AS → Prop} {m3 : Nat} {r0_l10 t2_l10 l3_l10 e9_l10 : AV} {σ : AS} {K : AV → AS → Prop} {X : PV → AS → Prop} (μ : α → AS → Nat) (I : α → AS → Prop) (elo10_l10 ehi11_l10 eok12_l10 : α → AV) (a0 : α) (h0 : I a0 σ)
 (h : ∀ a σ, I a σ → L47_10 env I3 m3 (Inv (fun a => [r0_l10, t2_l10, l3_l10, e9_l10, elo10_l10 a, ehi11_l10 a, eok12_l10 a]) μ I) (μ a σ) r0_l10 t2_l10 l3_l10 e9_l10 (elo10_l10 a) (ehi11_l10 a) (eok12_l10 a) σ K X) :
 ∃ I10 : Nat → List AV → AS → Prop, (∃ m, I10 m [r0_l10, t2_l10, l3_l10, e9_l10, elo10_l10 a0, ehi11_l10 a0, eok12_l10 a0] σ) ∧ ∀ (m : Nat) (x0 x1 x2 x3 x4 x5 x6 : AV), ∀ σ, I10 m [x0, x1, x2, x3, x4, x5, x6] σ →
 L47_10 env I3 m3 I10 m x0 x1 x2 x3 x4 x5 x6 σ K X := by
  refine ⟨Inv (fun a => [r0_l10, t2_l10, l3_l10, e9_l10, elo10_l10 a, ehi11_l10 a, eok12_l10 a]) μ I, ⟨_, a0, rfl, rfl, h0⟩, ?_⟩
  rintro m x0 x1 x2 x3 x4 x5 x6 σ' ⟨a, hv, rfl, hI⟩
  simp only [List.cons.injEq, and_true] at hv
  obtain ⟨rfl, rfl, rfl, rfl, rfl, rfl, rfl⟩ := hv
  exact h a σ' hI
def J47_8 (env : Env) (I3 : Nat → List AV → AS → Prop) (m3 : Nat) (r0_j8 t2_j8 l3_j8 : AV) (σ : AS) (K : AV → AS → Prop) (X : PV → AS → Prop) : Prop :=
 (env 60 [r0_j8] σ (fun t41 σ5 =>
 (lock allocD Go.Proofs.Try.prog σ5 34 fun t9 σ6 =>
 (lock storeD Go.Proofs.Try.prog σ6 34 t9 t41 fun σ7 =>
 (env 59 [r0_j8] σ7 (fun t44 σ8 =>
 (lock extractD t44 0 fun t45 =>
 (lock extractD t44 1 fun t46 =>
 (lock extractD t44 2 fun t47 =>
 (∃ I10 : Nat → List AV → AS → Prop, (∃ m, I10 m [r0_j8, t2_j8, l3_j8, t9, t45, t46, t47] σ8) ∧ ∀ (m10 : Nat) (r0_l10 t2_l10 l3_l10 e9_l10 lo10_l10 hi11_l10 ok12_l10 : AV), ∀ σ9, I10 m10 [r0_l10, t2_l10, l3_l10, e9_l10, lo10_l10, hi11_l10, ok12_l10] σ9 →
 (L47_10 env I3 m3 I10 m10 r0_l10 t2_l10 l3_l10 e9_l10 lo10_l10 hi11_l10 ok12_l10 σ9 K X)))))) (panV X))))) (panV X))
theorem J47_8_eq (env : Env) (I3 : Nat → List AV → AS → Prop) (m3 : Nat) (r0_j8 t2_j8 l3_j8 : AV) (σ : AS) (K : AV → AS → Prop) (X : PV → AS → Prop) : J47_8 env I3 m3 r0_j8 t2_j8 l3_j8 σ K X = wpD Go.Proofs.Try.prog env an47 (subC (bodyC Go.Proofs.Try.f47) [1, 1, 0, 1, 0, 0, 1, 0, 0, 1]) (contQ Go.Proofs.Try.prog env an47 (bodyC Go.Proofs.Try.f47) [1, 1, 0, 1, 0, 0, 1, 0, 0, 1] [(I3, m3)] (rootQ Go.Proofs.Try.prog Go.Proofs.Try.f47 K X)) [(0, r0_j8), (2, t2_j8), (3, l3_j8)] σ := by
  unfold J47_8
  simp only [L47_10_eq]
  kernel_rfl
def J47_5 (env : Env) (I3 : Nat → List AV → AS → Prop) (m3 : Nat) (r0_j5 t2_j5 l3_j5 : AV) (σ : AS) (K : AV → AS → Prop) (X : PV → AS → Prop) : Prop :=
 (env 59 [r0_j5] σ (fun t34 σ4 =>
 (lock extractD t34 0 fun t35 =>
 (lock extractD t34 1 fun t36 =>
 (lock extractD t34 2 fun t37 =>
 (condD t37
 (lock ifaceD Go.Proofs.Try.prog 51 (.pv (.int .i64 3)) fun t39 =>
 (lock panicD σ4 t39 (panV X)))
 (J47_8 env I3 m3 (r0_j5) (t2_j5) (l3_j5) σ4 K X)))))) (panV X))
theorem J47_5_eq (env : Env) (I3 : Nat → List AV → AS → Prop) (m3 : Nat) (r0_j5 t2_j5 l3_j5 : AV) (σ : AS) (K : AV → AS → Prop) (X : PV → AS → Prop) : J47_5 env I3 m3 r0_j5 t2_j5 l3_j5 σ K X = wpD Go.Proofs.Try.prog env an47 (subC (bodyC Go.Proofs.Try.f47) [1, 1, 0, 1, 0, 0, 1]) (contQ Go.Proofs.Try.prog env an47 (bodyC Go.Proofs.Try.f47) [1, 1, 0, 1, 0, 0, 1] [(I3, m3)] (rootQ Go.Proofs.Try.prog Go.Proofs.Try.f47 K X)) [(0, r0_j5), (2, t2_j5), (3, l3_j5)] σ := by
  unfold J47_5
  kernel_rfl
def L47_3 (env : Env) (I3 : Nat → List AV → AS → Prop) (m3 : Nat) (r0_l3 t2_l3 l3_l3 c4_l3 ok5_l3 : AV) (σ : AS) (K : AV → AS → Prop) (X : PV → AS → Prop) : Prop :=
 (guardD ok5_l3 true
 (lock binD Go.Proofs.Try.prog .neq 5 c4_l3 (.pv (.int .u8 124)) fun t21 =>
 (guardD t21 true
 (lock binD Go.Proofs.Try.prog .neq 5 c4_l3 (.pv (.int .u8 41)) fun t25 =>
 (condD t25
 (J47_5 env I3 m3 (r0_l3) (t2_l3) (l3_l3) σ K X)
 (env 49 [(.pv (.str [99, 97, 116])), l3_l3] σ (fun t65 σ16 =>
 (lock storeD Go.Proofs.Try.prog σ16 34 t2_l3 t65 fun σ17 =>
 (lock loadD Go.Proofs.Try.prog σ17 34 t2_l3 fun r0 =>
 (retV (r0) σ17 K)))) (panV X))))
 (env 49 [(.pv (.str [99, 97, 116])), l3_l3] σ (fun t65 σ18 =>
 (lock storeD Go.Proofs.Try.prog σ18 34 t2_l3 t65 fun σ19 =>
 (lock loadD Go.Proofs.Try.prog σ19 34 t2_l3 fun r0 =>
 (retV (r0) σ19 K)))) (panV X))))
 (env 49 [(.pv (.str [99, 97, 116])), l3_l3] σ (fun t65 σ20 =>
 (lock storeD Go.Proofs.Try.prog σ20 34 t2_l3 t65 fun σ21 =>
 (lock loadD Go.Proofs.Try.prog σ21 34 t2_l3 fun r0 =>
 (retV (r0) σ21 K)))) (panV X)))
theorem L47_3_eq (env : Env) (I3 : Nat → List AV → AS → Prop) (m3 : Nat) (r0_l3 t2_l3 l3_l3 c4_l3 ok5_l3 : AV) (σ : AS) (K : AV → AS → Prop) (X : PV → AS → Prop) : L47_3 env I3 m3 r0_l3 t2_l3 l3_l3 c4_l3 ok5_l3 σ K X = wpD Go.Proofs.Try.prog env an47 (subC (bodyC Go.Proofs.Try.f47) [1, 1, 0, 1, 0, 0]) (contQ Go.Proofs.Try.prog env an47 (bodyC Go.Proofs.Try.f47) [1, 1, 0, 1, 0, 0] [(I3, m3)] (rootQ Go.Proofs.Try.prog Go.Proofs.Try.f47 K X)) [(0, r0_l3), (2, t2_l3), (3, l3_l3), (4, c4_l3), (5, ok5_l3)] σ := by
  unfold L47_3
  kernel_rfl
theorem lp47_3 {α : Type} {env : Env}  {r0_l3 t2_l3 : AV} {σ : AS} {K : AV → AS → Prop} {X : PV → AS → Prop} (μ : α → AS → Nat) (I : α → AS → Prop) (el3_l3 ec4_l3 eok5_l3 : α → AV) (a0 : α) (h0 : I a0 σ)
 (h : ∀ a σ, I a σ → L47_3 env  (Inv (fun a => [r0_l3, t2_l3, el3_l3 a, ec4_l3 a, eok5_l3 a]) μ I) (μ a σ) r0_l3 t2_l3 (el3_l3 a) (ec4_l3 a) (eok5_l3 a) σ K X) :
 ∃ I3 : Nat → List AV → AS → Prop, (∃ m, I3 m [r0_l3, t2_l3, el3_l3 a0, ec4_l3 a0, eok5_l3 a0] σ) ∧ ∀ (m : Nat) (x0 x1 x2 x3 x4 : AV), ∀ σ, I3 m [x0, x1, x2, x3, x4] σ →
 L47_3 env  I3 m x0 x1 x2 x3 x4 σ K X := by
  refine ⟨Inv (fun a => [r0_l3, t2_l3, el3_l3 a, ec4_l3 a, eok5_l3 a]) μ I, ⟨_, a0, rfl, rfl, h0⟩, ?_⟩
  rintro m x0 x1 x2 x3 x4 σ' ⟨a, hv, rfl, hI⟩
  simp only [List.cons.injEq, and_true] at hv
  obtain ⟨rfl, rfl, rfl, rfl, rfl⟩ := hv
  exact h a σ' hI
def S47 (env : Env) (r0_a : AV) (σ : AS) (K : AV → AS → Prop) (X : PV → AS → Prop) : Prop :=
 (lock allocD Go.Proofs.Try.prog σ 34 fun t2 σ1 =>
 (env 58 [r0_a] σ1 (fun t15 σ2 =>
 (lock extractD t15 0 fun t16 =>
 (lock extractD t15 1 fun t17 =>
 (∃ I3 : Nat → List AV → AS → Prop, (∃ m, I3 m [r0_a, t2, (.nilS), t16, t17] σ2) ∧ ∀ (m3 : Nat) (r0_l3 t2_l3 l3_l3 c4_l3 ok5_l3 : AV), ∀ σ3, I3 m3 [r0_l3, t2_l3, l3_l3, c4_l3, ok5_l3] σ3 →
 (L47_3 env I3 m3 r0_l3 t2_l3 l3_l3 c4_l3 ok5_l3 σ3 K X))))) (panV X)))
theorem S47_eq (env : Env) (r0_a : AV) (σ : AS) (K : AV → AS → Prop) (X : PV → AS → Prop) : S47 env r0_a σ K X = bodyD Go.Proofs.Try.prog env an47 Go.Proofs.Try.f47 [r0_a] σ K X := by
  unfold S47
  simp only [L47_3_eq]
  kernel_rfl
theorem S47_ok : (match Go.Proofs.Try.f47.body with | some c => okCode an47 Go.Proofs.Try.prog Go.Proofs.Try.f47.ntmps c | none => false) = true := by kernel_rfl
/-! ### (*tedder/ere.reader).branches (function 31) -/
def an31 : An := { mu := [], cut := [], loop := [(2, [0, 2, 3])] }
def L31_2 (env : Env) (I2 : Nat → List AV → AS → Prop) (m2 : Nat) (r0_l2 t2_l2 l3_l2 : AV) (σ : AS) (K : AV → AS → Prop) (X : PV → AS → Prop) : Prop :=
 (env 48 [r0_l2, (.pv (.str [124]))] σ (fun t8 σ5 =>
 (condD t8
 (env 47 [r0_l2] σ5 (fun t11 σ6 =>
 (lock buildSliceD Go.Proofs.Try.prog false σ6 32 1 1 [(0, t11)] fun t12 σ7 =>
 (lock appendD Go.Proofs.Try.prog false σ7 32 l3_l2 t12 fun t13 σ8 =>
 (∃ m', m' < m2 ∧ I2 m' [r0_l2, t2_l2, t13] σ8)))) (panV X))
 (env 49 [(.pv (.str [97, 108, 116])), l3_l2] σ5 (fun t15 σ9 =>
 (lock storeD Go.Proofs.Try.prog σ9 34 t2_l2 t15 fun σ10 =>
 (lock loadD Go.Proofs.Try.prog σ10 34 t2_l2 fun r0 =>
 (retV (r0) σ10 K)))) (panV X)))) (panV X))
theorem L31_2_eq (env : Env) (I2 : Nat → List AV → AS → Prop) (m2 : Nat) (r0_l2 t2_l2 l3_l2 : AV) (σ : AS) (K : AV → AS → Prop) (X : PV → AS → Prop) : L31_2 env I2 m2 r0_l2 t2_l2 l3_l2 σ K X = wpD Go.Proofs.Try.prog env an31 (subC (bodyC Go.Proofs.Try.f31) [1, 1, 0, 0, 0]) (contQ Go.Proofs.Try.prog env an31 (bodyC Go.Proofs.Try.f31) [1, 1, 0, 0, 0] [(I2, m2)] (rootQ Go.Proofs.Try.prog Go.Proofs.Try.f31 K X)) [(0, r0_l2), (2, t2_l2), (3, l3_l2)] σ := by
  unfold L31_2
  kernel_rfl
theorem lp31_2 {α : Type} {env : Env}  {r0_l2 t2_l2 : AV} {σ : AS} {K : AV → AS → Prop} {X : PV → AS → Prop} (μ : α → AS → Nat) (I : α → AS → Prop) (el3_l2 : α → AV) (a0 : α) (h0 : I a0 σ)
 (h : ∀ a σ, I a σ → L31_2 env  (Inv (fun a => [r0_l2, t2_l2, el3_l2 a]) μ I) (μ a σ) r0_l2 t2_l2 (el3_l2 a) σ K X) :
 ∃ I2 : Nat → List AV → AS → Prop, (∃ m, I2 m [r0_l2, t2_l2, el3_l2 a0] σ) ∧ ∀ (m : Nat) (x0 x1 x2 : AV), ∀ σ, I2 m [x0, x1, x2] σ →
 L31_2 env  I2 m x0 x1 x2 σ K X := by
  refine ⟨Inv (fun a => [r0_l2, t2_l2, el3_l2 a]) μ I, ⟨_, a0, rfl, rfl, h0⟩, ?_⟩
  rintro m x0 x1 x2 σ' ⟨a, hv, rfl, hI⟩
  simp only [List.cons.injEq, and_true] at hv
  obtain ⟨rfl, rfl, rfl⟩ := hv
  exact h a σ' hI
def S31 (env : Env) (r0_a : AV) (σ : AS) (K : AV → AS → Prop) (X : PV → AS → Prop) : Prop :=
 (lock allocD Go.Proofs.Try.prog σ 34 fun t2 σ1 =>
 (env 47 [r0_a] σ1 (fun t5 σ2 =>
 (lock buildSliceD Go.Proofs.Try.prog false σ2 32 1 1 [(0, t5)] fun t6 σ3 =>
 (∃ I2 : Nat → List AV → AS → Prop, (∃ m, I2 m [r0_a, t2, t6] σ3) ∧ ∀ (m2 : Nat) (r0_l2 t2_l2 l3_l2 : AV), ∀ σ4, I2 m2 [r0_l2, t2_l2, l3_l2] σ4 →
 (L31_2 env I2 m2 r0_l2 t2_l2 l3_l2 σ4 K X)))) (panV X)))
theorem S31_eq (env : Env) (r0_a : AV) (σ : AS) (K : AV → AS → Prop) (X : PV → AS → Prop) : S31 env r0_a σ K X = bodyD Go.Proofs.Try.prog env an31 Go.Proofs.Try.f31 [r0_a] σ K X := by
  unfold S31
  simp only [L31_2_eq]
  kernel_rfl
theorem S31_ok : (match Go.Proofs.Try.f31.body with | some c => okCode an31 Go.Proofs.Try.prog Go.Proofs.Try.f31.ntmps c | none => false) = true := by kernel_rfl
/-! ### tedder/ere.size (function 32) -/
def an32 : An := { mu := [], cut := [(16, [3, 6])], loop := [(3, [1, 3, 8, 9, 10])] }
def J32_16 (env : Env)  (n3_j16 times6_j16 : AV) (σ : AS) (K : AV → AS → Prop) (X : PV → AS → Prop) : Prop :=
 (lock binD Go.Proofs.Try.prog .mul 3 n3_j16 times6_j16 fun t40 =>
 (lock binD Go.Proofs.Try.prog .add 3 t40 (.pv (.int .i64 1)) fun t41 =>
 (lock (foldD min2D) t41 [(.pv (.int .i64 2001))] fun t43 =>
 (retV (t43) σ K))))
theorem J32_16_eq (env : Env)  (n3_j16 times6_j16 : AV) (σ : AS) (K : AV → AS → Prop) (X : PV → AS → Prop) : J32_16 env  n3_j16 times6_j16 σ K X = wpD Go.Proofs.Try.prog env an32 (subC (bodyC Go.Proofs.Try.f32) [1, 1, 1, 0, 1, 0, 1, 1, 1, 1, 1, 0, 1, 1]) (contQ Go.Proofs.Try.prog env an32 (bodyC Go.Proofs.Try.f32) [1, 1, 1, 0, 1, 0, 1, 1, 1, 1, 1, 0, 1, 1] [] (rootQ Go.Proofs.Try.prog Go.Proofs.Try.f32 K X)) [(3, n3_j16), (6, times6_j16)] σ := by
  unfold J32_16
  kernel_rfl
def L32_3 (env : Env) (I3 : Nat → List AV → AS → Prop) (m3 : Nat) (e1_l3 n3_l3 t8_l3 t9_l3 t10_l3 : AV) (σ : AS) (K : AV → AS → Prop) (X : PV → AS → Prop) : Prop :=
 (lock binD Go.Proofs.Try.prog .lss 3 t10_l3 t9_l3 fun t11 =>
 (condD t11
 (lock indexAddrD Go.Proofs.Try.prog 32 t8_l3 t10_l3 fun t12 =>
 (lock loadD Go.Proofs.Try.prog σ 34 t12 fun t13 =>
 (lock allocD Go.Proofs.Try.prog σ 34 fun t5 σ3 =>
 (lock storeD Go.Proofs.Try.prog σ3 34 t5 t13 fun σ4 =>
 (lock loadD Go.Proofs.Try.prog σ4 34 t5 fun t15 =>
 (env 32 [t15] σ4 (fun t16 σ5 =>
 (lock binD Go.Proofs.Try.prog .add 3 n3_l3 t16 fun t17 =>
 (lock binD Go.Proofs.Try.prog .add 3 t10_l3 (.pv (.int .i64 1)) fun t18 =>
 (∃ m', m' < m3 ∧ I3 m' [e1_l3, t17, t8_l3, t9_l3, t18] σ5)))) (panV X)))))))
 (lock fieldAddrD Go.Proofs.Try.prog 34 e1_l3 0 fun t19 =>
 (lock loadD Go.Proofs.Try.prog σ 9 t19 fun t20 =>
 (lock binD Go.Proofs.Try.prog .eql 9 t20 (.pv (.str [99, 97, 116])) fun t22 =>
 (condD t22
 (lock (foldD min2D) n3_l3 [(.pv (.int .i64 2001))] fun t43 =>
 (retV (t43) σ K))
 (lock binD Go.Proofs.Try.prog .eql 9 t20 (.pv (.str [97, 108, 116])) fun t24 =>
 (condD t24
 (lock binD Go.Proofs.Try.prog .add 3 n3_l3 (.pv (.int .i64 1)) fun t26 =>
 (lock (foldD min2D) t26 [(.pv (.int .i64 2001))] fun t43 =>
 (retV (t43) σ K)))
 (lock binD Go.Proofs.Try.prog .eql 9 t20 (.pv (.str [114, 101, 112])) fun t28 =>
 (condD t28
 (lock fieldAddrD Go.Proofs.Try.prog 34 e1_l3 4 fun t29 =>
 (lock loadD Go.Proofs.Try.prog σ 3 t29 fun t30 =>
 (lock (foldD max2D) (.pv (.int .i64 1)) [t30] fun t31 =>
 (lock fieldAddrD Go.Proofs.Try.prog 34 e1_l3 4 fun t32 =>
 (lock loadD Go.Proofs.Try.prog σ 3 t32 fun t33 =>
 (lock binD Go.Proofs.Try.prog .lss 3 t33 (.pv (.int .i64 0)) fun t34 =>
 (condD t34
 (lock fieldAddrD Go.Proofs.Try.prog 34 e1_l3 3 fun t35 =>
 (lock loadD Go.Proofs.Try.prog σ 3 t35 fun t36 =>
 (lock binD Go.Proofs.Try.prog .add 3 t36 (.pv (.int .i64 1)) fun t37 =>
 (J32_16 env  (n3_l3) (t37) σ K X))))
 (J32_16 env  (n3_l3) (t31) σ K X))))))))
 (lock (foldD min2D) (.pv (.int .i64 1)) [(.pv (.int .i64 2001))] fun t43 =>
 (retV (t43) σ K))))))))))))
theorem L32_3_eq (env : Env) (I3 : Nat → List AV → AS → Prop) (m3 : Nat) (e1_l3 n3_l3 t8_l3 t9_l3 t10_l3 : AV) (σ : AS) (K : AV → AS → Prop) (X : PV → AS → Prop) : L32_3 env I3 m3 e1_l3 n3_l3 t8_l3 t9_l3 t10_l3 σ K X = wpD Go.Proofs.Try.prog env an32 (subC (bodyC Go.Proofs.Try.f32) [1, 1, 0, 1, 0, 0]) (contQ Go.Proofs.Try.prog env an32 (bodyC Go.Proofs.Try.f32) [1, 1, 0, 1, 0, 0] [(I3, m3)] (rootQ Go.Proofs.Try.prog Go.Proofs.Try.f32 K X)) [(1, e1_l3), (3, n3_l3), (8, t8_l3), (9, t9_l3), (10, t10_l3)] σ := by
  unfold L32_3
  kernel_rfl
theorem lp32_3 {α : Type} {env : Env}  {e1_l3 t8_l3 t9_l3 : AV} {σ : AS} {K : AV → AS → Prop} {X : PV → AS → Prop} (μ : α → AS → Nat) (I : α → AS → Prop) (en3_l3 et10_l3 : α → AV) (a0 : α) (h0 : I a0 σ)
 (h : ∀ a σ, I a σ → L32_3 env  (Inv (fun a => [e1_l3, en3_l3 a, t8_l3, t9_l3, et10_l3 a]) μ I) (μ a σ) e1_l3 (en3_l3 a) t8_l3 t9_l3 (et10_l3 a) σ K X) :
 ∃ I3 : Nat → List AV → AS → Prop, (∃ m, I3 m [e1_l3, en3_l3 a0, t8_l3, t9_l3, et10_l3 a0] σ) ∧ ∀ (m : Nat) (x0 x1 x2 x3 x4 : AV), ∀ σ, I3 m [x0, x1, x2, x3, x4] σ →
 L32_3 env  I3 m x0 x1 x2 x3 x4 σ K X := by
  refine ⟨Inv (fun a => [e1_l3, en3_l3 a, t8_l3, t9_l3, et10_l3 a]) μ I, ⟨_, a0, rfl, rfl, h0⟩, ?_⟩
  rintro m x0 x1 x2 x3 x4 σ' ⟨a, hv, rfl, hI⟩
  simp only [List.cons.injEq, and_true] at hv
  obtain ⟨rfl, rfl, rfl, rfl, rfl⟩ := hv
  exact h a σ' hI
def S32 (env : Env) (e0_a : AV) (σ : AS) (K : AV → AS → Prop) (X : PV → AS → Prop) : Prop :=
 (lock boxD σ e0_a fun t1 σ1 =>
 (lock fieldAddrD Go.Proofs.Try.prog 34 t1 2 fun t7 =>
 (lock loadD Go.Proofs.Try.prog σ1 32 t7 fun t8 =>
 (lock lenD Go.Proofs.Try.prog 32 t8 fun t9 =>
 (∃ I3 : Nat → List AV → AS → Prop, (∃ m, I3 m [t1, (.pv (.int .i64 0)), t8, t9, (.pv (.int .i64 0))] σ1) ∧ ∀ (m3 : Nat) (e1_l3 n3_l3 t8_l3 t9_l3 t10_l3 : AV), ∀ σ2, I3 m3 [e1_l3, n3_l3, t8_l3, t9_l3, t10_l3] σ2 →
 (L32_3 env I3 m3 e1_l3 n3_l3 t8_l3 t9_l3 t10_l3 σ2 K X))))))
theorem S32_eq (env : Env) (e0_a : AV) (σ : AS) (K : AV → AS → Prop) (X : PV → AS → Prop) : S32 env e0_a σ K X = bodyD Go.Proofs.Try.prog env an32 Go.Proofs.Try.f32 [e0_a] σ K X := by
  unfold S32
  simp only [L32_3_eq]
  kernel_rfl
theorem S32_ok : (match Go.Proofs.Try.f32.body with | some c => okCode an32 Go.Proofs.Try.prog Go.Proofs.Try.f32.ntmps c | none => false) = true := by kernel_rfl
/-! ### tedder/tedderref03.Same (function 17) -/
def an17 : An := { mu := [], cut := [(3, [2, 3])], loop := [(4, [2, 3, 5])] }
def L17_4 (env : Env) (I4 : Nat → List AV → AS → Prop) (m4 : Nat) (a2_l4 b3_l4 i5_l4 : AV) (σ : AS) (K : AV → AS → Prop) (X : PV → AS → Prop) : Prop :=
 (lock fieldAddrD Go.Proofs.Try.prog 34 a2_l4 2 fun t42 =>
 (lock loadD Go.Proofs.Try.prog σ 32 t42 fun t43 =>
 (lock lenD Go.Proofs.Try.prog 32 t43 fun t44 =>
 (lock binD Go.Proofs.Try.prog .lss 3 i5_l4 t44 fun t45 =>
 (condD t45
 (lock fieldAddrD Go.Proofs.Try.prog 34 a2_l4 2 fun t48 =>
 (lock loadD Go.Proofs.Try.prog σ 32 t48 fun t49 =>
 (lock indexAddrD Go.Proofs.Try.prog 32 t49 i5_l4 fun t51 =>
 (lock loadD Go.Proofs.Try.prog σ 34 t51 fun t52 =>
 (lock fieldAddrD Go.Proofs.Try.prog 34 b3_l4 2 fun t53 =>
 (lock loadD Go.Proofs.Try.prog σ 32 t53 fun t54 =>
 (lock indexAddrD Go.Proofs.Try.prog 32 t54 i5_l4 fun t56 =>
 (lock loadD Go.Proofs.Try.prog σ 34 t56 fun t57 =>
 (env 17 [t52, t57] σ (fun t58 σ4 =>
 (unD .not t58 fun t59 =>
 (condD t59
 (retV ((.pv (.bool false))) σ4 K)
 (lock binD Go.Proofs.Try.prog .add 3 i5_l4 (.pv (.int .i64 1)) fun t47 =>
 (∃ m', m' < m4 ∧ I4 m' [a2_l4, b3_l4, t47] σ4))))) (panV X))))))))))
 (retV ((.pv (.bool true))) σ K))))))
theorem L17_4_eq (env : Env) (I4 : Nat → List AV → AS → Prop) (m4 : Nat) (a2_l4 b3_l4 i5_l4 : AV) (σ : AS) (K : AV → AS → Prop) (X : PV → AS → Prop) : L17_4 env I4 m4 a2_l4 b3_l4 i5_l4 σ K X = wpD Go.Proofs.Try.prog env an17 (subC (bodyC Go.Proofs.Try.f17) [1, 1, 0, 1, 0, 0]) (contQ Go.Proofs.Try.prog env an17 (bodyC Go.Proofs.Try.f17) [1, 1, 0, 1, 0, 0] [(I4, m4)] (rootQ Go.Proofs.Try.prog Go.Proofs.Try.f17 K X)) [(2, a2_l4), (3, b3_l4), (5, i5_l4)] σ := by
  unfold L17_4
  kernel_rfl
theorem lp17_4 {α : Type} {env : Env}  {a2_l4 b3_l4 : AV} {σ : AS} {K : AV → AS → Prop} {X : PV → AS → Prop} (μ : α → AS → Nat) (I : α → AS → Prop) (ei5_l4 : α → AV) (a0 : α) (h0 : I a0 σ)
 (h : ∀ a σ, I a σ → L17_4 env  (Inv (fun a => [a2_l4, b3_l4, ei5_l4 a]) μ I) (μ a σ) a2_l4 b3_l4 (ei5_l4 a) σ K X) :
 ∃ I4 : Nat → List AV → AS → Prop, (∃ m, I4 m [a2_l4, b3_l4, ei5_l4 a0] σ) ∧ ∀ (m : Nat) (x0 x1 x2 : AV), ∀ σ, I4 m [x0, x1, x2] σ →
 L17_4 env  I4 m x0 x1 x2 σ K X := by
  refine ⟨Inv (fun a => [a2_l4, b3_l4, ei5_l4 a]) μ I, ⟨_, a0, rfl, rfl, h0⟩, ?_⟩
  rintro m x0 x1 x2 σ' ⟨a, hv, rfl, hI⟩
  simp only [List.cons.injEq, and_true] at hv
  obtain ⟨rfl, rfl, rfl⟩ := hv
  exact h a σ' hI
def J17_3 (env : Env)  (a2_j3 b3_j3 : AV) (σ : AS) (K : AV → AS → Prop) (X : PV → AS → Prop) : Prop :=
 (∃ I4 : Nat → List AV → AS → Prop, (∃ m, I4 m [a2_j3, b3_j3, (.pv (.int .i64 0))] σ) ∧ ∀ (m4 : Nat) (a2_l4 b3_l4 i5_l4 : AV), ∀ σ3, I4 m4 [a2_l4, b3_l4, i5_l4] σ3 →
 (L17_4 env I4 m4 a2_l4 b3_l4 i5_l4 σ3 K X))
theorem J17_3_eq (env : Env)  (a2_j3 b3_j3 : AV) (σ : AS) (K : AV → AS → Prop) (X : PV → AS → Prop) : J17_3 env  a2_j3 b3_j3 σ K X = wpD Go.Proofs.Try.prog env an17 (subC (bodyC Go.Proofs.Try.f17) [1, 1]) (contQ Go.Proofs.Try.prog env an17 (bodyC Go.Proofs.Try.f17) [1, 1] [] (rootQ Go.Proofs.Try.prog Go.Proofs.Try.f17 K X)) [(2, a2_j3), (3, b3_j3)] σ := by
  unfold J17_3
  simp only [L17_4_eq]
  kernel_rfl
def S17 (env : Env) (a0_a b1_a : AV) (σ : AS) (K : AV → AS → Prop) (X : PV → AS → Prop) : Prop :=
 (lock boxD σ a0_a fun t2 σ1 =>
 (lock boxD σ1 b1_a fun t3 σ2 =>
 (lock fieldAddrD Go.Proofs.Try.prog 34 t2 0 fun t6 =>
 (lock loadD Go.Proofs.Try.prog σ2 9 t6 fun t7 =>
 (lock fieldAddrD Go.Proofs.Try.prog 34 t3 0 fun t8 =>
 (lock loadD Go.Proofs.Try.prog σ2 9 t8 fun t9 =>
 (lock binD Go.Proofs.Try.prog .neq 9 t7 t9 fun t10 =>
 (guardD t10 false
 (lock fieldAddrD Go.Proofs.Try.prog 34 t2 1 fun t12 =>
 (lock loadD Go.Proofs.Try.prog σ2 9 t12 fun t13 =>
 (lock fieldAddrD Go.Proofs.Try.prog 34 t3 1 fun t14 =>
 (lock loadD Go.Proofs.Try.prog σ2 9 t14 fun t15 =>
 (lock binD Go.Proofs.Try.prog .neq 9 t13 t15 fun t16 =>
 (guardD t16 false
 (lock fieldAddrD Go.Proofs.Try.prog 34 t2 3 fun t19 =>
 (lock loadD Go.Proofs.Try.prog σ2 3 t19 fun t20 =>
 (lock fieldAddrD Go.Proofs.Try.prog 34 t3 3 fun t21 =>
 (lock loadD Go.Proofs.Try.prog σ2 3 t21 fun t22 =>
 (lock binD Go.Proofs.Try.prog .neq 3 t20 t22 fun t23 =>
 (guardD t23 false
 (lock fieldAddrD Go.Proofs.Try.prog 34 t2 4 fun t26 =>
 (lock loadD Go.Proofs.Try.prog σ2 3 t26 fun t27 =>
 (lock fieldAddrD Go.Proofs.Try.prog 34 t3 4 fun t28 =>
 (lock loadD Go.Proofs.Try.prog σ2 3 t28 fun t29 =>
 (lock binD Go.Proofs.Try.prog .neq 3 t27 t29 fun t30 =>
 (guardD t30 false
 (lock fieldAddrD Go.Proofs.Try.prog 34 t2 2 fun t33 =>
 (lock loadD Go.Proofs.Try.prog σ2 32 t33 fun t34 =>
 (lock lenD Go.Proofs.Try.prog 32 t34 fun t35 =>
 (lock fieldAddrD Go.Proofs.Try.prog 34 t3 2 fun t36 =>
 (lock loadD Go.Proofs.Try.prog σ2 32 t36 fun t37 =>
 (lock lenD Go.Proofs.Try.prog 32 t37 fun t38 =>
 (lock binD Go.Proofs.Try.prog .neq 3 t35 t38 fun t39 =>
 (condD t39
 (retV ((.pv (.bool false))) σ2 K)
 (J17_3 env  (t2) (t3) σ2 K X)))))))))
 (retV ((.pv (.bool false))) σ2 K)))))))
 (retV ((.pv (.bool false))) σ2 K)))))))
 (retV ((.pv (.bool false))) σ2 K)))))))
 (retV ((.pv (.bool false))) σ2 K)))))))))
theorem S17_eq (env : Env) (a0_a b1_a : AV) (σ : AS) (K : AV → AS → Prop) (X : PV → AS → Prop) : S17 env a0_a b1_a σ K X = bodyD Go.Proofs.Try.prog env an17 Go.Proofs.Try.f17 [a0_a, b1_a] σ K X := by
  unfold S17
  kernel_rfl
theorem S17_ok : (match Go.Proofs.Try.f17.body with | some c => okCode an17 Go.Proofs.Try.prog Go.Proofs.Try.f17.ntmps c | none => false) = true := by kernel_rfl
/-! ### tedder/tedderlaw03.awake (function 15) -/
def an15 : An := { mu := [], cut := [], loop := [] }
def S15 (env : Env) (σ : AS) (K : AV → AS → Prop) (X : PV → AS → Prop) : Prop :=
 (env 16 [(.pv (.str [97, 124, 98, 42]))] σ (fun t6 σ1 =>
 (lock extractD t6 0 fun t7 =>
 (lock extractD t6 1 fun t8 =>
 (lock allocD Go.Proofs.Try.prog σ1 34 fun t1 σ2 =>
 (lock storeD Go.Proofs.Try.prog σ2 34 t1 t7 fun σ3 =>
 (env 16 [(.pv (.str [40]))] σ3 (fun t10 σ4 =>
 (lock extractD t10 0 fun t11 =>
 (lock extractD t10 1 fun t12 =>
 (lock allocD Go.Proofs.Try.prog σ4 34 fun t3 σ5 =>
 (lock storeD Go.Proofs.Try.prog σ5 34 t3 t11 fun σ6 =>
 (lock binD Go.Proofs.Try.prog .eql 3 t8 (.pv (.int .i64 0)) fun t14 =>
 (guardD t14 true
 (lock binD Go.Proofs.Try.prog .eql 3 t12 (.pv (.int .i64 1)) fun t17 =>
 (guardD t17 true
 (lock fieldAddrD Go.Proofs.Try.prog 34 t1 0 fun t20 =>
 (lock loadD Go.Proofs.Try.prog σ6 9 t20 fun t21 =>
 (lock binD Go.Proofs.Try.prog .eql 9 t21 (.pv (.str [97, 108, 116])) fun t22 =>
 (guardD t22 true
 (lock fieldAddrD Go.Proofs.Try.prog 34 t1 2 fun t25 =>
 (lock loadD Go.Proofs.Try.prog σ6 32 t25 fun t26 =>
 (lock lenD Go.Proofs.Try.prog 32 t26 fun t27 =>
 (lock binD Go.Proofs.Try.prog .eql 3 t27 (.pv (.int .i64 2)) fun t28 =>
 (guardD t28 true
 (lock fieldAddrD Go.Proofs.Try.prog 34 t1 2 fun t31 =>
 (lock loadD Go.Proofs.Try.prog σ6 32 t31 fun t32 =>
 (lock indexAddrD Go.Proofs.Try.prog 32 t32 (.pv (.int .i64 1)) fun t33 =>
 (lock fieldAddrD Go.Proofs.Try.prog 34 t33 0 fun t34 =>
 (lock loadD Go.Proofs.Try.prog σ6 9 t34 fun t35 =>
 (lock binD Go.Proofs.Try.prog .eql 9 t35 (.pv (.str [114, 101, 112])) fun t36 =>
 (retV (t36) σ6 K)))))))
 (retV ((.pv (.bool false))) σ6 K))))))
 (retV ((.pv (.bool false))) σ6 K)))))
 (retV ((.pv (.bool false))) σ6 K)))
 (retV ((.pv (.bool false))) σ6 K)))))))) (panV X))))))) (panV X))
theorem S15_eq (env : Env) (σ : AS) (K : AV → AS → Prop) (X : PV → AS → Prop) : S15 env  σ K X = bodyD Go.Proofs.Try.prog env an15 Go.Proofs.Try.f15 [] σ K X := by
  unfold S15
  kernel_rfl
theorem S15_ok : (match Go.Proofs.Try.f15.body with | some c => okCode an15 Go.Proofs.Try.prog Go.Proofs.Try.f15.ntmps c | none => false) = true := by kernel_rfl
/-! ### tedder/tedderlaw03.EreQuotes (function 7) -/
def an7 : An := { mu := [], cut := [(5, [0]), (11, [0, 3, 4, 50]), (16, [0, 6])], loop := [(7, [0, 3, 4]), (17, [0, 89, 90, 91])] }
def J7_11 (env : Env) (I7 : Nat → List AV → AS → Prop) (m7 : Nat) (s0_j11 q3_j11 i4_j11 t50_j11 : AV) (σ : AS) (K : AV → AS → Prop) (X : PV → AS → Prop) : Prop :=
 (condD t50_j11
 (lock binD Go.Proofs.Try.prog .add 3 i4_j11 (.pv (.int .i64 1)) fun t55 =>
 (lock sliceD Go.Proofs.Try.prog 9 s0_j11 (some i4_j11) (some t55) fun t56 =>
 (lock binD Go.Proofs.Try.prog .add 9 (.pv (.str [91])) t56 fun t57 =>
 (lock binD Go.Proofs.Try.prog .add 9 t57 (.pv (.str [93])) fun t58 =>
 (lock binD Go.Proofs.Try.prog .add 9 q3_j11 t58 fun t59 =>
 (lock binD Go.Proofs.Try.prog .add 3 i4_j11 (.pv (.int .i64 1)) fun t25 =>
 (∃ m', m' < m7 ∧ I7 m' [s0_j11, t59, t25] σ)))))))
 (lock binD Go.Proofs.Try.prog .add 3 i4_j11 (.pv (.int .i64 1)) fun t64 =>
 (lock sliceD Go.Proofs.Try.prog 9 s0_j11 (some i4_j11) (some t64) fun t65 =>
 (lock binD Go.Proofs.Try.prog .add 9 (.pv (.str [92])) t65 fun t66 =>
 (lock binD Go.Proofs.Try.prog .add 9 q3_j11 t66 fun t67 =>
 (lock binD Go.Proofs.Try.prog .add 3 i4_j11 (.pv (.int .i64 1)) fun t25 =>
 (∃ m', m' < m7 ∧ I7 m' [s0_j11, t67, t25] σ)))))))
theorem J7_11_eq (env : Env) (I7 : Nat → List AV → AS → Prop) (m7 : Nat) (s0_j11 q3_j11 i4_j11 t50_j11 : AV) (σ : AS) (K : AV → AS → Prop) (X : PV → AS → Prop) : J7_11 env I7 m7 s0_j11 q3_j11 i4_j11 t50_j11 σ K X = wpD Go.Proofs.Try.prog env an7 (subC (bodyC Go.Proofs.Try.f7) [1, 1, 1, 1, 0, 1, 0, 0, 1, 0, 0, 1, 1]) (contQ Go.Proofs.Try.prog env an7 (bodyC Go.Proofs.Try.f7) [1, 1, 1, 1, 0, 1, 0, 0, 1, 0, 0, 1, 1] [(I7, m7)] (rootQ Go.Proofs.Try.prog Go.Proofs.Try.f7 K X)) [(0, s0_j11), (3, q3_j11), (4, i4_j11), (50, t50_j11)] σ := by
  unfold J7_11
  kernel_rfl
def L7_17 (env : Env) (I17 : Nat → List AV → AS → Prop) (m17 : Nat) (s0_l17 t89_l17 t90_l17 t91_l17 : AV) (σ : AS) (K : AV → AS → Prop) (X : PV → AS → Prop) : Prop :=
 (lock binD Go.Proofs.Try.prog .lss 3 t91_l17 t90_l17 fun t92 =>
 (condD t92
 (lock indexAddrD Go.Proofs.Try.prog 32 t89_l17 t91_l17 fun t94 =>
 (lock loadD Go.Proofs.Try.prog σ 34 t94 fun t95 =>
 (lock allocD Go.Proofs.Try.prog σ 34 fun t9 σ7 =>
 (lock storeD Go.Proofs.Try.prog σ7 34 t9 t95 fun σ8 =>
 (lock fieldAddrD Go.Proofs.Try.prog 34 t9 0 fun t96 =>
 (lock loadD Go.Proofs.Try.prog σ8 9 t96 fun t97 =>
 (lock binD Go.Proofs.Try.prog .neq 9 t97 (.pv (.str [115, 101, 116])) fun t98 =>
 (guardD t98 false
 (lock fieldAddrD Go.Proofs.Try.prog 34 t9 1 fun t100 =>
 (lock loadD Go.Proofs.Try.prog σ8 9 t100 fun t101 =>
 (lock binD Go.Proofs.Try.prog .add 3 t91_l17 (.pv (.int .i64 1)) fun t105 =>
 (lock sliceD Go.Proofs.Try.prog 9 s0_l17 (some t91_l17) (some t105) fun t106 =>
 (lock binD Go.Proofs.Try.prog .neq 9 t101 t106 fun t107 =>
 (guardD t107 false
 (lock fieldAddrD Go.Proofs.Try.prog 34 t9 2 fun t110 =>
 (lock loadD Go.Proofs.Try.prog σ8 32 t110 fun t111 =>
 (lock lenD Go.Proofs.Try.prog 32 t111 fun t112 =>
 (lock binD Go.Proofs.Try.prog .neq 3 t112 (.pv (.int .i64 0)) fun t113 =>
 (condD t113
 (retV ((.pv (.bool false))) σ8 K)
 (lock binD Go.Proofs.Try.prog .add 3 t91_l17 (.pv (.int .i64 1)) fun t115 =>
 (∃ m', m' < m17 ∧ I17 m' [s0_l17, t89_l17, t90_l17, t115] σ8)))))))
 (retV ((.pv (.bool false))) σ8 K)))))))
 (retV ((.pv (.bool false))) σ8 K)))))))))
 (retV ((.pv (.bool true))) σ K)))
theorem L7_17_eq (env : Env) (I17 : Nat → List AV → AS → Prop) (m17 : Nat) (s0_l17 t89_l17 t90_l17 t91_l17 : AV) (σ : AS) (K : AV → AS → Prop) (X : PV → AS → Prop) : L7_17 env I17 m17 s0_l17 t89_l17 t90_l17 t91_l17 σ K X = wpD Go.Proofs.Try.prog env an7 (subC (bodyC Go.Proofs.Try.f7) [1, 1, 1, 1, 1, 1, 1, 0, 1, 0, 0]) (contQ Go.Proofs.Try.prog env an7 (bodyC Go.Proofs.Try.f7) [1, 1, 1, 1, 1, 1, 1, 0, 1, 0, 0] [(I17, m17)] (rootQ Go.Proofs.Try.prog Go.Proofs.Try.f7 K X)) [(0, s0_l17), (89, t89_l17), (90, t90_l17), (91, t91_l17)] σ := by
  unfold L7_17
  kernel_rfl
theorem lp7_17 {α : Type} {env : Env}  {s0_l17 t89_l17 t90_l17 : AV} {σ : AS} {K : AV → AS → Prop} {X : PV → AS → Prop} (μ : α → AS → Nat) (I : α → AS → Prop) (et91_l17 : α → AV) (a0 : α) (h0 : I a0 σ)
 (h : ∀ a σ, I a σ → L7_17 env  (Inv (fun a => [s0_l17, t89_l17, t90_l17, et91_l17 a]) μ I) (μ a σ) s0_l17 t89_l17 t90_l17 (et91_l17 a) σ K X) :
 ∃ I17 : Nat → List AV → AS → Prop, (∃ m, I17 m [s0_l17, t89_l17, t90_l17, et91_l17 a0] σ) ∧ ∀ (m : Nat) (x0 x1 x2 x3 : AV), ∀ σ, I17 m [x0, x1, x2, x3] σ →
 L7_17 env  I17 m x0 x1 x2 x3 σ K X := by
  refine ⟨Inv (fun a => [s0_l17, t89_l17, t90_l17, et91_l17 a]) μ I, ⟨_, a0, rfl, rfl, h0⟩, ?_⟩
  rintro m x0 x1 x2 x3 σ' ⟨a, hv, rfl, hI⟩
  simp only [List.cons.injEq, and_true] at hv
  obtain ⟨rfl, rfl, rfl, rfl⟩ := hv
  exact h a σ' hI
def J7_16 (env : Env)  (s0_j16 e6_j16 : AV) (σ : AS) (K : AV → AS → Prop) (X : PV → AS → Prop) : Prop :=
 (lock fieldAddrD Go.Proofs.Try.prog 34 e6_j16 2 fun t88 =>
 (lock loadD Go.Proofs.Try.prog σ 32 t88 fun t89 =>
 (lock lenD Go.Proofs.Try.prog 32 t89 fun t90 =>
 (∃ I17 : Nat → List AV → AS → Prop, (∃ m, I17 m [s0_j16, t89, t90, (.pv (.int .i64 0))] σ) ∧ ∀ (m17 : Nat) (s0_l17 t89_l17 t90_l17 t91_l17 : AV), ∀ σ6, I17 m17 [s0_l17, t89_l17, t90_l17, t91_l17] σ6 →
 (L7_17 env I17 m17 s0_l17 t89_l17 t90_l17 t91_l17 σ6 K X)))))
theorem J7_16_eq (env : Env)  (s0_j16 e6_j16 : AV) (σ : AS) (K : AV → AS → Prop) (X : PV → AS → Prop) : J7_16 env  s0_j16 e6_j16 σ K X = wpD Go.Proofs.Try.prog env an7 (subC (bodyC Go.Proofs.Try.f7) [1, 1, 1, 1, 1, 1, 1]) (contQ Go.Proofs.Try.prog env an7 (bodyC Go.Proofs.Try.f7) [1, 1, 1, 1, 1, 1, 1] [] (rootQ Go.Proofs.Try.prog Go.Proofs.Try.f7 K X)) [(0, s0_j16), (6, e6_j16)] σ := by
  unfold J7_16
  simp only [L7_17_eq]
  kernel_rfl
def L7_7 (env : Env) (I7 : Nat → List AV → AS → Prop) (m7 : Nat) (s0_l7 q3_l7 i4_l7 : AV) (σ : AS) (K : AV → AS → Prop) (X : PV → AS → Prop) : Prop :=
 (lock lenD Go.Proofs.Try.prog 9 s0_l7 fun t22 =>
 (lock binD Go.Proofs.Try.prog .lss 3 i4_l7 t22 fun t23 =>
 (condD t23
 (lock indexD Go.Proofs.Try.prog 9 s0_l7 i4_l7 fun t28 =>
 (lock binD Go.Proofs.Try.prog .geq 5 t28 (.pv (.int .u8 48)) fun t30 =>
 (guardD t30 true
 (lock binD Go.Proofs.Try.prog .leq 5 t28 (.pv (.int .u8 57)) fun t33 =>
 (guardD t33 false
 (lock binD Go.Proofs.Try.prog .geq 5 t28 (.pv (.int .u8 97)) fun t37 =>
 (guardD t37 true
 (lock binD Go.Proofs.Try.prog .leq 5 t28 (.pv (.int .u8 122)) fun t40 =>
 (guardD t40 false
 (lock binD Go.Proofs.Try.prog .geq 5 t28 (.pv (.int .u8 65)) fun t45 =>
 (guardD t45 true
 (lock binD Go.Proofs.Try.prog .leq 5 t28 (.pv (.int .u8 90)) fun t48 =>
 (J7_11 env I7 m7 (s0_l7) (q3_l7) (i4_l7) (t48) σ K X))
 (J7_11 env I7 m7 (s0_l7) (q3_l7) (i4_l7) (.pv (.bool false)) σ K X)))
 (J7_11 env I7 m7 (s0_l7) (q3_l7) (i4_l7) (.pv (.bool true)) σ K X)))
 (lock binD Go.Proofs.Try.prog .geq 5 t28 (.pv (.int .u8 65)) fun t45 =>
 (guardD t45 true
 (lock binD Go.Proofs.Try.prog .leq 5 t28 (.pv (.int .u8 90)) fun t48 =>
 (J7_11 env I7 m7 (s0_l7) (q3_l7) (i4_l7) (t48) σ K X))
 (J7_11 env I7 m7 (s0_l7) (q3_l7) (i4_l7) (.pv (.bool false)) σ K X)))))
 (J7_11 env I7 m7 (s0_l7) (q3_l7) (i4_l7) (.pv (.bool true)) σ K X)))
 (lock binD Go.Proofs.Try.prog .geq 5 t28 (.pv (.int .u8 97)) fun t37 =>
 (guardD t37 true
 (lock binD Go.Proofs.Try.prog .leq 5 t28 (.pv (.int .u8 122)) fun t40 =>
 (guardD t40 false
 (lock binD Go.Proofs.Try.prog .geq 5 t28 (.pv (.int .u8 65)) fun t45 =>
 (guardD t45 true
 (lock binD Go.Proofs.Try.prog .leq 5 t28 (.pv (.int .u8 90)) fun t48 =>
 (J7_11 env I7 m7 (s0_l7) (q3_l7) (i4_l7) (t48) σ K X))
 (J7_11 env I7 m7 (s0_l7) (q3_l7) (i4_l7) (.pv (.bool false)) σ K X)))
 (J7_11 env I7 m7 (s0_l7) (q3_l7) (i4_l7) (.pv (.bool true)) σ K X)))
 (lock binD Go.Proofs.Try.prog .geq 5 t28 (.pv (.int .u8 65)) fun t45 =>
 (guardD t45 true
 (lock binD Go.Proofs.Try.prog .leq 5 t28 (.pv (.int .u8 90)) fun t48 =>
 (J7_11 env I7 m7 (s0_l7) (q3_l7) (i4_l7) (t48) σ K X))
 (J7_11 env I7 m7 (s0_l7) (q3_l7) (i4_l7) (.pv (.bool false)) σ K X))))))))
 (env 16 [q3_l7] σ (fun t70 σ3 =>
 (lock extractD t70 0 fun t71 =>
 (lock extractD t70 1 fun t72 =>
 (lock allocD Go.Proofs.Try.prog σ3 34 fun t6 σ4 =>
 (lock storeD Go.Proofs.Try.prog σ4 34 t6 t71 fun σ5 =>
 (lock binD Go.Proofs.Try.prog .neq 3 t72 (.pv (.int .i64 0)) fun t74 =>
 (guardD t74 false
 (lock fieldAddrD Go.Proofs.Try.prog 34 t6 0 fun t76 =>
 (lock loadD Go.Proofs.Try.prog σ5 9 t76 fun t77 =>
 (lock binD Go.Proofs.Try.prog .neq 9 t77 (.pv (.str [99, 97, 116])) fun t78 =>
 (guardD t78 false
 (lock fieldAddrD Go.Proofs.Try.prog 34 t6 2 fun t81 =>
 (lock loadD Go.Proofs.Try.prog σ5 32 t81 fun t82 =>
 (lock lenD Go.Proofs.Try.prog 32 t82 fun t83 =>
 (lock lenD Go.Proofs.Try.prog 9 s0_l7 fun t85 =>
 (lock binD Go.Proofs.Try.prog .neq 3 t83 t85 fun t86 =>
 (condD t86
 (retV ((.pv (.bool false))) σ5 K)
 (J7_16 env  (s0_l7) (t6) σ5 K X)))))))
 (retV ((.pv (.bool false))) σ5 K)))))
 (retV ((.pv (.bool false))) σ5 K)))))))) (panV X)))))
theorem L7_7_eq (env : Env) (I7 : Nat → List AV → AS → Prop) (m7 : Nat) (s0_l7 q3_l7 i4_l7 : AV) (σ : AS) (K : AV → AS → Prop) (X : PV → AS → Prop) : L7_7 env I7 m7 s0_l7 q3_l7 i4_l7 σ K X = wpD Go.Proofs.Try.prog env an7 (subC (bodyC Go.Proofs.Try.f7) [1, 1, 1, 1, 0, 1, 0, 0]) (contQ Go.Proofs.Try.prog env an7 (bodyC Go.Proofs.Try.f7) [1, 1, 1, 1, 0, 1, 0, 0] [(I7, m7)] (rootQ Go.Proofs.Try.prog Go.Proofs.Try.f7 K X)) [(0, s0_l7), (3, q3_l7), (4, i4_l7)] σ := by
  unfold L7_7
  kernel_rfl
theorem lp7_7 {α : Type} {env : Env}  {s0_l7 : AV} {σ : AS} {K : AV → AS → Prop} {X : PV → AS → Prop} (μ : α → AS → Nat) (I : α → AS → Prop) (eq3_l7 ei4_l7 : α → AV) (a0 : α) (h0 : I a0 σ)
 (h : ∀ a σ, I a σ → L7_7 env  (Inv (fun a => [s0_l7, eq3_l7 a, ei4_l7 a]) μ I) (μ a σ) s0_l7 (eq3_l7 a) (ei4_l7 a) σ K X) :
 ∃ I7 : Nat → List AV → AS → Prop, (∃ m, I7 m [s0_l7, eq3_l7 a0, ei4_l7 a0] σ) ∧ ∀ (m : Nat) (x0 x1 x2 : AV), ∀ σ, I7 m [x0, x1, x2] σ →
 L7_7 env  I7 m x0 x1 x2 σ K X := by
  refine ⟨Inv (fun a => [s0_l7, eq3_l7 a, ei4_l7 a]) μ I, ⟨_, a0, rfl, rfl, h0⟩, ?_⟩
  rintro m x0 x1 x2 σ' ⟨a, hv, rfl, hI⟩
  simp only [List.cons.injEq, and_true] at hv
  obtain ⟨rfl, rfl, rfl⟩ := hv
  exact h a σ' hI
def J7_5 (env : Env)  (s0_j5 : AV) (σ : AS) (K : AV → AS → Prop) (X : PV → AS → Prop) : Prop :=
 (∃ I7 : Nat → List AV → AS → Prop, (∃ m, I7 m [s0_j5, (.pv (.str [])), (.pv (.int .i64 0))] σ) ∧ ∀ (m7 : Nat) (s0_l7 q3_l7 i4_l7 : AV), ∀ σ2, I7 m7 [s0_l7, q3_l7, i4_l7] σ2 →
 (L7_7 env I7 m7 s0_l7 q3_l7 i4_l7 σ2 K X))
theorem J7_5_eq (env : Env)  (s0_j5 : AV) (σ : AS) (K : AV → AS → Prop) (X : PV → AS → Prop) : J7_5 env  s0_j5 σ K X = wpD Go.Proofs.Try.prog env an7 (subC (bodyC Go.Proofs.Try.f7) [1, 1, 1]) (contQ Go.Proofs.Try.prog env an7 (bodyC Go.Proofs.Try.f7) [1, 1, 1] [] (rootQ Go.Proofs.Try.prog Go.Proofs.Try.f7 K X)) [(0, s0_j5)] σ := by
  unfold J7_5
  simp only [L7_7_eq]
  kernel_rfl
def S7 (env : Env) (s0_a : AV) (σ : AS) (K : AV → AS → Prop) (X : PV → AS → Prop) : Prop :=
 (env 15 [] σ (fun t10 σ1 =>
 (unD .not t10 fun t11 =>
 (condD t11
 (retV ((.pv (.bool false))) σ1 K)
 (lock lenD Go.Proofs.Try.prog 9 s0_a fun t13 =>
 (lock binD Go.Proofs.Try.prog .lss 3 t13 (.pv (.int .i64 2)) fun t14 =>
 (guardD t14 false
 (lock lenD Go.Proofs.Try.prog 9 s0_a fun t17 =>
 (lock binD Go.Proofs.Try.prog .gtr 3 t17 (.pv (.int .i64 600)) fun t18 =>
 (condD t18
 (retV ((.pv (.bool true))) σ1 K)
 (J7_5 env  (s0_a) σ1 K X))))
 (retV ((.pv (.bool true))) σ1 K))))))) (panV X))
theorem S7_eq (env : Env) (s0_a : AV) (σ : AS) (K : AV → AS → Prop) (X : PV → AS → Prop) : S7 env s0_a σ K X = bodyD Go.Proofs.Try.prog env an7 Go.Proofs.Try.f7 [s0_a] σ K X := by
  unfold S7
  kernel_rfl
theorem S7_ok : (match Go.Proofs.Try.f7.body with | some c => okCode an7 Go.Proofs.Try.prog Go.Proofs.Try.f7.ntmps c | none => false) = true := by kernel_rfl
/-! ### tedder/tedderlaw03.EreSets (function 9) -/
def an9 : An := { mu := [], cut := [(5, [0]), (8, [3, 4, 5, 6, 55])], loop := [(11, [3, 5, 7, 8]), (15, [5, 7, 9]), (19, [91, 92])] }
def L9_19 (env : Env) (I19 : Nat → List AV → AS → Prop) (m19 : Nat) (t91_l19 t92_l19 : AV) (σ : AS) (K : AV → AS → Prop) (X : PV → AS → Prop) : Prop :=
 (lock binD Go.Proofs.Try.prog .lss 3 t92_l19 (.pv (.int .i64 256)) fun t93 =>
 (condD t93
 (lock indexD Go.Proofs.Try.prog 38 t91_l19 t92_l19 fun t94 =>
 (lock binD Go.Proofs.Try.prog .neq 3 t94 (.pv (.int .i64 1)) fun t96 =>
 (condD t96
 (retV ((.pv (.bool false))) σ K)
 (lock binD Go.Proofs.Try.prog .add 3 t92_l19 (.pv (.int .i64 1)) fun t97 =>
 (∃ m', m' < m19 ∧ I19 m' [t91_l19, t97] σ)))))
 (retV ((.pv (.bool true))) σ K)))
theorem L9_19_eq (env : Env) (I19 : Nat → List AV → AS → Prop) (m19 : Nat) (t91_l19 t92_l19 : AV) (σ : AS) (K : AV → AS → Prop) (X : PV → AS → Prop) : L9_19 env I19 m19 t91_l19 t92_l19 σ K X = wpD Go.Proofs.Try.prog env an9 (subC (bodyC Go.Proofs.Try.f9) [1, 1, 1, 1, 1, 1, 1, 1, 1, 0, 1, 0, 0]) (contQ Go.Proofs.Try.prog env an9 (bodyC Go.Proofs.Try.f9) [1, 1, 1, 1, 1, 1, 1, 1, 1, 0, 1, 0, 0] [(I19, m19)] (rootQ Go.Proofs.Try.prog Go.Proofs.Try.f9 K X)) [(91, t91_l19), (92, t92_l19)] σ := by
  unfold L9_19
  kernel_rfl
theorem lp9_19 {α : Type} {env : Env}  {t91_l19 : AV} {σ : AS} {K : AV → AS → Prop} {X : PV → AS → Prop} (μ : α → AS → Nat) (I : α → AS → Prop) (et92_l19 : α → AV) (a0 : α) (h0 : I a0 σ)
 (h : ∀ a σ, I a σ → L9_19 env  (Inv (fun a => [t91_l19, et92_l19 a]) μ I) (μ a σ) t91_l19 (et92_l19 a) σ K X) :
 ∃ I19 : Nat → List AV → AS → Prop, (∃ m, I19 m [t91_l19, et92_l19 a0] σ) ∧ ∀ (m : Nat) (x0 x1 : AV), ∀ σ, I19 m [x0, x1] σ →
 L9_19 env  I19 m x0 x1 σ K X := by
  refine ⟨Inv (fun a => [t91_l19, et92_l19 a]) μ I, ⟨_, a0, rfl, rfl, h0⟩, ?_⟩
  rintro m x0 x1 σ' ⟨a, hv, rfl, hI⟩
  simp only [List.cons.injEq, and_true] at hv
  obtain ⟨rfl, rfl⟩ := hv
  exact h a σ' hI
def L9_15 (env : Env) (I15 : Nat → List AV → AS → Prop) (m15 : Nat) (g5_l15 there7_l15 i9_l15 : AV) (σ : AS) (K : AV → AS → Prop) (X : PV → AS → Prop) : Prop :=
 (lock fieldAddrD Go.Proofs.Try.prog 34 g5_l15 1 fun t77 =>
 (lock loadD Go.Proofs.Try.prog σ 9 t77 fun t78 =>
 (lock lenD Go.Proofs.Try.prog 9 t78 fun t79 =>
 (lock binD Go.Proofs.Try.prog .lss 3 i9_l15 t79 fun t80 =>
 (condD t80
 (lock fieldAddrD Go.Proofs.Try.prog 34 g5_l15 1 fun t83 =>
 (lock loadD Go.Proofs.Try.prog σ 9 t83 fun t84 =>
 (lock indexD Go.Proofs.Try.prog 9 t84 i9_l15 fun t86 =>
 (lock indexAddrD Go.Proofs.Try.prog 38 there7_l15 t86 fun t87 =>
 (lock loadD Go.Proofs.Try.prog σ 3 t87 fun t88 =>
 (lock binD Go.Proofs.Try.prog .add 3 t88 (.pv (.int .i64 1)) fun t89 =>
 (lock indexAddrD Go.Proofs.Try.prog 38 there7_l15 t86 fun t90 =>
 (lock storeD Go.Proofs.Try.prog σ 3 t90 t89 fun σ12 =>
 (lock binD Go.Proofs.Try.prog .add 3 i9_l15 (.pv (.int .i64 1)) fun t82 =>
 (∃ m', m' < m15 ∧ I15 m' [g5_l15, there7_l15, t82] σ12))))))))))
 (lock loadD Go.Proofs.Try.prog σ 38 there7_l15 fun t91 =>
 (∃ I19 : Nat → List AV → AS → Prop, (∃ m, I19 m [t91, (.pv (.int .i64 0))] σ) ∧ ∀ (m19 : Nat) (t91_l19 t92_l19 : AV), ∀ σ13, I19 m19 [t91_l19, t92_l19] σ13 →
 (L9_19 env I19 m19 t91_l19 t92_l19 σ13 K X))))))))
theorem L9_15_eq (env : Env) (I15 : Nat → List AV → AS → Prop) (m15 : Nat) (g5_l15 there7_l15 i9_l15 : AV) (σ : AS) (K : AV → AS → Prop) (X : PV → AS → Prop) : L9_15 env I15 m15 g5_l15 there7_l15 i9_l15 σ K X = wpD Go.Proofs.Try.prog env an9 (subC (bodyC Go.Proofs.Try.f9) [1, 1, 1, 1, 1, 1, 1, 1, 0, 1, 0, 0]) (contQ Go.Proofs.Try.prog env an9 (bodyC Go.Proofs.Try.f9) [1, 1, 1, 1, 1, 1, 1, 1, 0, 1, 0, 0] [(I15, m15)] (rootQ Go.Proofs.Try.prog Go.Proofs.Try.f9 K X)) [(5, g5_l15), (7, there7_l15), (9, i9_l15)] σ := by
  unfold L9_15
  simp only [L9_19_eq]
  kernel_rfl
theorem lp9_15 {α : Type} {env : Env}  {g5_l15 there7_l15 : AV} {σ : AS} {K : AV → AS → Prop} {X : PV → AS → Prop} (μ : α → AS → Nat) (I : α → AS → Prop) (ei9_l15 : α → AV) (a0 : α) (h0 : I a0 σ)
 (h : ∀ a σ, I a σ → L9_15 env  (Inv (fun a => [g5_l15, there7_l15, ei9_l15 a]) μ I) (μ a σ) g5_l15 there7_l15 (ei9_l15 a) σ K X) :
 ∃ I15 : Nat → List AV → AS → Prop, (∃ m, I15 m [g5_l15, there7_l15, ei9_l15 a0] σ) ∧ ∀ (m : Nat) (x0 x1 x2 : AV), ∀ σ, I15 m [x0, x1, x2] σ →
 L9_15 env  I15 m x0 x1 x2 σ K X := by
  refine ⟨Inv (fun a => [g5_l15, there7_l15, ei9_l15 a]) μ I, ⟨_, a0, rfl, rfl, h0⟩, ?_⟩
  rintro m x0 x1 x2 σ' ⟨a, hv, rfl, hI⟩
  simp only [List.cons.injEq, and_true] at hv
  obtain ⟨rfl, rfl, rfl⟩ := hv
  exact h a σ' hI
def L9_11 (env : Env) (I11 : Nat → List AV → AS → Prop) (m11 : Nat) (e3_l11 g5_l11 there7_l11 i8_l11 : AV) (σ : AS) (K : AV → AS → Prop) (X : PV → AS → Prop) : Prop :=
 (lock fieldAddrD Go.Proofs.Try.prog 34 e3_l11 1 fun t62 =>
 (lock loadD Go.Proofs.Try.prog σ 9 t62 fun t63 =>
 (lock lenD Go.Proofs.Try.prog 9 t63 fun t64 =>
 (lock binD Go.Proofs.Try.prog .lss 3 i8_l11 t64 fun t65 =>
 (condD t65
 (lock fieldAddrD Go.Proofs.Try.prog 34 e3_l11 1 fun t68 =>
 (lock loadD Go.Proofs.Try.prog σ 9 t68 fun t69 =>
 (lock indexD Go.Proofs.Try.prog 9 t69 i8_l11 fun t71 =>
 (lock indexAddrD Go.Proofs.Try.prog 38 there7_l11 t71 fun t72 =>
 (lock loadD Go.Proofs.Try.prog σ 3 t72 fun t73 =>
 (lock binD Go.Proofs.Try.prog .add 3 t73 (.pv (.int .i64 1)) fun t74 =>
 (lock indexAddrD Go.Proofs.Try.prog 38 there7_l11 t71 fun t75 =>
 (lock storeD Go.Proofs.Try.prog σ 3 t75 t74 fun σ10 =>
 (lock binD Go.Proofs.Try.prog .add 3 i8_l11 (.pv (.int .i64 1)) fun t67 =>
 (∃ m', m' < m11 ∧ I11 m' [e3_l11, g5_l11, there7_l11, t67] σ10))))))))))
 (∃ I15 : Nat → List AV → AS → Prop, (∃ m, I15 m [g5_l11, there7_l11, (.pv (.int .i64 0))] σ) ∧ ∀ (m15 : Nat) (g5_l15 there7_l15 i9_l15 : AV), ∀ σ11, I15 m15 [g5_l15, there7_l15, i9_l15] σ11 →
 (L9_15 env I15 m15 g5_l15 there7_l15 i9_l15 σ11 K X)))))))
theorem L9_11_eq (env : Env) (I11 : Nat → List AV → AS → Prop) (m11 : Nat) (e3_l11 g5_l11 there7_l11 i8_l11 : AV) (σ : AS) (K : AV → AS → Prop) (X : PV → AS → Prop) : L9_11 env I11 m11 e3_l11 g5_l11 there7_l11 i8_l11 σ K X = wpD Go.Proofs.Try.prog env an9 (subC (bodyC Go.Proofs.Try.f9) [1, 1, 1, 1, 1, 1, 1, 0, 1, 0, 0]) (contQ Go.Proofs.Try.prog env an9 (bodyC Go.Proofs.Try.f9) [1, 1, 1, 1, 1, 1, 1, 0, 1, 0, 0] [(I11, m11)] (rootQ Go.Proofs.Try.prog Go.Proofs.Try.f9 K X)) [(3, e3_l11), (5, g5_l11), (7, there7_l11), (8, i8_l11)] σ := by
  unfold L9_11
  simp only [L9_15_eq]
  kernel_rfl
theorem lp9_11 {α : Type} {env : Env}  {e3_l11 g5_l11 there7_l11 : AV} {σ : AS} {K : AV → AS → Prop} {X : PV → AS → Prop} (μ : α → AS → Nat) (I : α → AS → Prop) (ei8_l11 : α → AV) (a0 : α) (h0 : I a0 σ)
 (h : ∀ a σ, I a σ → L9_11 env  (Inv (fun a => [e3_l11, g5_l11, there7_l11, ei8_l11 a]) μ I) (μ a σ) e3_l11 g5_l11 there7_l11 (ei8_l11 a) σ K X) :
 ∃ I11 : Nat → List AV → AS → Prop, (∃ m, I11 m [e3_l11, g5_l11, there7_l11, ei8_l11 a0] σ) ∧ ∀ (m : Nat) (x0 x1 x2 x3 : AV), ∀ σ, I11 m [x0, x1, x2, x3] σ →
 L9_11 env  I11 m x0 x1 x2 x3 σ K X := by
  refine ⟨Inv (fun a => [e3_l11, g5_l11, there7_l11, ei8_l11 a]) μ I, ⟨_, a0, rfl, rfl, h0⟩, ?_⟩
  rintro m x0 x1 x2 x3 σ' ⟨a, hv, rfl, hI⟩
  simp only [List.cons.injEq, and_true] at hv
  obtain ⟨rfl, rfl, rfl, rfl⟩ := hv
  exact h a σ' hI
def J9_8 (env : Env)  (e3_j8 f4_j8 g5_j8 h6_j8 t55_j8 : AV) (σ : AS) (K : AV → AS → Prop) (X : PV → AS → Prop) : Prop :=
 (condD t55_j8
 (lock binD Go.Proofs.Try.prog .eql 3 f4_j8 (.pv (.int .i64 0)) fun t57 =>
 (lock binD Go.Proofs.Try.prog .eql 3 h6_j8 (.pv (.int .i64 0)) fun t59 =>
 (lock binD Go.Proofs.Try.prog .eql 4 t57 t59 fun t60 =>
 (retV (t60) σ K))))
 (lock allocD Go.Proofs.Try.prog σ 38 fun t7 σ8 =>
 (∃ I11 : Nat → List AV → AS → Prop, (∃ m, I11 m [e3_j8, g5_j8, t7, (.pv (.int .i64 0))] σ8) ∧ ∀ (m11 : Nat) (e3_l11 g5_l11 there7_l11 i8_l11 : AV), ∀ σ9, I11 m11 [e3_l11, g5_l11, there7_l11, i8_l11] σ9 →
 (L9_11 env I11 m11 e3_l11 g5_l11 there7_l11 i8_l11 σ9 K X))))
theorem J9_8_eq (env : Env)  (e3_j8 f4_j8 g5_j8 h6_j8 t55_j8 : AV) (σ : AS) (K : AV → AS → Prop) (X : PV → AS → Prop) : J9_8 env  e3_j8 f4_j8 g5_j8 h6_j8 t55_j8 σ K X = wpD Go.Proofs.Try.prog env an9 (subC (bodyC Go.Proofs.Try.f9) [1, 1, 1, 1, 1, 0, 1]) (contQ Go.Proofs.Try.prog env an9 (bodyC Go.Proofs.Try.f9) [1, 1, 1, 1, 1, 0, 1] [] (rootQ Go.Proofs.Try.prog Go.Proofs.Try.f9 K X)) [(3, e3_j8), (4, f4_j8), (5, g5_j8), (6, h6_j8), (55, t55_j8)] σ := by
  unfold J9_8
  simp only [L9_11_eq]
  kernel_rfl
def J9_5 (env : Env)  (s0_j5 : AV) (σ : AS) (K : AV → AS → Prop) (X : PV → AS → Prop) : Prop :=
 (lock binD Go.Proofs.Try.prog .add 9 (.pv (.str [91])) s0_j5 fun t28 =>
 (lock binD Go.Proofs.Try.prog .add 9 t28 (.pv (.str [93])) fun t29 =>
 (env 16 [t29] σ (fun t30 σ2 =>
 (lock extractD t30 0 fun t31 =>
 (lock extractD t30 1 fun t32 =>
 (lock allocD Go.Proofs.Try.prog σ2 34 fun t3 σ3 =>
 (lock storeD Go.Proofs.Try.prog σ3 34 t3 t31 fun σ4 =>
 (lock binD Go.Proofs.Try.prog .add 9 (.pv (.str [91, 94])) s0_j5 fun t35 =>
 (lock binD Go.Proofs.Try.prog .add 9 t35 (.pv (.str [93])) fun t36 =>
 (env 16 [t36] σ4 (fun t37 σ5 =>
 (lock extractD t37 0 fun t38 =>
 (lock extractD t37 1 fun t39 =>
 (lock allocD Go.Proofs.Try.prog σ5 34 fun t5 σ6 =>
 (lock storeD Go.Proofs.Try.prog σ6 34 t5 t38 fun σ7 =>
 (lock binD Go.Proofs.Try.prog .neq 3 t32 (.pv (.int .i64 0)) fun t41 =>
 (guardD t41 false
 (lock binD Go.Proofs.Try.prog .neq 3 t39 (.pv (.int .i64 0)) fun t44 =>
 (guardD t44 false
 (lock fieldAddrD Go.Proofs.Try.prog 34 t3 0 fun t47 =>
 (lock loadD Go.Proofs.Try.prog σ7 9 t47 fun t48 =>
 (lock binD Go.Proofs.Try.prog .neq 9 t48 (.pv (.str [115, 101, 116])) fun t49 =>
 (guardD t49 false
 (lock fieldAddrD Go.Proofs.Try.prog 34 t5 0 fun t52 =>
 (lock loadD Go.Proofs.Try.prog σ7 9 t52 fun t53 =>
 (lock binD Go.Proofs.Try.prog .neq 9 t53 (.pv (.str [115, 101, 116])) fun t54 =>
 (J9_8 env  (t3) (t32) (t5) (t39) (t54) σ7 K X))))
 (J9_8 env  (t3) (t32) (t5) (t39) (.pv (.bool true)) σ7 K X)))))
 (J9_8 env  (t3) (t32) (t5) (t39) (.pv (.bool true)) σ7 K X)))
 (J9_8 env  (t3) (t32) (t5) (t39) (.pv (.bool true)) σ7 K X)))))))) (panV X))))))))) (panV X))))
theorem J9_5_eq (env : Env)  (s0_j5 : AV) (σ : AS) (K : AV → AS → Prop) (X : PV → AS → Prop) : J9_5 env  s0_j5 σ K X = wpD Go.Proofs.Try.prog env an9 (subC (bodyC Go.Proofs.Try.f9) [1, 1, 1]) (contQ Go.Proofs.Try.prog env an9 (bodyC Go.Proofs.Try.f9) [1, 1, 1] [] (rootQ Go.Proofs.Try.prog Go.Proofs.Try.f9 K X)) [(0, s0_j5)] σ := by
  unfold J9_5
  kernel_rfl
def S9 (env : Env) (s0_a : AV) (σ : AS) (K : AV → AS → Prop) (X : PV → AS → Prop) : Prop :=
 (env 15 [] σ (fun t12 σ1 =>
 (unD .not t12 fun t13 =>
 (condD t13
 (retV ((.pv (.bool false))) σ1 K)
 (lock lenD Go.Proofs.Try.prog 9 s0_a fun t15 =>
 (lock binD Go.Proofs.Try.prog .gtr 3 t15 (.pv (.int .i64 200)) fun t16 =>
 (guardD t16 false
 (lock binD Go.Proofs.Try.prog .eql 9 s0_a (.pv (.str [])) fun t19 =>
 (guardD t19 false
 (lock indexD Go.Proofs.Try.prog 9 s0_a (.pv (.int .i64 0)) fun t23 =>
 (lock binD Go.Proofs.Try.prog .eql 5 t23 (.pv (.int .u8 94)) fun t24 =>
 (condD t24
 (retV ((.pv (.bool true))) σ1 K)
 (J9_5 env  (s0_a) σ1 K X))))
 (retV ((.pv (.bool true))) σ1 K)))
 (retV ((.pv (.bool true))) σ1 K))))))) (panV X))
theorem S9_eq (env : Env) (s0_a : AV) (σ : AS) (K : AV → AS → Prop) (X : PV → AS → Prop) : S9 env s0_a σ K X = bodyD Go.Proofs.Try.prog env an9 Go.Proofs.Try.f9 [s0_a] σ K X := by
  unfold S9
  kernel_rfl
theorem S9_ok : (match Go.Proofs.Try.f9.body with | some c => okCode an9 Go.Proofs.Try.prog Go.Proofs.Try.f9.ntmps c | none => false) = true := by kernel_rfl
/-! ### tedder/tedderlaw03.EreGroups (function 8) -/
def an8 : An := { mu := [], cut := [(5, [0, 1]), (8, [0, 1, 5, 6, 7, 8, 40]), (15, [5, 9, 11])], loop := [], any := [15] }
def J8_15 (env : Env)  (e5_j15 a9_j15 b11_j15 : AV) (σ : AS) (K : AV → AS → Prop) (X : PV → AS → Prop) : Prop :=
 (lock fieldAddrD Go.Proofs.Try.prog 34 b11_j15 0 fun t76 =>
 ((lock loadD Go.Proofs.Try.prog σ 9 t76 fun t77 =>
 (lock binD Go.Proofs.Try.prog .eql 9 t77 (.pv (.str [97, 108, 116])) fun t78 =>
 (guardD t78 true
 (lock fieldAddrD Go.Proofs.Try.prog 34 b11_j15 2 fun t80 =>
 ((lock loadD Go.Proofs.Try.prog σ 32 t80 fun t81 =>
 (lock lenD Go.Proofs.Try.prog 32 t81 fun t82 =>
 (lock binD Go.Proofs.Try.prog .eql 3 t82 (.pv (.int .i64 2)) fun t83 =>
 (guardD t83 true
 (lock fieldAddrD Go.Proofs.Try.prog 34 b11_j15 2 fun t86 =>
 ((lock loadD Go.Proofs.Try.prog σ 32 t86 fun t87 =>
 (lock indexAddrD Go.Proofs.Try.prog 32 t87 (.pv (.int .i64 0)) fun t88 =>
 ((lock loadD Go.Proofs.Try.prog σ 34 t88 fun t89 =>
 ((lock loadD Go.Proofs.Try.prog σ 34 e5_j15 fun t90 =>
 ((env 17 [t89, t90] σ (fun t91 σ23 =>
 (guardD t91 true
 (lock fieldAddrD Go.Proofs.Try.prog 34 b11_j15 2 fun t94 =>
 ((lock loadD Go.Proofs.Try.prog σ23 32 t94 fun t95 =>
 (lock indexAddrD Go.Proofs.Try.prog 32 t95 (.pv (.int .i64 1)) fun t96 =>
 ((lock loadD Go.Proofs.Try.prog σ23 34 t96 fun t97 =>
 ((lock loadD Go.Proofs.Try.prog σ23 34 a9_j15 fun t98 =>
 ((env 17 [t97, t98] σ23 (fun t99 σ26 =>
 (retV (t99) σ26 K)) (panV X)) ∧ True)) ∧ True)) ∧ ((lock loadD Go.Proofs.Try.prog σ23 34 a9_j15 fun t98 =>
 ((lock loadD Go.Proofs.Try.prog σ23 34 t96 fun t97 =>
 ((env 17 [t97, t98] σ23 (fun t99 σ25 =>
 (retV (t99) σ25 K)) (panV X)) ∧ True)) ∧ True)) ∧ True)))) ∧ ((lock loadD Go.Proofs.Try.prog σ23 34 a9_j15 fun t98 =>
 ((lock loadD Go.Proofs.Try.prog σ23 32 t94 fun t95 =>
 (lock indexAddrD Go.Proofs.Try.prog 32 t95 (.pv (.int .i64 1)) fun t96 =>
 ((lock loadD Go.Proofs.Try.prog σ23 34 t96 fun t97 =>
 ((env 17 [t97, t98] σ23 (fun t99 σ24 =>
 (retV (t99) σ24 K)) (panV X)) ∧ True)) ∧ True))) ∧ True)) ∧ True)))
 (((((retV ((.pv (.bool false))) σ23 K) ∧ True) ∧ True) ∧ ((((retV ((.pv (.bool false))) σ23 K) ∧ True) ∧ True) ∧ True)) ∧ (((((retV ((.pv (.bool false))) σ23 K) ∧ True) ∧ True) ∧ True) ∧ True)))) (panV X)) ∧ True)) ∧ True)) ∧ ((lock loadD Go.Proofs.Try.prog σ 34 e5_j15 fun t90 =>
 ((lock loadD Go.Proofs.Try.prog σ 34 t88 fun t89 =>
 ((env 17 [t89, t90] σ (fun t91 σ19 =>
 (guardD t91 true
 (lock fieldAddrD Go.Proofs.Try.prog 34 b11_j15 2 fun t94 =>
 ((lock loadD Go.Proofs.Try.prog σ19 32 t94 fun t95 =>
 (lock indexAddrD Go.Proofs.Try.prog 32 t95 (.pv (.int .i64 1)) fun t96 =>
 ((lock loadD Go.Proofs.Try.prog σ19 34 t96 fun t97 =>
 ((lock loadD Go.Proofs.Try.prog σ19 34 a9_j15 fun t98 =>
 ((env 17 [t97, t98] σ19 (fun t99 σ22 =>
 (retV (t99) σ22 K)) (panV X)) ∧ True)) ∧ True)) ∧ ((lock loadD Go.Proofs.Try.prog σ19 34 a9_j15 fun t98 =>
 ((lock loadD Go.Proofs.Try.prog σ19 34 t96 fun t97 =>
 ((env 17 [t97, t98] σ19 (fun t99 σ21 =>
 (retV (t99) σ21 K)) (panV X)) ∧ True)) ∧ True)) ∧ True)))) ∧ ((lock loadD Go.Proofs.Try.prog σ19 34 a9_j15 fun t98 =>
 ((lock loadD Go.Proofs.Try.prog σ19 32 t94 fun t95 =>
 (lock indexAddrD Go.Proofs.Try.prog 32 t95 (.pv (.int .i64 1)) fun t96 =>
 ((lock loadD Go.Proofs.Try.prog σ19 34 t96 fun t97 =>
 ((env 17 [t97, t98] σ19 (fun t99 σ20 =>
 (retV (t99) σ20 K)) (panV X)) ∧ True)) ∧ True))) ∧ True)) ∧ True)))
 (((((retV ((.pv (.bool false))) σ19 K) ∧ True) ∧ True) ∧ ((((retV ((.pv (.bool false))) σ19 K) ∧ True) ∧ True) ∧ True)) ∧ (((((retV ((.pv (.bool false))) σ19 K) ∧ True) ∧ True) ∧ True) ∧ True)))) (panV X)) ∧ True)) ∧ True)) ∧ True)))) ∧ ((lock loadD Go.Proofs.Try.prog σ 34 e5_j15 fun t90 =>
 ((lock loadD Go.Proofs.Try.prog σ 32 t86 fun t87 =>
 (lock indexAddrD Go.Proofs.Try.prog 32 t87 (.pv (.int .i64 0)) fun t88 =>
 ((lock loadD Go.Proofs.Try.prog σ 34 t88 fun t89 =>
 ((env 17 [t89, t90] σ (fun t91 σ15 =>
 (guardD t91 true
 (lock fieldAddrD Go.Proofs.Try.prog 34 b11_j15 2 fun t94 =>
 ((lock loadD Go.Proofs.Try.prog σ15 32 t94 fun t95 =>
 (lock indexAddrD Go.Proofs.Try.prog 32 t95 (.pv (.int .i64 1)) fun t96 =>
 ((lock loadD Go.Proofs.Try.prog σ15 34 t96 fun t97 =>
 ((lock loadD Go.Proofs.Try.prog σ15 34 a9_j15 fun t98 =>
 ((env 17 [t97, t98] σ15 (fun t99 σ18 =>
 (retV (t99) σ18 K)) (panV X)) ∧ True)) ∧ True)) ∧ ((lock loadD Go.Proofs.Try.prog σ15 34 a9_j15 fun t98 =>
 ((lock loadD Go.Proofs.Try.prog σ15 34 t96 fun t97 =>
 ((env 17 [t97, t98] σ15 (fun t99 σ17 =>
 (retV (t99) σ17 K)) (panV X)) ∧ True)) ∧ True)) ∧ True)))) ∧ ((lock loadD Go.Proofs.Try.prog σ15 34 a9_j15 fun t98 =>
 ((lock loadD Go.Proofs.Try.prog σ15 32 t94 fun t95 =>
 (lock indexAddrD Go.Proofs.Try.prog 32 t95 (.pv (.int .i64 1)) fun t96 =>
 ((lock loadD Go.Proofs.Try.prog σ15 34 t96 fun t97 =>
 ((env 17 [t97, t98] σ15 (fun t99 σ16 =>
 (retV (t99) σ16 K)) (panV X)) ∧ True)) ∧ True))) ∧ True)) ∧ True)))
 (((((retV ((.pv (.bool false))) σ15 K) ∧ True) ∧ True) ∧ ((((retV ((.pv (.bool false))) σ15 K) ∧ True) ∧ True) ∧ True)) ∧ (((((retV ((.pv (.bool false))) σ15 K) ∧ True) ∧ True) ∧ True) ∧ True)))) (panV X)) ∧ True)) ∧ True))) ∧ True)) ∧ True)))
 (((((((((retV ((.pv (.bool false))) σ K) ∧ True) ∧ True) ∧ ((((retV ((.pv (.bool false))) σ K) ∧ True) ∧ True) ∧ True)) ∧ (((((retV ((.pv (.bool false))) σ K) ∧ True) ∧ True) ∧ True) ∧ True)) ∧ True) ∧ True) ∧ ((((((((retV ((.pv (.bool false))) σ K) ∧ True) ∧ True) ∧ ((((retV ((.pv (.bool false))) σ K) ∧ True) ∧ True) ∧ True)) ∧ (((((retV ((.pv (.bool false))) σ K) ∧ True) ∧ True) ∧ True) ∧ True)) ∧ True) ∧ True) ∧ True)) ∧ (((((((((retV ((.pv (.bool false))) σ K) ∧ True) ∧ True) ∧ ((((retV ((.pv (.bool false))) σ K) ∧ True) ∧ True) ∧ True)) ∧ (((((retV ((.pv (.bool false))) σ K) ∧ True) ∧ True) ∧ True) ∧ True)) ∧ True) ∧ True) ∧ True) ∧ True)))))) ∧ True))
 ((((((((((retV ((.pv (.bool false))) σ K) ∧ True) ∧ True) ∧ ((((retV ((.pv (.bool false))) σ K) ∧ True) ∧ True) ∧ True)) ∧ (((((retV ((.pv (.bool false))) σ K) ∧ True) ∧ True) ∧ True) ∧ True)) ∧ True) ∧ True) ∧ ((((((((retV ((.pv (.bool false))) σ K) ∧ True) ∧ True) ∧ ((((retV ((.pv (.bool false))) σ K) ∧ True) ∧ True) ∧ True)) ∧ (((((retV ((.pv (.bool false))) σ K) ∧ True) ∧ True) ∧ True) ∧ True)) ∧ True) ∧ True) ∧ True)) ∧ (((((((((retV ((.pv (.bool false))) σ K) ∧ True) ∧ True) ∧ ((((retV ((.pv (.bool false))) σ K) ∧ True) ∧ True) ∧ True)) ∧ (((((retV ((.pv (.bool false))) σ K) ∧ True) ∧ True) ∧ True) ∧ True)) ∧ True) ∧ True) ∧ True) ∧ True)) ∧ True)))) ∧ True))
theorem J8_15_eq (env : Env)  (e5_j15 a9_j15 b11_j15 : AV) (σ : AS) (K : AV → AS → Prop) (X : PV → AS → Prop) : J8_15 env  e5_j15 a9_j15 b11_j15 σ K X = wpD Go.Proofs.Try.prog env an8 (subC (bodyC Go.Proofs.Try.f8) [1, 1, 1, 1, 1, 1, 1, 1, 1, 1]) (contQ Go.Proofs.Try.prog env an8 (bodyC Go.Proofs.Try.f8) [1, 1, 1, 1, 1, 1, 1, 1, 1, 1] [] (rootQ Go.Proofs.Try.prog Go.Proofs.Try.f8 K X)) [(5, e5_j15), (9, a9_j15), (11, b11_j15)] σ := by
  unfold J8_15
  kernel_rfl
def J8_8 (env : Env)  (s0_j8 t1_j8 e5_j8 f6_j8 g7_j8 h8_j8 t40_j8 : AV) (σ : AS) (K : AV → AS → Prop) (X : PV → AS → Prop) : Prop :=
 (condD t40_j8
 (lock binD Go.Proofs.Try.prog .neq 3 f6_j8 (.pv (.int .i64 0)) fun t42 =>
 (guardD t42 false
 (lock binD Go.Proofs.Try.prog .eql 3 h8_j8 (.pv (.int .i64 1)) fun t45 =>
 (guardD t45 false
 (lock binD Go.Proofs.Try.prog .eql 3 h8_j8 (.pv (.int .i64 5)) fun t49 =>
 (retV (t49) σ K))
 (retV ((.pv (.bool true))) σ K)))
 (retV ((.pv (.bool true))) σ K)))
 (lock loadD Go.Proofs.Try.prog σ 34 e5_j8 fun t51 =>
 (lock loadD Go.Proofs.Try.prog σ 34 g7_j8 fun t52 =>
 (env 17 [t51, t52] σ (fun t53 σ8 =>
 (unD .not t53 fun t54 =>
 (condD t54
 (retV ((.pv (.bool false))) σ8 K)
 (env 16 [t1_j8] σ8 (fun t57 σ9 =>
 (lock extractD t57 0 fun t58 =>
 (lock extractD t57 1 fun t59 =>
 (lock allocD Go.Proofs.Try.prog σ9 34 fun t9 σ10 =>
 (lock storeD Go.Proofs.Try.prog σ10 34 t9 t58 fun σ11 =>
 (lock binD Go.Proofs.Try.prog .add 9 (.pv (.str [40])) s0_j8 fun t62 =>
 (lock binD Go.Proofs.Try.prog .add 9 t62 (.pv (.str [41, 124, 40])) fun t63 =>
 (lock binD Go.Proofs.Try.prog .add 9 t63 t1_j8 fun t65 =>
 (lock binD Go.Proofs.Try.prog .add 9 t65 (.pv (.str [41])) fun t66 =>
 (env 16 [t66] σ11 (fun t67 σ12 =>
 (lock extractD t67 0 fun t68 =>
 (lock extractD t67 1 fun t69 =>
 (lock allocD Go.Proofs.Try.prog σ12 34 fun t11 σ13 =>
 (lock storeD Go.Proofs.Try.prog σ13 34 t11 t68 fun σ14 =>
 (lock binD Go.Proofs.Try.prog .neq 3 t59 (.pv (.int .i64 0)) fun t71 =>
 (guardD t71 false
 (lock binD Go.Proofs.Try.prog .neq 3 t69 (.pv (.int .i64 0)) fun t74 =>
 (condD t74
 (retV ((.pv (.bool true))) σ14 K)
 (J8_15 env  (e5_j8) (t9) (t11) σ14 K X)))
 (retV ((.pv (.bool true))) σ14 K)))))))) (panV X))))))))))) (panV X))))) (panV X)))))
theorem J8_8_eq (env : Env)  (s0_j8 t1_j8 e5_j8 f6_j8 g7_j8 h8_j8 t40_j8 : AV) (σ : AS) (K : AV → AS → Prop) (X : PV → AS → Prop) : J8_8 env  s0_j8 t1_j8 e5_j8 f6_j8 g7_j8 h8_j8 t40_j8 σ K X = wpD Go.Proofs.Try.prog env an8 (subC (bodyC Go.Proofs.Try.f8) [1, 1, 1, 1, 1, 0, 1]) (contQ Go.Proofs.Try.prog env an8 (bodyC Go.Proofs.Try.f8) [1, 1, 1, 1, 1, 0, 1] [] (rootQ Go.Proofs.Try.prog Go.Proofs.Try.f8 K X)) [(0, s0_j8), (1, t1_j8), (5, e5_j8), (6, f6_j8), (7, g7_j8), (8, h8_j8), (40, t40_j8)] σ := by
  unfold J8_8
  kernel_rfl
def J8_5 (env : Env)  (s0_j5 t1_j5 : AV) (σ : AS) (K : AV → AS → Prop) (X : PV → AS → Prop) : Prop :=
 (env 16 [s0_j5] σ (fun t25 σ2 =>
 (lock extractD t25 0 fun t26 =>
 (lock extractD t25 1 fun t27 =>
 (lock allocD Go.Proofs.Try.prog σ2 34 fun t5 σ3 =>
 (lock storeD Go.Proofs.Try.prog σ3 34 t5 t26 fun σ4 =>
 (lock binD Go.Proofs.Try.prog .add 9 (.pv (.str [40])) s0_j5 fun t30 =>
 (lock binD Go.Proofs.Try.prog .add 9 t30 (.pv (.str [41])) fun t31 =>
 (env 16 [t31] σ4 (fun t32 σ5 =>
 (lock extractD t32 0 fun t33 =>
 (lock extractD t32 1 fun t34 =>
 (lock allocD Go.Proofs.Try.prog σ5 34 fun t7 σ6 =>
 (lock storeD Go.Proofs.Try.prog σ6 34 t7 t33 fun σ7 =>
 (lock binD Go.Proofs.Try.prog .neq 3 t27 (.pv (.int .i64 0)) fun t36 =>
 (guardD t36 false
 (lock binD Go.Proofs.Try.prog .neq 3 t34 (.pv (.int .i64 0)) fun t39 =>
 (J8_8 env  (s0_j5) (t1_j5) (t5) (t27) (t7) (t34) (t39) σ7 K X))
 (J8_8 env  (s0_j5) (t1_j5) (t5) (t27) (t7) (t34) (.pv (.bool true)) σ7 K X)))))))) (panV X))))))))) (panV X))
theorem J8_5_eq (env : Env)  (s0_j5 t1_j5 : AV) (σ : AS) (K : AV → AS → Prop) (X : PV → AS → Prop) : J8_5 env  s0_j5 t1_j5 σ K X = wpD Go.Proofs.Try.prog env an8 (subC (bodyC Go.Proofs.Try.f8) [1, 1, 1]) (contQ Go.Proofs.Try.prog env an8 (bodyC Go.Proofs.Try.f8) [1, 1, 1] [] (rootQ Go.Proofs.Try.prog Go.Proofs.Try.f8 K X)) [(0, s0_j5), (1, t1_j5)] σ := by
  unfold J8_5
  kernel_rfl
def S8 (env : Env) (s0_a t1_a : AV) (σ : AS) (K : AV → AS → Prop) (X : PV → AS → Prop) : Prop :=
 (env 15 [] σ (fun t13 σ1 =>
 (unD .not t13 fun t14 =>
 (condD t14
 (retV ((.pv (.bool false))) σ1 K)
 (lock lenD Go.Proofs.Try.prog 9 s0_a fun t16 =>
 (lock binD Go.Proofs.Try.prog .gtr 3 t16 (.pv (.int .i64 1000)) fun t17 =>
 (guardD t17 false
 (lock lenD Go.Proofs.Try.prog 9 t1_a fun t20 =>
 (lock binD Go.Proofs.Try.prog .gtr 3 t20 (.pv (.int .i64 1000)) fun t21 =>
 (condD t21
 (retV ((.pv (.bool true))) σ1 K)
 (J8_5 env  (s0_a) (t1_a) σ1 K X))))
 (retV ((.pv (.bool true))) σ1 K))))))) (panV X))
theorem S8_eq (env : Env) (s0_a t1_a : AV) (σ : AS) (K : AV → AS → Prop) (X : PV → AS → Prop) : S8 env s0_a t1_a σ K X = bodyD Go.Proofs.Try.prog env an8 Go.Proofs.Try.f8 [s0_a, t1_a] σ K X := by
  unfold S8
  kernel_rfl
theorem S8_ok : (match Go.Proofs.Try.f8.body with | some c => okCode an8 Go.Proofs.Try.prog Go.Proofs.Try.f8.ntmps c | none => false) = true := by kernel_rfl
end Go.AD
