/- Bodies in the calculus' own words. Printed by gen.py, a program of this claim's own. -/
import Derived.Test.YtjgjmpophpifgaaDoorTy
set_option linter.unusedVariables false
set_option maxRecDepth 100000
namespace Go.AD
/-! ### tedder/tedderlaw06.awake (function 17) -/
def an17 : An := { mu := [], cut := [], loop := [] }
def S17 (env : Env) (σ : AS) (K : AV → AS → Prop) (X : PV → AS → Prop) : Prop :=
 (env 18 [(.pv (.str [36, 49, 32, 62, 32, 50, 32, 123, 32, 112, 114, 105, 110, 116, 32, 45, 50, 94, 50, 32, 125]))] σ (fun t6 σ1 =>
 (lock extractD t6 0 fun t7 =>
 (lock extractD t6 1 fun t8 =>
 (env 18 [(.pv (.str [123, 32, 110, 101, 120, 116, 59, 32, 125, 32, 125]))] σ1 (fun t10 σ2 =>
 (lock extractD t10 0 fun t11 =>
 (lock extractD t10 1 fun t12 =>
 (guardD t8 true
 (unD .not t12 fun t16 =>
 (guardD t16 true
 (lock lenD Go.Proofs.Tryd.prog 35 t7 fun t20 =>
 (lock binD Go.Proofs.Tryd.prog .eql 3 t20 (.pv (.int .i64 1)) fun t21 =>
 (guardD t21 true
 (lock indexAddrD Go.Proofs.Tryd.prog 35 t7 (.pv (.int .i64 0)) fun t25 =>
 (lock fieldAddrD Go.Proofs.Tryd.prog 39 t25 0 fun t26 =>
 (lock loadD Go.Proofs.Tryd.prog σ2 9 t26 fun t27 =>
 (lock binD Go.Proofs.Tryd.prog .eql 9 t27 (.pv (.str [114, 117, 108, 101])) fun t28 =>
 (guardD t28 true
 (lock indexAddrD Go.Proofs.Tryd.prog 35 t7 (.pv (.int .i64 0)) fun t32 =>
 (lock fieldAddrD Go.Proofs.Tryd.prog 39 t32 2 fun t33 =>
 (lock loadD Go.Proofs.Tryd.prog σ2 35 t33 fun t34 =>
 (lock lenD Go.Proofs.Tryd.prog 35 t34 fun t35 =>
 (lock binD Go.Proofs.Tryd.prog .eql 3 t35 (.pv (.int .i64 2)) fun t36 =>
 (guardD t36 true
 (lock indexAddrD Go.Proofs.Tryd.prog 35 t7 (.pv (.int .i64 0)) fun t40 =>
 (lock fieldAddrD Go.Proofs.Tryd.prog 39 t40 2 fun t41 =>
 (lock loadD Go.Proofs.Tryd.prog σ2 35 t41 fun t42 =>
 (lock indexAddrD Go.Proofs.Tryd.prog 35 t42 (.pv (.int .i64 0)) fun t43 =>
 (lock fieldAddrD Go.Proofs.Tryd.prog 39 t43 1 fun t44 =>
 (lock loadD Go.Proofs.Tryd.prog σ2 9 t44 fun t45 =>
 (lock binD Go.Proofs.Tryd.prog .eql 9 t45 (.pv (.str [62])) fun t46 =>
 (retV (t46) σ2 K))))))))
 (retV ((.pv (.bool false))) σ2 K)))))))
 (retV ((.pv (.bool false))) σ2 K))))))
 (retV ((.pv (.bool false))) σ2 K))))
 (retV ((.pv (.bool false))) σ2 K)))
 (retV ((.pv (.bool false))) σ2 K))))) (panV X))))) (panV X))
theorem S17_eq (env : Env) (σ : AS) (K : AV → AS → Prop) (X : PV → AS → Prop) : S17 env  σ K X = bodyD Go.Proofs.Tryd.prog env an17 Go.Proofs.Tryd.f17 [] σ K X := by
  unfold S17
  kernel_rfl
theorem S17_ok : (match Go.Proofs.Tryd.f17.body with | some c => okCode an17 Go.Proofs.Tryd.prog Go.Proofs.Tryd.f17.ntmps c | none => false) = true := by kernel_rfl
/-! ### tedder/tedderlaw06.depth (function 19) -/
def an19 : An := { mu := [], cut := [], loop := [(3, [3, 7, 8, 9])] }
def L19_3 (env : Env) (I3 : Nat → List AV → AS → Prop) (m3 : Nat) (d3_l3 t7_l3 t8_l3 t9_l3 : AV) (σ : AS) (K : AV → AS → Prop) (X : PV → AS → Prop) : Prop :=
 (lock binD Go.Proofs.Tryd.prog .lss 3 t9_l3 t8_l3 fun t10 =>
 (condD t10
 (lock indexAddrD Go.Proofs.Tryd.prog 35 t7_l3 t9_l3 fun t11 =>
 (lock loadD Go.Proofs.Tryd.prog σ 39 t11 fun t12 =>
 (lock allocD Go.Proofs.Tryd.prog σ 39 fun t5 σ3 =>
 (lock storeD Go.Proofs.Tryd.prog σ3 39 t5 t12 fun σ4 =>
 (lock loadD Go.Proofs.Tryd.prog σ4 39 t5 fun t14 =>
 (env 19 [t14] σ4 (fun t15 σ5 =>
 (lock (foldD max2D) d3_l3 [t15] fun t16 =>
 (lock binD Go.Proofs.Tryd.prog .add 3 t9_l3 (.pv (.int .i64 1)) fun t17 =>
 (∃ m', m' < m3 ∧ I3 m' [t16, t7_l3, t8_l3, t17] σ5)))) (panV X)))))))
 (lock binD Go.Proofs.Tryd.prog .add 3 d3_l3 (.pv (.int .i64 1)) fun t19 =>
 (retV (t19) σ K))))
theorem L19_3_eq (env : Env) (I3 : Nat → List AV → AS → Prop) (m3 : Nat) (d3_l3 t7_l3 t8_l3 t9_l3 : AV) (σ : AS) (K : AV → AS → Prop) (X : PV → AS → Prop) : L19_3 env I3 m3 d3_l3 t7_l3 t8_l3 t9_l3 σ K X = wpD Go.Proofs.Tryd.prog env an19 (subC (bodyC Go.Proofs.Tryd.f19) [1, 1, 0, 1, 0, 0]) (contQ Go.Proofs.Tryd.prog env an19 (bodyC Go.Proofs.Tryd.f19) [1, 1, 0, 1, 0, 0] [(I3, m3)] (rootQ Go.Proofs.Tryd.prog Go.Proofs.Tryd.f19 K X)) [(3, d3_l3), (7, t7_l3), (8, t8_l3), (9, t9_l3)] σ := by
  unfold L19_3
  kernel_rfl
theorem lp19_3 {α : Type} {env : Env}  {t7_l3 t8_l3 : AV} {σ : AS} {K : AV → AS → Prop} {X : PV → AS → Prop} (μ : α → AS → Nat) (I : α → AS → Prop) (ed3_l3 et9_l3 : α → AV) (a0 : α) (h0 : I a0 σ)
 (h : ∀ a σ, I a σ → L19_3 env  (Inv (fun a => [ed3_l3 a, t7_l3, t8_l3, et9_l3 a]) μ I) (μ a σ) (ed3_l3 a) t7_l3 t8_l3 (et9_l3 a) σ K X) :
 ∃ I3 : Nat → List AV → AS → Prop, (∃ m, I3 m [ed3_l3 a0, t7_l3, t8_l3, et9_l3 a0] σ) ∧ ∀ (m : Nat) (x0 x1 x2 x3 : AV), ∀ σ, I3 m [x0, x1, x2, x3] σ →
 L19_3 env  I3 m x0 x1 x2 x3 σ K X := by
  refine ⟨Inv (fun a => [ed3_l3 a, t7_l3, t8_l3, et9_l3 a]) μ I, ⟨_, a0, rfl, rfl, h0⟩, ?_⟩
  rintro m x0 x1 x2 x3 σ' ⟨a, hv, rfl, hI⟩
  simp only [List.cons.injEq, and_true] at hv
  obtain ⟨rfl, rfl, rfl, rfl⟩ := hv
  exact h a σ' hI
def S19 (env : Env) (n0_a : AV) (σ : AS) (K : AV → AS → Prop) (X : PV → AS → Prop) : Prop :=
 (lock boxD σ n0_a fun t1 σ1 =>
 (lock fieldAddrD Go.Proofs.Tryd.prog 39 t1 2 fun t6 =>
 (lock loadD Go.Proofs.Tryd.prog σ1 35 t6 fun t7 =>
 (lock lenD Go.Proofs.Tryd.prog 35 t7 fun t8 =>
 (∃ I3 : Nat → List AV → AS → Prop, (∃ m, I3 m [(.pv (.int .i64 0)), t7, t8, (.pv (.int .i64 0))] σ1) ∧ ∀ (m3 : Nat) (d3_l3 t7_l3 t8_l3 t9_l3 : AV), ∀ σ2, I3 m3 [d3_l3, t7_l3, t8_l3, t9_l3] σ2 →
 (L19_3 env I3 m3 d3_l3 t7_l3 t8_l3 t9_l3 σ2 K X))))))
theorem S19_eq (env : Env) (n0_a : AV) (σ : AS) (K : AV → AS → Prop) (X : PV → AS → Prop) : S19 env n0_a σ K X = bodyD Go.Proofs.Tryd.prog env an19 Go.Proofs.Tryd.f19 [n0_a] σ K X := by
  unfold S19
  simp only [L19_3_eq]
  kernel_rfl
theorem S19_ok : (match Go.Proofs.Tryd.f19.body with | some c => okCode an19 Go.Proofs.Tryd.prog Go.Proofs.Tryd.f19.ntmps c | none => false) = true := by kernel_rfl
/-! ### tedder/tedderref06.Same (function 21) -/
def an21 : An := { mu := [], cut := [], loop := [(4, [0, 1, 5])] }
def L21_4 (env : Env) (I4 : Nat → List AV → AS → Prop) (m4 : Nat) (a0_l4 b1_l4 i5_l4 : AV) (σ : AS) (K : AV → AS → Prop) (X : PV → AS → Prop) : Prop :=
 (lock lenD Go.Proofs.Tryd.prog 35 a0_l4 fun t13 =>
 (lock binD Go.Proofs.Tryd.prog .lss 3 i5_l4 t13 fun t14 =>
 (condD t14
 (lock indexAddrD Go.Proofs.Tryd.prog 35 a0_l4 i5_l4 fun t19 =>
 (lock fieldAddrD Go.Proofs.Tryd.prog 39 t19 0 fun t20 =>
 (lock loadD Go.Proofs.Tryd.prog σ 9 t20 fun t21 =>
 (lock indexAddrD Go.Proofs.Tryd.prog 35 b1_l4 i5_l4 fun t24 =>
 (lock fieldAddrD Go.Proofs.Tryd.prog 39 t24 0 fun t25 =>
 (lock loadD Go.Proofs.Tryd.prog σ 9 t25 fun t26 =>
 (lock binD Go.Proofs.Tryd.prog .neq 9 t21 t26 fun t27 =>
 (guardD t27 false
 (lock indexAddrD Go.Proofs.Tryd.prog 35 a0_l4 i5_l4 fun t31 =>
 (lock fieldAddrD Go.Proofs.Tryd.prog 39 t31 1 fun t32 =>
 (lock loadD Go.Proofs.Tryd.prog σ 9 t32 fun t33 =>
 (lock indexAddrD Go.Proofs.Tryd.prog 35 b1_l4 i5_l4 fun t36 =>
 (lock fieldAddrD Go.Proofs.Tryd.prog 39 t36 1 fun t37 =>
 (lock loadD Go.Proofs.Tryd.prog σ 9 t37 fun t38 =>
 (lock binD Go.Proofs.Tryd.prog .neq 9 t33 t38 fun t39 =>
 (guardD t39 false
 (lock indexAddrD Go.Proofs.Tryd.prog 35 a0_l4 i5_l4 fun t44 =>
 (lock fieldAddrD Go.Proofs.Tryd.prog 39 t44 2 fun t45 =>
 (lock loadD Go.Proofs.Tryd.prog σ 35 t45 fun t46 =>
 (lock indexAddrD Go.Proofs.Tryd.prog 35 b1_l4 i5_l4 fun t49 =>
 (lock fieldAddrD Go.Proofs.Tryd.prog 39 t49 2 fun t50 =>
 (lock loadD Go.Proofs.Tryd.prog σ 35 t50 fun t51 =>
 (env 21 [t46, t51] σ (fun t52 σ2 =>
 (unD .not t52 fun t53 =>
 (condD t53
 (retV ((.pv (.bool false))) σ2 K)
 (lock binD Go.Proofs.Tryd.prog .add 3 i5_l4 (.pv (.int .i64 1)) fun t16 =>
 (∃ m', m' < m4 ∧ I4 m' [a0_l4, b1_l4, t16] σ2))))) (panV X))))))))
 (retV ((.pv (.bool false))) σ K)))))))))
 (retV ((.pv (.bool false))) σ K)))))))))
 (retV ((.pv (.bool true))) σ K))))
theorem L21_4_eq (env : Env) (I4 : Nat → List AV → AS → Prop) (m4 : Nat) (a0_l4 b1_l4 i5_l4 : AV) (σ : AS) (K : AV → AS → Prop) (X : PV → AS → Prop) : L21_4 env I4 m4 a0_l4 b1_l4 i5_l4 σ K X = wpD Go.Proofs.Tryd.prog env an21 (subC (bodyC Go.Proofs.Tryd.f21) [1, 1, 0, 1, 0, 0]) (contQ Go.Proofs.Tryd.prog env an21 (bodyC Go.Proofs.Tryd.f21) [1, 1, 0, 1, 0, 0] [(I4, m4)] (rootQ Go.Proofs.Tryd.prog Go.Proofs.Tryd.f21 K X)) [(0, a0_l4), (1, b1_l4), (5, i5_l4)] σ := by
  unfold L21_4
  kernel_rfl
theorem lp21_4 {α : Type} {env : Env}  {a0_l4 b1_l4 : AV} {σ : AS} {K : AV → AS → Prop} {X : PV → AS → Prop} (μ : α → AS → Nat) (I : α → AS → Prop) (ei5_l4 : α → AV) (a0 : α) (h0 : I a0 σ)
 (h : ∀ a σ, I a σ → L21_4 env  (Inv (fun a => [a0_l4, b1_l4, ei5_l4 a]) μ I) (μ a σ) a0_l4 b1_l4 (ei5_l4 a) σ K X) :
 ∃ I4 : Nat → List AV → AS → Prop, (∃ m, I4 m [a0_l4, b1_l4, ei5_l4 a0] σ) ∧ ∀ (m : Nat) (x0 x1 x2 : AV), ∀ σ, I4 m [x0, x1, x2] σ →
 L21_4 env  I4 m x0 x1 x2 σ K X := by
  refine ⟨Inv (fun a => [a0_l4, b1_l4, ei5_l4 a]) μ I, ⟨_, a0, rfl, rfl, h0⟩, ?_⟩
  rintro m x0 x1 x2 σ' ⟨a, hv, rfl, hI⟩
  simp only [List.cons.injEq, and_true] at hv
  obtain ⟨rfl, rfl, rfl⟩ := hv
  exact h a σ' hI
def S21 (env : Env) (a0_a b1_a : AV) (σ : AS) (K : AV → AS → Prop) (X : PV → AS → Prop) : Prop :=
 (lock lenD Go.Proofs.Tryd.prog 35 a0_a fun t7 =>
 (lock lenD Go.Proofs.Tryd.prog 35 b1_a fun t9 =>
 (lock binD Go.Proofs.Tryd.prog .neq 3 t7 t9 fun t10 =>
 (condD t10
 (retV ((.pv (.bool false))) σ K)
 (∃ I4 : Nat → List AV → AS → Prop, (∃ m, I4 m [a0_a, b1_a, (.pv (.int .i64 0))] σ) ∧ ∀ (m4 : Nat) (a0_l4 b1_l4 i5_l4 : AV), ∀ σ1, I4 m4 [a0_l4, b1_l4, i5_l4] σ1 →
 (L21_4 env I4 m4 a0_l4 b1_l4 i5_l4 σ1 K X))))))
theorem S21_eq (env : Env) (a0_a b1_a : AV) (σ : AS) (K : AV → AS → Prop) (X : PV → AS → Prop) : S21 env a0_a b1_a σ K X = bodyD Go.Proofs.Tryd.prog env an21 Go.Proofs.Tryd.f21 [a0_a, b1_a] σ K X := by
  unfold S21
  simp only [L21_4_eq]
  kernel_rfl
theorem S21_ok : (match Go.Proofs.Tryd.f21.body with | some c => okCode an21 Go.Proofs.Tryd.prog Go.Proofs.Tryd.f21.ntmps c | none => false) = true := by kernel_rfl
/-! ### tedder/tedderlaw06.SyntaxJoins (function 7) -/
def an7 : An := { mu := [], cut := [(5, [0, 1]), (10, [0, 1, 5, 7])], loop := [] }
def J7_10 (env : Env)  (s0_j10 t1_j10 a5_j10 b7_j10 : AV) (σ : AS) (K : AV → AS → Prop) (X : PV → AS → Prop) : Prop :=
 (lock binD Go.Proofs.Tryd.prog .add 9 s0_j10 (.pv (.str [10])) fun t54 =>
 (lock binD Go.Proofs.Tryd.prog .add 9 t54 t1_j10 fun t56 =>
 (env 18 [t56] σ (fun t57 σ4 =>
 (lock extractD t57 0 fun t58 =>
 (lock extractD t57 1 fun t59 =>
 (guardD t59 true
 (lock buildSliceD Go.Proofs.Tryd.prog false σ4 35 0 0 [] fun t63 σ5 =>
 (lock appendD Go.Proofs.Tryd.prog false σ5 35 t63 a5_j10 fun t65 σ6 =>
 (lock appendD Go.Proofs.Tryd.prog false σ6 35 t65 b7_j10 fun t67 σ7 =>
 (env 21 [t58, t67] σ7 (fun t68 σ8 =>
 (retV (t68) σ8 K)) (panV X)))))
 (retV ((.pv (.bool false))) σ4 K))))) (panV X))))
theorem J7_10_eq (env : Env)  (s0_j10 t1_j10 a5_j10 b7_j10 : AV) (σ : AS) (K : AV → AS → Prop) (X : PV → AS → Prop) : J7_10 env  s0_j10 t1_j10 a5_j10 b7_j10 σ K X = wpD Go.Proofs.Tryd.prog env an7 (subC (bodyC Go.Proofs.Tryd.f7) [1, 1, 1, 1, 1, 1, 1]) (contQ Go.Proofs.Tryd.prog env an7 (bodyC Go.Proofs.Tryd.f7) [1, 1, 1, 1, 1, 1, 1] [] (rootQ Go.Proofs.Tryd.prog Go.Proofs.Tryd.f7 K X)) [(0, s0_j10), (1, t1_j10), (5, a5_j10), (7, b7_j10)] σ := by
  unfold J7_10
  kernel_rfl
def J7_5 (env : Env)  (s0_j5 t1_j5 : AV) (σ : AS) (K : AV → AS → Prop) (X : PV → AS → Prop) : Prop :=
 (lock binD Go.Proofs.Tryd.prog .add 9 (.pv (.str [66, 69, 71, 73, 78, 32, 123, 125, 10])) t1_j5 fun t35 =>
 (env 18 [s0_j5] σ (fun t38 σ2 =>
 (lock extractD t38 0 fun t39 =>
 (lock extractD t38 1 fun t40 =>
 (env 18 [t35] σ2 (fun t43 σ3 =>
 (lock extractD t43 0 fun t44 =>
 (lock extractD t43 1 fun t45 =>
 (unD .not t40 fun t47 =>
 (guardD t47 false
 (unD .not t45 fun t50 =>
 (condD t50
 (retV ((.pv (.bool true))) σ3 K)
 (J7_10 env  (s0_j5) (t35) (t39) (t44) σ3 K X)))
 (retV ((.pv (.bool true))) σ3 K)))))) (panV X))))) (panV X)))
theorem J7_5_eq (env : Env)  (s0_j5 t1_j5 : AV) (σ : AS) (K : AV → AS → Prop) (X : PV → AS → Prop) : J7_5 env  s0_j5 t1_j5 σ K X = wpD Go.Proofs.Tryd.prog env an7 (subC (bodyC Go.Proofs.Tryd.f7) [1, 1, 1]) (contQ Go.Proofs.Tryd.prog env an7 (bodyC Go.Proofs.Tryd.f7) [1, 1, 1] [] (rootQ Go.Proofs.Tryd.prog Go.Proofs.Tryd.f7 K X)) [(0, s0_j5), (1, t1_j5)] σ := by
  unfold J7_5
  kernel_rfl
def S7 (env : Env) (s0_a t1_a : AV) (σ : AS) (K : AV → AS → Prop) (X : PV → AS → Prop) : Prop :=
 (env 17 [] σ (fun t11 σ1 =>
 (unD .not t11 fun t12 =>
 (condD t12
 (retV ((.pv (.bool false))) σ1 K)
 (lock lenD Go.Proofs.Tryd.prog 9 s0_a fun t14 =>
 (lock binD Go.Proofs.Tryd.prog .gtr 3 t14 (.pv (.int .i64 1500)) fun t15 =>
 (guardD t15 false
 (lock lenD Go.Proofs.Tryd.prog 9 t1_a fun t18 =>
 (lock binD Go.Proofs.Tryd.prog .gtr 3 t18 (.pv (.int .i64 1500)) fun t19 =>
 (guardD t19 false
 (lock lenD Go.Proofs.Tryd.prog 9 s0_a fun t23 =>
 (lock binD Go.Proofs.Tryd.prog .gtr 3 t23 (.pv (.int .i64 0)) fun t24 =>
 (guardD t24 true
 (lock lenD Go.Proofs.Tryd.prog 9 s0_a fun t28 =>
 (lock binD Go.Proofs.Tryd.prog .sub 3 t28 (.pv (.int .i64 1)) fun t29 =>
 (lock indexD Go.Proofs.Tryd.prog 9 s0_a t29 fun t30 =>
 (lock binD Go.Proofs.Tryd.prog .eql 5 t30 (.pv (.int .u8 92)) fun t31 =>
 (condD t31
 (retV ((.pv (.bool true))) σ1 K)
 (J7_5 env  (s0_a) (t1_a) σ1 K X))))))
 (J7_5 env  (s0_a) (t1_a) σ1 K X))))
 (retV ((.pv (.bool true))) σ1 K))))
 (retV ((.pv (.bool true))) σ1 K))))))) (panV X))
theorem S7_eq (env : Env) (s0_a t1_a : AV) (σ : AS) (K : AV → AS → Prop) (X : PV → AS → Prop) : S7 env s0_a t1_a σ K X = bodyD Go.Proofs.Tryd.prog env an7 Go.Proofs.Tryd.f7 [s0_a, t1_a] σ K X := by
  unfold S7
  kernel_rfl
theorem S7_ok : (match Go.Proofs.Tryd.f7.body with | some c => okCode an7 Go.Proofs.Tryd.prog Go.Proofs.Tryd.f7.ntmps c | none => false) = true := by kernel_rfl
/-! ### tedder/tedderlaw06.SyntaxBraces (function 8) -/
def an8 : An := { mu := [], cut := [(5, [0]), (9, [3, 5, 6])], loop := [] }
def J8_9 (env : Env)  (a3_j9 b5_j9 yes6_j9 : AV) (σ : AS) (K : AV → AS → Prop) (X : PV → AS → Prop) : Prop :=
 (lock indexAddrD Go.Proofs.Tryd.prog 35 a3_j9 (.pv (.int .i64 0)) fun t64 =>
 (lock loadD Go.Proofs.Tryd.prog σ 39 t64 fun t65 =>
 (env 19 [t65] σ (fun t66 σ4 =>
 (lock binD Go.Proofs.Tryd.prog .geq 3 t66 (.pv (.int .i64 200)) fun t67 =>
 (condD t67
 (retV ((.pv (.bool true))) σ4 K)
 (guardD yes6_j9 true
 (lock lenD Go.Proofs.Tryd.prog 35 b5_j9 fun t71 =>
 (lock binD Go.Proofs.Tryd.prog .eql 3 t71 (.pv (.int .i64 1)) fun t72 =>
 (guardD t72 true
 (lock indexAddrD Go.Proofs.Tryd.prog 35 b5_j9 (.pv (.int .i64 0)) fun t76 =>
 (lock fieldAddrD Go.Proofs.Tryd.prog 39 t76 2 fun t77 =>
 (lock loadD Go.Proofs.Tryd.prog σ4 35 t77 fun t78 =>
 (lock lenD Go.Proofs.Tryd.prog 35 t78 fun t79 =>
 (lock binD Go.Proofs.Tryd.prog .eql 3 t79 (.pv (.int .i64 2)) fun t80 =>
 (guardD t80 true
 (lock indexAddrD Go.Proofs.Tryd.prog 35 b5_j9 (.pv (.int .i64 0)) fun t84 =>
 (lock fieldAddrD Go.Proofs.Tryd.prog 39 t84 2 fun t85 =>
 (lock loadD Go.Proofs.Tryd.prog σ4 35 t85 fun t86 =>
 (lock indexAddrD Go.Proofs.Tryd.prog 35 t86 (.pv (.int .i64 1)) fun t87 =>
 (lock fieldAddrD Go.Proofs.Tryd.prog 39 t87 2 fun t88 =>
 (lock loadD Go.Proofs.Tryd.prog σ4 35 t88 fun t89 =>
 (lock lenD Go.Proofs.Tryd.prog 35 t89 fun t90 =>
 (lock binD Go.Proofs.Tryd.prog .eql 3 t90 (.pv (.int .i64 1)) fun t91 =>
 (guardD t91 true
 (lock indexAddrD Go.Proofs.Tryd.prog 35 b5_j9 (.pv (.int .i64 0)) fun t95 =>
 (lock fieldAddrD Go.Proofs.Tryd.prog 39 t95 2 fun t96 =>
 (lock loadD Go.Proofs.Tryd.prog σ4 35 t96 fun t97 =>
 (lock indexAddrD Go.Proofs.Tryd.prog 35 t97 (.pv (.int .i64 1)) fun t98 =>
 (lock fieldAddrD Go.Proofs.Tryd.prog 39 t98 2 fun t99 =>
 (lock loadD Go.Proofs.Tryd.prog σ4 35 t99 fun t100 =>
 (lock indexAddrD Go.Proofs.Tryd.prog 35 a3_j9 (.pv (.int .i64 0)) fun t102 =>
 (lock fieldAddrD Go.Proofs.Tryd.prog 39 t102 2 fun t103 =>
 (lock loadD Go.Proofs.Tryd.prog σ4 35 t103 fun t104 =>
 (lock sliceD Go.Proofs.Tryd.prog 35 t104 (some (.pv (.int .i64 1))) none fun t105 =>
 (env 21 [t100, t105] σ4 (fun t106 σ5 =>
 (retV (t106) σ5 K)) (panV X))))))))))))
 (retV ((.pv (.bool false))) σ4 K))))))))))
 (retV ((.pv (.bool false))) σ4 K)))))))
 (retV ((.pv (.bool false))) σ4 K))))
 (retV ((.pv (.bool false))) σ4 K))))) (panV X))))
theorem J8_9_eq (env : Env)  (a3_j9 b5_j9 yes6_j9 : AV) (σ : AS) (K : AV → AS → Prop) (X : PV → AS → Prop) : J8_9 env  a3_j9 b5_j9 yes6_j9 σ K X = wpD Go.Proofs.Tryd.prog env an8 (subC (bodyC Go.Proofs.Tryd.f8) [1, 1, 1, 1, 1, 1]) (contQ Go.Proofs.Tryd.prog env an8 (bodyC Go.Proofs.Tryd.f8) [1, 1, 1, 1, 1, 1] [] (rootQ Go.Proofs.Tryd.prog Go.Proofs.Tryd.f8 K X)) [(3, a3_j9), (5, b5_j9), (6, yes6_j9)] σ := by
  unfold J8_9
  kernel_rfl
def J8_5 (env : Env)  (s0_j5 : AV) (σ : AS) (K : AV → AS → Prop) (X : PV → AS → Prop) : Prop :=
 (lock binD Go.Proofs.Tryd.prog .add 9 (.pv (.str [123])) s0_j5 fun t27 =>
 (lock binD Go.Proofs.Tryd.prog .add 9 t27 (.pv (.str [10, 125])) fun t28 =>
 (env 18 [t28] σ (fun t29 σ2 =>
 (lock extractD t29 0 fun t30 =>
 (lock extractD t29 1 fun t31 =>
 (lock binD Go.Proofs.Tryd.prog .add 9 (.pv (.str [123, 123])) s0_j5 fun t34 =>
 (lock binD Go.Proofs.Tryd.prog .add 9 t34 (.pv (.str [10, 125, 59, 10, 125])) fun t35 =>
 (env 18 [t35] σ2 (fun t36 σ3 =>
 (lock extractD t36 0 fun t37 =>
 (lock extractD t36 1 fun t38 =>
 (unD .not t31 fun t40 =>
 (guardD t40 false
 (lock lenD Go.Proofs.Tryd.prog 35 t30 fun t43 =>
 (lock binD Go.Proofs.Tryd.prog .neq 3 t43 (.pv (.int .i64 1)) fun t44 =>
 (guardD t44 false
 (lock indexAddrD Go.Proofs.Tryd.prog 35 t30 (.pv (.int .i64 0)) fun t48 =>
 (lock fieldAddrD Go.Proofs.Tryd.prog 39 t48 0 fun t49 =>
 (lock loadD Go.Proofs.Tryd.prog σ3 9 t49 fun t50 =>
 (lock binD Go.Proofs.Tryd.prog .neq 9 t50 (.pv (.str [114, 117, 108, 101])) fun t51 =>
 (guardD t51 false
 (lock indexAddrD Go.Proofs.Tryd.prog 35 t30 (.pv (.int .i64 0)) fun t55 =>
 (lock fieldAddrD Go.Proofs.Tryd.prog 39 t55 2 fun t56 =>
 (lock loadD Go.Proofs.Tryd.prog σ3 35 t56 fun t57 =>
 (lock indexAddrD Go.Proofs.Tryd.prog 35 t57 (.pv (.int .i64 1)) fun t58 =>
 (lock fieldAddrD Go.Proofs.Tryd.prog 39 t58 0 fun t59 =>
 (lock loadD Go.Proofs.Tryd.prog σ3 9 t59 fun t60 =>
 (lock binD Go.Proofs.Tryd.prog .neq 9 t60 (.pv (.str [98, 108, 111, 99, 107])) fun t61 =>
 (condD t61
 (retV ((.pv (.bool true))) σ3 K)
 (J8_9 env  (t30) (t37) (t38) σ3 K X)))))))))
 (retV ((.pv (.bool true))) σ3 K))))))
 (retV ((.pv (.bool true))) σ3 K))))
 (retV ((.pv (.bool true))) σ3 K)))))) (panV X))))))) (panV X))))
theorem J8_5_eq (env : Env)  (s0_j5 : AV) (σ : AS) (K : AV → AS → Prop) (X : PV → AS → Prop) : J8_5 env  s0_j5 σ K X = wpD Go.Proofs.Tryd.prog env an8 (subC (bodyC Go.Proofs.Tryd.f8) [1, 1, 1]) (contQ Go.Proofs.Tryd.prog env an8 (bodyC Go.Proofs.Tryd.f8) [1, 1, 1] [] (rootQ Go.Proofs.Tryd.prog Go.Proofs.Tryd.f8 K X)) [(0, s0_j5)] σ := by
  unfold J8_5
  kernel_rfl
def S8 (env : Env) (s0_a : AV) (σ : AS) (K : AV → AS → Prop) (X : PV → AS → Prop) : Prop :=
 (env 17 [] σ (fun t7 σ1 =>
 (unD .not t7 fun t8 =>
 (condD t8
 (retV ((.pv (.bool false))) σ1 K)
 (lock lenD Go.Proofs.Tryd.prog 9 s0_a fun t10 =>
 (lock binD Go.Proofs.Tryd.prog .gtr 3 t10 (.pv (.int .i64 1500)) fun t11 =>
 (guardD t11 false
 (lock lenD Go.Proofs.Tryd.prog 9 s0_a fun t14 =>
 (lock binD Go.Proofs.Tryd.prog .gtr 3 t14 (.pv (.int .i64 0)) fun t15 =>
 (guardD t15 true
 (lock lenD Go.Proofs.Tryd.prog 9 s0_a fun t19 =>
 (lock binD Go.Proofs.Tryd.prog .sub 3 t19 (.pv (.int .i64 1)) fun t20 =>
 (lock indexD Go.Proofs.Tryd.prog 9 s0_a t20 fun t21 =>
 (lock binD Go.Proofs.Tryd.prog .eql 5 t21 (.pv (.int .u8 92)) fun t22 =>
 (condD t22
 (retV ((.pv (.bool true))) σ1 K)
 (J8_5 env  (s0_a) σ1 K X))))))
 (J8_5 env  (s0_a) σ1 K X))))
 (retV ((.pv (.bool true))) σ1 K))))))) (panV X))
theorem S8_eq (env : Env) (s0_a : AV) (σ : AS) (K : AV → AS → Prop) (X : PV → AS → Prop) : S8 env s0_a σ K X = bodyD Go.Proofs.Tryd.prog env an8 Go.Proofs.Tryd.f8 [s0_a] σ K X := by
  unfold S8
  kernel_rfl
theorem S8_ok : (match Go.Proofs.Tryd.f8.body with | some c => okCode an8 Go.Proofs.Tryd.prog Go.Proofs.Tryd.f8.ntmps c | none => false) = true := by kernel_rfl
end Go.AD
