/- Bodies in the calculus' own words. Printed by gen.py, a program of this claim's own. -/
import Derived.Test.YtjgjmpophpifgaaDoorTy
set_option linter.unusedVariables false
set_option maxRecDepth 100000
namespace Go.AD
open Go.Proofs.Tryd
/-! ### tedder/tedderlaw06.awake (function 17) -/
def an17 : An := { mu := [], cut := [], loop := [] }
def S17 (env : Env) (σ : AS) (K : AV → AS → Prop) (X : PV → AS → Prop) : Prop :=
 (env 18 [(.pv (.str [36, 49, 32, 62, 32, 50, 32, 123, 32, 112, 114, 105, 110, 116, 32, 45, 50, 94, 50, 32, 125]))] σ (fun t6 σ1 =>
 (lock extractD t6 0 fun t7 =>
 (lock extractD t6 1 fun t8 =>
 (env 18 [(.pv (.str [123, 32, 110, 101, 120, 116, 59, 32, 125, 32, 125]))] σ1 (fun t10 σ2 =>
 (lock extractD t10 0 fun t11 =>
 (lock extractD t10 1 fun t12 =>
 (guardD t8 true
 (unD .not t12 fun t16 =>
 (guardD t16 true
 (lock lenD prog 35 t7 fun t20 =>
 (lock binD prog .eql 3 t20 (.pv (.int .i64 1)) fun t21 =>
 (guardD t21 true
 (lock indexAddrD prog 35 t7 (.pv (.int .i64 0)) fun t25 =>
 (lock fieldAddrD prog 39 t25 0 fun t26 =>
 (lock loadD prog σ2 9 t26 fun t27 =>
 (lock binD prog .eql 9 t27 (.pv (.str [114, 117, 108, 101])) fun t28 =>
 (guardD t28 true
 (lock indexAddrD prog 35 t7 (.pv (.int .i64 0)) fun t32 =>
 (lock fieldAddrD prog 39 t32 2 fun t33 =>
 (lock loadD prog σ2 35 t33 fun t34 =>
 (lock lenD prog 35 t34 fun t35 =>
 (lock binD prog .eql 3 t35 (.pv (.int .i64 2)) fun t36 =>
 (guardD t36 true
 (lock indexAddrD prog 35 t7 (.pv (.int .i64 0)) fun t40 =>
 (lock fieldAddrD prog 39 t40 2 fun t41 =>
 (lock loadD prog σ2 35 t41 fun t42 =>
 (lock indexAddrD prog 35 t42 (.pv (.int .i64 0)) fun t43 =>
 (lock fieldAddrD prog 39 t43 1 fun t44 =>
 (lock loadD prog σ2 9 t44 fun t45 =>
 (lock binD prog .eql 9 t45 (.pv (.str [62])) fun t46 =>
 (retV (t46) σ2 K))))))))
 (retV ((.pv (.bool false))) σ2 K)))))))
 (retV ((.pv (.bool false))) σ2 K))))))
 (retV ((.pv (.bool false))) σ2 K))))
 (retV ((.pv (.bool false))) σ2 K)))
 (retV ((.pv (.bool false))) σ2 K))))) (panV X))))) (panV X))
theorem S17_eq (env : Env) (σ : AS) (K : AV → AS → Prop) (X : PV → AS → Prop) : S17 env  σ K X = bodyD prog env an17 f17 [] σ K X := by
  unfold S17
  kernel_rfl
theorem S17_ok : (match f17.body with | some c => okCode an17 prog f17.ntmps c | none => false) = true := by kernel_rfl
/-! ### tedder/tedderlaw06.depth (function 19) -/
def an19 : An := { mu := [], cut := [], loop := [(3, [3, 7, 8, 9])] }
def L19_3 (env : Env) (I3 : Nat → List AV → AS → Prop) (m3 : Nat) (d3_l3 t7_l3 t8_l3 t9_l3 : AV) (σ : AS) (K : AV → AS → Prop) (X : PV → AS → Prop) : Prop :=
 (lock binD prog .lss 3 t9_l3 t8_l3 fun t10 =>
 (condD t10
 (lock indexAddrD prog 35 t7_l3 t9_l3 fun t11 =>
 (lock loadD prog σ 39 t11 fun t12 =>
 (lock allocD prog σ 39 fun t5 σ3 =>
 (lock storeD prog σ3 39 t5 t12 fun σ4 =>
 (lock loadD prog σ4 39 t5 fun t14 =>
 (env 19 [t14] σ4 (fun t15 σ5 =>
 (lock (foldD max2D) d3_l3 [t15] fun t16 =>
 (lock binD prog .add 3 t9_l3 (.pv (.int .i64 1)) fun t17 =>
 (∃ m', m' < m3 ∧ I3 m' [t16, t7_l3, t8_l3, t17] σ5)))) (panV X)))))))
 (lock binD prog .add 3 d3_l3 (.pv (.int .i64 1)) fun t19 =>
 (retV (t19) σ K))))
theorem L19_3_eq (env : Env) (I3 : Nat → List AV → AS → Prop) (m3 : Nat) (d3_l3 t7_l3 t8_l3 t9_l3 : AV) (σ : AS) (K : AV → AS → Prop) (X : PV → AS → Prop) : L19_3 env I3 m3 d3_l3 t7_l3 t8_l3 t9_l3 σ K X = wpD prog env an19 (subC (bodyC f19) [1, 1, 0, 1, 0, 0]) (contQ prog env an19 (bodyC f19) [1, 1, 0, 1, 0, 0] [(I3, m3)] (rootQ prog f19 K X)) [(3, d3_l3), (7, t7_l3), (8, t8_l3), (9, t9_l3)] σ := by
  unfold L19_3
  kernel_rfl
theorem lp19_3 {α : Type} {env : Env}  {t7_l3 t8_l3 : AV} {σ : AS} {K : AV → AS → Prop} {X : PV → AS → Prop} (μ : α → AS → Nat) (I : α → AS → Prop) (ed3_l3 et9_l3 : α → AV) (a0 : α) (h0 : I a0 σ)
 (h : ∀ a σ, I a σ → L19_3 env  (Inv (fun a => [ed3_l3 a, t7_l3, t8_l3, et9_l3 a]) μ I) (μ a σ) (ed3_l3 a) t7_l3 t8_l3 (et9_l3 a) σ K X) :
 ∃ I3 : Nat → List AV → AS → Prop, (∃ m, I3 m [ed3_l3 a0, t7_l3, t8_l3, et9_l3 a0] σ) ∧ ∀ (m : Nat) (x0 x1 x2 x3 : AV), ∀ σ, I3 m [x0, x1, x2, x3] σ →
 L19_3 env  I3 m x0 x1 x2 x3 σ K X := by
  refine ⟨Inv (fun a => [ed3_l3 a, t7_l3, t8_l3, et9_l3 a]) μ I, ⟨_, a0, rfl, rfl, h0⟩, ?_⟩
  rintro m x0 x1 x2 x3 σ' ⟨a, hv, rfl, hI⟩
  simp only [List.cons.injEq, and_true] at hv
  obtain ⟨rfl, rfl, rfl, rfl⟩ := hv
  exact h a σ' hI
def S19 (env : Env) (n0_a : AV) (σ : AS) (K : AV → AS → Prop) (X : PV → AS → Prop) : Prop :=
 (lock boxD σ n0_a fun t1 σ1 =>
 (lock fieldAddrD prog 39 t1 2 fun t6 =>
 (lock loadD prog σ1 35 t6 fun t7 =>
 (lock lenD prog 35 t7 fun t8 =>
 (∃ I3 : Nat → List AV → AS → Prop, (∃ m, I3 m [(.pv (.int .i64 0)), t7, t8, (.pv (.int .i64 0))] σ1) ∧ ∀ (m3 : Nat) (d3_l3 t7_l3 t8_l3 t9_l3 : AV), ∀ σ2, I3 m3 [d3_l3, t7_l3, t8_l3, t9_l3] σ2 →
 (L19_3 env I3 m3 d3_l3 t7_l3 t8_l3 t9_l3 σ2 K X))))))
theorem S19_eq (env : Env) (n0_a : AV) (σ : AS) (K : AV → AS → Prop) (X : PV → AS → Prop) : S19 env n0_a σ K X = bodyD prog env an19 f19 [n0_a] σ K X := by
  unfold S19
  simp only [L19_3_eq]
  kernel_rfl
theorem S19_ok : (match f19.body with | some c => okCode an19 prog f19.ntmps c | none => false) = true := by kernel_rfl
/-! ### tedder/tedderref06.Same (function 21) -/
def an21 : An := { mu := [], cut := [], loop := [(4, [0, 1, 5])] }
def L21_4 (env : Env) (I4 : Nat → List AV → AS → Prop) (m4 : Nat) (a0_l4 b1_l4 i5_l4 : AV) (σ : AS) (K : AV → AS → Prop) (X : PV → AS → Prop) : Prop :=
 (lock lenD prog 35 a0_l4 fun t13 =>
 (lock binD prog .lss 3 i5_l4 t13 fun t14 =>
 (condD t14
 (lock indexAddrD prog 35 a0_l4 i5_l4 fun t19 =>
 (lock fieldAddrD prog 39 t19 0 fun t20 =>
 (lock loadD prog σ 9 t20 fun t21 =>
 (lock indexAddrD prog 35 b1_l4 i5_l4 fun t24 =>
 (lock fieldAddrD prog 39 t24 0 fun t25 =>
 (lock loadD prog σ 9 t25 fun t26 =>
 (lock binD prog .neq 9 t21 t26 fun t27 =>
 (guardD t27 false
 (lock indexAddrD prog 35 a0_l4 i5_l4 fun t31 =>
 (lock fieldAddrD prog 39 t31 1 fun t32 =>
 (lock loadD prog σ 9 t32 fun t33 =>
 (lock indexAddrD prog 35 b1_l4 i5_l4 fun t36 =>
 (lock fieldAddrD prog 39 t36 1 fun t37 =>
 (lock loadD prog σ 9 t37 fun t38 =>
 (lock binD prog .neq 9 t33 t38 fun t39 =>
 (guardD t39 false
 (lock indexAddrD prog 35 a0_l4 i5_l4 fun t44 =>
 (lock fieldAddrD prog 39 t44 2 fun t45 =>
 (lock loadD prog σ 35 t45 fun t46 =>
 (lock indexAddrD prog 35 b1_l4 i5_l4 fun t49 =>
 (lock fieldAddrD prog 39 t49 2 fun t50 =>
 (lock loadD prog σ 35 t50 fun t51 =>
 (env 21 [t46, t51] σ (fun t52 σ2 =>
 (unD .not t52 fun t53 =>
 (condD t53
 (retV ((.pv (.bool false))) σ2 K)
 (lock binD prog .add 3 i5_l4 (.pv (.int .i64 1)) fun t16 =>
 (∃ m', m' < m4 ∧ I4 m' [a0_l4, b1_l4, t16] σ2))))) (panV X))))))))
 (retV ((.pv (.bool false))) σ K)))))))))
 (retV ((.pv (.bool false))) σ K)))))))))
 (retV ((.pv (.bool true))) σ K))))
theorem L21_4_eq (env : Env) (I4 : Nat → List AV → AS → Prop) (m4 : Nat) (a0_l4 b1_l4 i5_l4 : AV) (σ : AS) (K : AV → AS → Prop) (X : PV → AS → Prop) : L21_4 env I4 m4 a0_l4 b1_l4 i5_l4 σ K X = wpD prog env an21 (subC (bodyC f21) [1, 1, 0, 1, 0, 0]) (contQ prog env an21 (bodyC f21) [1, 1, 0, 1, 0, 0] [(I4, m4)] (rootQ prog f21 K X)) [(0, a0_l4), (1, b1_l4), (5, i5_l4)] σ := by
  unfold L21_4
  kernel_rfl
theorem lp21_4 {α : Type} {env : Env}  {a0_l4 b1_l4 : AV} {σ : AS} {K : AV → AS → Prop} {X : PV → AS → Prop} (μ : α → AS → Nat) (I : α → AS → Prop) (ei5_l4 : α → AV) (a0 : α) (h0 : I a0 σ)
 (h : ∀ a σ, I a σ → L21_4 env  (Inv (fun a => [a0_l4, b1_l4, ei5_l4 a]) μ I) (μ a σ) a0_l4 b1_l4 (ei5_l4 a) σ K X) :
 ∃ I4 : Nat → List AV → AS → Prop, (∃ m, I4 m [a0_l4, b1_l4, ei5_l4 a0] σ) ∧ ∀ (m : Nat) (x0 x1 x2 : AV), ∀ σ, I4 m [x0, x1, x2] σ →
 L21_4 env  I4 m x0 x1 x2 σ K X := by
  refine ⟨Inv (fun a => [a0_l4, b1_l4, ei5_l4 a]) μ I, ⟨_, a0, rfl, rfl, h0⟩, ?_⟩
  rintro m x0 x1 x2 σ' ⟨a, hv, rfl, hI⟩
  simp only [List.cons.injEq, and_true] at hv
  obtain ⟨rfl, rfl, rfl⟩ := hv
  exact h a σ' hI
def S21 (env : Env) (a0_a b1_a : AV) (σ : AS) (K : AV → AS → Prop) (X : PV → AS → Prop) : Prop :=
 (lock lenD prog 35 a0_a fun t7 =>
 (lock lenD prog 35 b1_a fun t9 =>
 (lock binD prog .neq 3 t7 t9 fun t10 =>
 (condD t10
 (retV ((.pv (.bool false))) σ K)
 (∃ I4 : Nat → List AV → AS → Prop, (∃ m, I4 m [a0_a, b1_a, (.pv (.int .i64 0))] σ) ∧ ∀ (m4 : Nat) (a0_l4 b1_l4 i5_l4 : AV), ∀ σ1, I4 m4 [a0_l4, b1_l4, i5_l4] σ1 →
 (L21_4 env I4 m4 a0_l4 b1_l4 i5_l4 σ1 K X))))))
theorem S21_eq (env : Env) (a0_a b1_a : AV) (σ : AS) (K : AV → AS → Prop) (X : PV → AS → Prop) : S21 env a0_a b1_a σ K X = bodyD prog env an21 f21 [a0_a, b1_a] σ K X := by
  unfold S21
  simp only [L21_4_eq]
  kernel_rfl
theorem S21_ok : (match f21.body with | some c => okCode an21 prog f21.ntmps c | none => false) = true := by kernel_rfl
end Go.AD
