/- Bodies in the calculus' own words. Printed by gen.py, a program of this claim's own. -/
import Derived.Test.YtjgjmpophpifgaaDoorTy
set_option linter.unusedVariables false
set_option maxRecDepth 100000
namespace Go.AD
/-! ### tedder/input.blocks (function 23) -/
def an23 : An := { mu := [], cut := [], loop := [(4, [0, 3, 4, 5])] }
def L23_4 (env : Env) (I4 : Nat → List AV → AS → Prop) (m4 : Nat) (s0_l4 l3_l4 end4_l4 at5_l4 : AV) (σ : AS) (K : AV → AS → Prop) (X : PV → AS → Prop) : Prop :=
 (lock binD Go.Proofs.Tryd.prog .lss 3 at5_l4 end4_l4 fun t19 =>
 (condD t19
 (lock sliceD Go.Proofs.Tryd.prog 9 s0_l4 (some at5_l4) (some end4_l4) fun t23 =>
 (env 42 [t23, (.pv (.str [10, 10]))] σ (fun t24 σ4 =>
 (lock binD Go.Proofs.Tryd.prog .lss 3 t24 (.pv (.int .i64 0)) fun t26 =>
 (condD t26
 (lock buildD Go.Proofs.Tryd.prog 25 [(0, at5_l4), (1, end4_l4)] fun t30 =>
 (lock buildSliceD Go.Proofs.Tryd.prog false σ4 23 1 1 [(0, t30)] fun t31 σ5 =>
 (lock appendD Go.Proofs.Tryd.prog false σ5 23 l3_l4 t31 fun t32 σ6 =>
 (retV (t32) σ6 K))))
 (lock binD Go.Proofs.Tryd.prog .add 3 at5_l4 t24 fun t37 =>
 (lock buildD Go.Proofs.Tryd.prog 25 [(0, at5_l4), (1, t37)] fun t38 =>
 (lock buildSliceD Go.Proofs.Tryd.prog false σ4 23 1 1 [(0, t38)] fun t39 σ7 =>
 (lock appendD Go.Proofs.Tryd.prog false σ7 23 l3_l4 t39 fun t40 σ8 =>
 (lock binD Go.Proofs.Tryd.prog .add 3 at5_l4 t24 fun t44 =>
 (lock sliceD Go.Proofs.Tryd.prog 9 s0_l4 (some t44) none fun t45 =>
 (lock lenD Go.Proofs.Tryd.prog 9 t45 fun t49 =>
 (lock binD Go.Proofs.Tryd.prog .add 3 t24 t49 fun t50 =>
 (env 41 [t45, (.pv (.str [10]))] σ8 (fun t52 σ9 =>
 (lock lenD Go.Proofs.Tryd.prog 9 t52 fun t53 =>
 (lock binD Go.Proofs.Tryd.prog .sub 3 t50 t53 fun t54 =>
 (lock binD Go.Proofs.Tryd.prog .add 3 at5_l4 t54 fun t55 =>
 (∃ m', m' < m4 ∧ I4 m' [s0_l4, t40, end4_l4, t55] σ9))))) (panV X))))))))))))) (panV X)))
 (retV (l3_l4) σ K)))
theorem L23_4_eq (env : Env) (I4 : Nat → List AV → AS → Prop) (m4 : Nat) (s0_l4 l3_l4 end4_l4 at5_l4 : AV) (σ : AS) (K : AV → AS → Prop) (X : PV → AS → Prop) : L23_4 env I4 m4 s0_l4 l3_l4 end4_l4 at5_l4 σ K X = wpD Go.Proofs.Tryd.prog env an23 (subC (bodyC Go.Proofs.Tryd.f23) [1, 1, 1, 0, 1, 0, 0]) (contQ Go.Proofs.Tryd.prog env an23 (bodyC Go.Proofs.Tryd.f23) [1, 1, 1, 0, 1, 0, 0] [(I4, m4)] (rootQ Go.Proofs.Tryd.prog Go.Proofs.Tryd.f23 K X)) [(0, s0_l4), (3, l3_l4), (4, end4_l4), (5, at5_l4)] σ := by
  unfold L23_4
  kernel_rfl
theorem lp23_4 {α : Type} {env : Env}  {s0_l4 end4_l4 : AV} {σ : AS} {K : AV → AS → Prop} {X : PV → AS → Prop} (μ : α → AS → Nat) (I : α → AS → Prop) (el3_l4 eat5_l4 : α → AV) (a0 : α) (h0 : I a0 σ)
 (h : ∀ a σ, I a σ → L23_4 env  (Inv (fun a => [s0_l4, el3_l4 a, end4_l4, eat5_l4 a]) μ I) (μ a σ) s0_l4 (el3_l4 a) end4_l4 (eat5_l4 a) σ K X) :
 ∃ I4 : Nat → List AV → AS → Prop, (∃ m, I4 m [s0_l4, el3_l4 a0, end4_l4, eat5_l4 a0] σ) ∧ ∀ (m : Nat) (x0 x1 x2 x3 : AV), ∀ σ, I4 m [x0, x1, x2, x3] σ →
 L23_4 env  I4 m x0 x1 x2 x3 σ K X := by
  refine ⟨Inv (fun a => [s0_l4, el3_l4 a, end4_l4, eat5_l4 a]) μ I, ⟨_, a0, rfl, rfl, h0⟩, ?_⟩
  rintro m x0 x1 x2 x3 σ' ⟨a, hv, rfl, hI⟩
  simp only [List.cons.injEq, and_true] at hv
  obtain ⟨rfl, rfl, rfl, rfl⟩ := hv
  exact h a σ' hI
def S23 (env : Env) (s0_a : AV) (σ : AS) (K : AV → AS → Prop) (X : PV → AS → Prop) : Prop :=
 (env 40 [s0_a, (.pv (.str [10]))] σ (fun t9 σ1 =>
 (lock lenD Go.Proofs.Tryd.prog 9 t9 fun t10 =>
 (lock lenD Go.Proofs.Tryd.prog 9 s0_a fun t12 =>
 (env 41 [s0_a, (.pv (.str [10]))] σ1 (fun t14 σ2 =>
 (lock lenD Go.Proofs.Tryd.prog 9 t14 fun t15 =>
 (lock binD Go.Proofs.Tryd.prog .sub 3 t12 t15 fun t16 =>
 (∃ I4 : Nat → List AV → AS → Prop, (∃ m, I4 m [s0_a, (.nilS), t10, t16] σ2) ∧ ∀ (m4 : Nat) (s0_l4 l3_l4 end4_l4 at5_l4 : AV), ∀ σ3, I4 m4 [s0_l4, l3_l4, end4_l4, at5_l4] σ3 →
 (L23_4 env I4 m4 s0_l4 l3_l4 end4_l4 at5_l4 σ3 K X))))) (panV X))))) (panV X))
theorem S23_eq (env : Env) (s0_a : AV) (σ : AS) (K : AV → AS → Prop) (X : PV → AS → Prop) : S23 env s0_a σ K X = bodyD Go.Proofs.Tryd.prog env an23 Go.Proofs.Tryd.f23 [s0_a] σ K X := by
  unfold S23
  simp only [L23_4_eq]
  kernel_rfl
theorem S23_ok : (match Go.Proofs.Tryd.f23.body with | some c => okCode an23 Go.Proofs.Tryd.prog Go.Proofs.Tryd.f23.ntmps c | none => false) = true := by kernel_rfl
/-! ### tedder/input.Spans (function 10) -/
def an10 : An := { mu := [], cut := [], loop := [(5, [0, 1, 5, 6])] }
def L10_5 (env : Env) (I5 : Nat → List AV → AS → Prop) (m5 : Nat) (s0_l5 rs1_l5 l5_l5 at6_l5 : AV) (σ : AS) (K : AV → AS → Prop) (X : PV → AS → Prop) : Prop :=
 (lock lenD Go.Proofs.Tryd.prog 9 s0_l5 fun t14 =>
 (lock binD Go.Proofs.Tryd.prog .lss 3 at6_l5 t14 fun t15 =>
 (condD t15
 (lock sliceD Go.Proofs.Tryd.prog 9 s0_l5 (some at6_l5) none fun t18 =>
 (lock indexD Go.Proofs.Tryd.prog 9 rs1_l5 (.pv (.int .i64 0)) fun t20 =>
 (env 24 [t18, t20] σ (fun t21 σ3 =>
 (lock binD Go.Proofs.Tryd.prog .lss 3 t21 (.pv (.int .i64 0)) fun t23 =>
 (condD t23
 (lock lenD Go.Proofs.Tryd.prog 9 s0_l5 fun t27 =>
 (lock buildD Go.Proofs.Tryd.prog 25 [(0, at6_l5), (1, t27)] fun t28 =>
 (lock buildSliceD Go.Proofs.Tryd.prog false σ3 23 1 1 [(0, t28)] fun t29 σ4 =>
 (lock appendD Go.Proofs.Tryd.prog false σ4 23 l5_l5 t29 fun t30 σ5 =>
 (retV (t30) σ5 K)))))
 (lock binD Go.Proofs.Tryd.prog .add 3 at6_l5 t21 fun t35 =>
 (lock buildD Go.Proofs.Tryd.prog 25 [(0, at6_l5), (1, t35)] fun t36 =>
 (lock buildSliceD Go.Proofs.Tryd.prog false σ3 23 1 1 [(0, t36)] fun t37 σ6 =>
 (lock appendD Go.Proofs.Tryd.prog false σ6 23 l5_l5 t37 fun t38 σ7 =>
 (lock binD Go.Proofs.Tryd.prog .add 3 t21 (.pv (.int .i64 1)) fun t41 =>
 (lock binD Go.Proofs.Tryd.prog .add 3 at6_l5 t41 fun t42 =>
 (∃ m', m' < m5 ∧ I5 m' [s0_l5, rs1_l5, t38, t42] σ7)))))))))) (panV X))))
 (retV (l5_l5) σ K))))
theorem L10_5_eq (env : Env) (I5 : Nat → List AV → AS → Prop) (m5 : Nat) (s0_l5 rs1_l5 l5_l5 at6_l5 : AV) (σ : AS) (K : AV → AS → Prop) (X : PV → AS → Prop) : L10_5 env I5 m5 s0_l5 rs1_l5 l5_l5 at6_l5 σ K X = wpD Go.Proofs.Tryd.prog env an10 (subC (bodyC Go.Proofs.Tryd.f10) [1, 1, 1, 0, 1, 0, 0]) (contQ Go.Proofs.Tryd.prog env an10 (bodyC Go.Proofs.Tryd.f10) [1, 1, 1, 0, 1, 0, 0] [(I5, m5)] (rootQ Go.Proofs.Tryd.prog Go.Proofs.Tryd.f10 K X)) [(0, s0_l5), (1, rs1_l5), (5, l5_l5), (6, at6_l5)] σ := by
  unfold L10_5
  kernel_rfl
theorem lp10_5 {α : Type} {env : Env}  {s0_l5 rs1_l5 : AV} {σ : AS} {K : AV → AS → Prop} {X : PV → AS → Prop} (μ : α → AS → Nat) (I : α → AS → Prop) (el5_l5 eat6_l5 : α → AV) (a0 : α) (h0 : I a0 σ)
 (h : ∀ a σ, I a σ → L10_5 env  (Inv (fun a => [s0_l5, rs1_l5, el5_l5 a, eat6_l5 a]) μ I) (μ a σ) s0_l5 rs1_l5 (el5_l5 a) (eat6_l5 a) σ K X) :
 ∃ I5 : Nat → List AV → AS → Prop, (∃ m, I5 m [s0_l5, rs1_l5, el5_l5 a0, eat6_l5 a0] σ) ∧ ∀ (m : Nat) (x0 x1 x2 x3 : AV), ∀ σ, I5 m [x0, x1, x2, x3] σ →
 L10_5 env  I5 m x0 x1 x2 x3 σ K X := by
  refine ⟨Inv (fun a => [s0_l5, rs1_l5, el5_l5 a, eat6_l5 a]) μ I, ⟨_, a0, rfl, rfl, h0⟩, ?_⟩
  rintro m x0 x1 x2 x3 σ' ⟨a, hv, rfl, hI⟩
  simp only [List.cons.injEq, and_true] at hv
  obtain ⟨rfl, rfl, rfl, rfl⟩ := hv
  exact h a σ' hI
def S10 (env : Env) (s0_a rs1_a : AV) (σ : AS) (K : AV → AS → Prop) (X : PV → AS → Prop) : Prop :=
 (lock binD Go.Proofs.Tryd.prog .eql 9 rs1_a (.pv (.str [])) fun t9 =>
 (condD t9
 (env 23 [s0_a] σ (fun t11 σ1 =>
 (retV (t11) σ1 K)) (panV X))
 (∃ I5 : Nat → List AV → AS → Prop, (∃ m, I5 m [s0_a, rs1_a, (.nilS), (.pv (.int .i64 0))] σ) ∧ ∀ (m5 : Nat) (s0_l5 rs1_l5 l5_l5 at6_l5 : AV), ∀ σ2, I5 m5 [s0_l5, rs1_l5, l5_l5, at6_l5] σ2 →
 (L10_5 env I5 m5 s0_l5 rs1_l5 l5_l5 at6_l5 σ2 K X))))
theorem S10_eq (env : Env) (s0_a rs1_a : AV) (σ : AS) (K : AV → AS → Prop) (X : PV → AS → Prop) : S10 env s0_a rs1_a σ K X = bodyD Go.Proofs.Tryd.prog env an10 Go.Proofs.Tryd.f10 [s0_a, rs1_a] σ K X := by
  unfold S10
  simp only [L10_5_eq]
  kernel_rfl
theorem S10_ok : (match Go.Proofs.Tryd.f10.body with | some c => okCode an10 Go.Proofs.Tryd.prog Go.Proofs.Tryd.f10.ntmps c | none => false) = true := by kernel_rfl
/-! ### tedder/input.Records (function 13) -/
def an13 : An := { mu := [], cut := [], loop := [(3, [0, 5, 10, 11, 12])] }
def L13_3 (env : Env) (I3 : Nat → List AV → AS → Prop) (m3 : Nat) (s0_l3 l5_l3 t10_l3 t11_l3 t12_l3 : AV) (σ : AS) (K : AV → AS → Prop) (X : PV → AS → Prop) : Prop :=
 (lock binD Go.Proofs.Tryd.prog .lss 3 t12_l3 t11_l3 fun t13 =>
 (condD t13
 (lock indexAddrD Go.Proofs.Tryd.prog 23 t10_l3 t12_l3 fun t14 =>
 (lock loadD Go.Proofs.Tryd.prog σ 25 t14 fun t15 =>
 (lock allocD Go.Proofs.Tryd.prog σ 25 fun t7 σ3 =>
 (lock storeD Go.Proofs.Tryd.prog σ3 25 t7 t15 fun σ4 =>
 (lock indexAddrD Go.Proofs.Tryd.prog 25 t7 (.pv (.int .i64 0)) fun t18 =>
 (lock loadD Go.Proofs.Tryd.prog σ4 3 t18 fun t19 =>
 (lock indexAddrD Go.Proofs.Tryd.prog 25 t7 (.pv (.int .i64 1)) fun t20 =>
 (lock loadD Go.Proofs.Tryd.prog σ4 3 t20 fun t21 =>
 (lock sliceD Go.Proofs.Tryd.prog 9 s0_l3 (some t19) (some t21) fun t22 =>
 (lock buildSliceD Go.Proofs.Tryd.prog false σ4 27 1 1 [(0, t22)] fun t23 σ5 =>
 (lock appendD Go.Proofs.Tryd.prog false σ5 27 l5_l3 t23 fun t24 σ6 =>
 (lock binD Go.Proofs.Tryd.prog .add 3 t12_l3 (.pv (.int .i64 1)) fun t25 =>
 (∃ m', m' < m3 ∧ I3 m' [s0_l3, t24, t10_l3, t11_l3, t25] σ6)))))))))))))
 (retV (l5_l3) σ K)))
theorem L13_3_eq (env : Env) (I3 : Nat → List AV → AS → Prop) (m3 : Nat) (s0_l3 l5_l3 t10_l3 t11_l3 t12_l3 : AV) (σ : AS) (K : AV → AS → Prop) (X : PV → AS → Prop) : L13_3 env I3 m3 s0_l3 l5_l3 t10_l3 t11_l3 t12_l3 σ K X = wpD Go.Proofs.Tryd.prog env an13 (subC (bodyC Go.Proofs.Tryd.f13) [1, 1, 0, 1, 0, 0]) (contQ Go.Proofs.Tryd.prog env an13 (bodyC Go.Proofs.Tryd.f13) [1, 1, 0, 1, 0, 0] [(I3, m3)] (rootQ Go.Proofs.Tryd.prog Go.Proofs.Tryd.f13 K X)) [(0, s0_l3), (5, l5_l3), (10, t10_l3), (11, t11_l3), (12, t12_l3)] σ := by
  unfold L13_3
  kernel_rfl
theorem lp13_3 {α : Type} {env : Env}  {s0_l3 t10_l3 t11_l3 : AV} {σ : AS} {K : AV → AS → Prop} {X : PV → AS → Prop} (μ : α → AS → Nat) (I : α → AS → Prop) (el5_l3 et12_l3 : α → AV) (a0 : α) (h0 : I a0 σ)
 (h : ∀ a σ, I a σ → L13_3 env  (Inv (fun a => [s0_l3, el5_l3 a, t10_l3, t11_l3, et12_l3 a]) μ I) (μ a σ) s0_l3 (el5_l3 a) t10_l3 t11_l3 (et12_l3 a) σ K X) :
 ∃ I3 : Nat → List AV → AS → Prop, (∃ m, I3 m [s0_l3, el5_l3 a0, t10_l3, t11_l3, et12_l3 a0] σ) ∧ ∀ (m : Nat) (x0 x1 x2 x3 x4 : AV), ∀ σ, I3 m [x0, x1, x2, x3, x4] σ →
 L13_3 env  I3 m x0 x1 x2 x3 x4 σ K X := by
  refine ⟨Inv (fun a => [s0_l3, el5_l3 a, t10_l3, t11_l3, et12_l3 a]) μ I, ⟨_, a0, rfl, rfl, h0⟩, ?_⟩
  rintro m x0 x1 x2 x3 x4 σ' ⟨a, hv, rfl, hI⟩
  simp only [List.cons.injEq, and_true] at hv
  obtain ⟨rfl, rfl, rfl, rfl, rfl⟩ := hv
  exact h a σ' hI
def S13 (env : Env) (s0_a rs1_a : AV) (σ : AS) (K : AV → AS → Prop) (X : PV → AS → Prop) : Prop :=
 (env 10 [s0_a, rs1_a] σ (fun t10 σ1 =>
 (lock lenD Go.Proofs.Tryd.prog 23 t10 fun t11 =>
 (∃ I3 : Nat → List AV → AS → Prop, (∃ m, I3 m [s0_a, (.nilS), t10, t11, (.pv (.int .i64 0))] σ1) ∧ ∀ (m3 : Nat) (s0_l3 l5_l3 t10_l3 t11_l3 t12_l3 : AV), ∀ σ2, I3 m3 [s0_l3, l5_l3, t10_l3, t11_l3, t12_l3] σ2 →
 (L13_3 env I3 m3 s0_l3 l5_l3 t10_l3 t11_l3 t12_l3 σ2 K X)))) (panV X))
theorem S13_eq (env : Env) (s0_a rs1_a : AV) (σ : AS) (K : AV → AS → Prop) (X : PV → AS → Prop) : S13 env s0_a rs1_a σ K X = bodyD Go.Proofs.Tryd.prog env an13 Go.Proofs.Tryd.f13 [s0_a, rs1_a] σ K X := by
  unfold S13
  simp only [L13_3_eq]
  kernel_rfl
theorem S13_ok : (match Go.Proofs.Tryd.f13.body with | some c => okCode an13 Go.Proofs.Tryd.prog Go.Proofs.Tryd.f13.ntmps c | none => false) = true := by kernel_rfl
/-! ### tedder/input.named (function 26) -/
def an26 : An := { mu := [], cut := [(5, [0, 3, 4, 5, 7, 8, 9])], loop := [(2, [0, 7, 8, 9])] }
def J26_5 (env : Env) (I2 : Nat → List AV → AS → Prop) (m2 : Nat) (s0_j5 i3_j5 c4_j5 letter5_j5 t7_j5 t8_j5 t9_j5 : AV) (σ : AS) (K : AV → AS → Prop) (X : PV → AS → Prop) : Prop :=
 (unD .not letter5_j5 fun t27 =>
 (guardD t27 true
 (lock binD Go.Proofs.Tryd.prog .eql 3 i3_j5 (.pv (.int .i64 0)) fun t30 =>
 (guardD t30 false
 (lock binD Go.Proofs.Tryd.prog .lss 5 c4_j5 (.pv (.int .u8 48)) fun t33 =>
 (guardD t33 false
 (lock binD Go.Proofs.Tryd.prog .gtr 5 c4_j5 (.pv (.int .u8 57)) fun t37 =>
 (condD t37
 (retV ((.pv (.bool false))) σ K)
 (lock binD Go.Proofs.Tryd.prog .add 3 t9_j5 (.pv (.int .i64 1)) fun t40 =>
 (∃ m', m' < m2 ∧ I2 m' [s0_j5, t7_j5, t8_j5, t40] σ))))
 (retV ((.pv (.bool false))) σ K)))
 (retV ((.pv (.bool false))) σ K)))
 (lock binD Go.Proofs.Tryd.prog .add 3 t9_j5 (.pv (.int .i64 1)) fun t40 =>
 (∃ m', m' < m2 ∧ I2 m' [s0_j5, t7_j5, t8_j5, t40] σ))))
theorem J26_5_eq (env : Env) (I2 : Nat → List AV → AS → Prop) (m2 : Nat) (s0_j5 i3_j5 c4_j5 letter5_j5 t7_j5 t8_j5 t9_j5 : AV) (σ : AS) (K : AV → AS → Prop) (X : PV → AS → Prop) : J26_5 env I2 m2 s0_j5 i3_j5 c4_j5 letter5_j5 t7_j5 t8_j5 t9_j5 σ K X = wpD Go.Proofs.Tryd.prog env an26 (subC (bodyC Go.Proofs.Tryd.f26) [1, 0, 1, 0, 0, 1, 1, 0, 0, 1, 1]) (contQ Go.Proofs.Tryd.prog env an26 (bodyC Go.Proofs.Tryd.f26) [1, 0, 1, 0, 0, 1, 1, 0, 0, 1, 1] [(I2, m2)] (rootQ Go.Proofs.Tryd.prog Go.Proofs.Tryd.f26 K X)) [(0, s0_j5), (3, i3_j5), (4, c4_j5), (5, letter5_j5), (7, t7_j5), (8, t8_j5), (9, t9_j5)] σ := by
  unfold J26_5
  kernel_rfl
def L26_2 (env : Env) (I2 : Nat → List AV → AS → Prop) (m2 : Nat) (s0_l2 t7_l2 t8_l2 t9_l2 : AV) (σ : AS) (K : AV → AS → Prop) (X : PV → AS → Prop) : Prop :=
 (lock binD Go.Proofs.Tryd.prog .lss 3 t9_l2 t8_l2 fun t10 =>
 (condD t10
 (lock indexAddrD Go.Proofs.Tryd.prog 30 t7_l2 t9_l2 fun t12 =>
 (lock loadD Go.Proofs.Tryd.prog σ 5 t12 fun t13 =>
 (lock binD Go.Proofs.Tryd.prog .eql 5 t13 (.pv (.int .u8 95)) fun t15 =>
 (guardD t15 false
 (lock binD Go.Proofs.Tryd.prog .or 5 t13 (.pv (.int .u8 32)) fun t18 =>
 (lock binD Go.Proofs.Tryd.prog .leq 5 (.pv (.int .u8 97)) t18 fun t19 =>
 (guardD t19 true
 (lock binD Go.Proofs.Tryd.prog .or 5 t13 (.pv (.int .u8 32)) fun t22 =>
 (lock binD Go.Proofs.Tryd.prog .leq 5 t22 (.pv (.int .u8 122)) fun t23 =>
 (J26_5 env I2 m2 (s0_l2) (t9_l2) (t13) (t23) (t7_l2) (t8_l2) (t9_l2) σ K X)))
 (J26_5 env I2 m2 (s0_l2) (t9_l2) (t13) (.pv (.bool false)) (t7_l2) (t8_l2) (t9_l2) σ K X))))
 (J26_5 env I2 m2 (s0_l2) (t9_l2) (t13) (.pv (.bool true)) (t7_l2) (t8_l2) (t9_l2) σ K X)))))
 (lock binD Go.Proofs.Tryd.prog .neq 9 s0_l2 (.pv (.str [])) fun t42 =>
 (retV (t42) σ K))))
theorem L26_2_eq (env : Env) (I2 : Nat → List AV → AS → Prop) (m2 : Nat) (s0_l2 t7_l2 t8_l2 t9_l2 : AV) (σ : AS) (K : AV → AS → Prop) (X : PV → AS → Prop) : L26_2 env I2 m2 s0_l2 t7_l2 t8_l2 t9_l2 σ K X = wpD Go.Proofs.Tryd.prog env an26 (subC (bodyC Go.Proofs.Tryd.f26) [1, 0, 1, 0, 0]) (contQ Go.Proofs.Tryd.prog env an26 (bodyC Go.Proofs.Tryd.f26) [1, 0, 1, 0, 0] [(I2, m2)] (rootQ Go.Proofs.Tryd.prog Go.Proofs.Tryd.f26 K X)) [(0, s0_l2), (7, t7_l2), (8, t8_l2), (9, t9_l2)] σ := by
  unfold L26_2
  kernel_rfl
theorem lp26_2 {α : Type} {env : Env}  {s0_l2 t7_l2 t8_l2 : AV} {σ : AS} {K : AV → AS → Prop} {X : PV → AS → Prop} (μ : α → AS → Nat) (I : α → AS → Prop) (et9_l2 : α → AV) (a0 : α) (h0 : I a0 σ)
 (h : ∀ a σ, I a σ → L26_2 env  (Inv (fun a => [s0_l2, t7_l2, t8_l2, et9_l2 a]) μ I) (μ a σ) s0_l2 t7_l2 t8_l2 (et9_l2 a) σ K X) :
 ∃ I2 : Nat → List AV → AS → Prop, (∃ m, I2 m [s0_l2, t7_l2, t8_l2, et9_l2 a0] σ) ∧ ∀ (m : Nat) (x0 x1 x2 x3 : AV), ∀ σ, I2 m [x0, x1, x2, x3] σ →
 L26_2 env  I2 m x0 x1 x2 x3 σ K X := by
  refine ⟨Inv (fun a => [s0_l2, t7_l2, t8_l2, et9_l2 a]) μ I, ⟨_, a0, rfl, rfl, h0⟩, ?_⟩
  rintro m x0 x1 x2 x3 σ' ⟨a, hv, rfl, hI⟩
  simp only [List.cons.injEq, and_true] at hv
  obtain ⟨rfl, rfl, rfl, rfl⟩ := hv
  exact h a σ' hI
def S26 (env : Env) (s0_a : AV) (σ : AS) (K : AV → AS → Prop) (X : PV → AS → Prop) : Prop :=
 (lock bytesD Go.Proofs.Tryd.prog false σ 9 30 s0_a fun t7 σ1 =>
 (lock lenD Go.Proofs.Tryd.prog 30 t7 fun t8 =>
 (∃ I2 : Nat → List AV → AS → Prop, (∃ m, I2 m [s0_a, t7, t8, (.pv (.int .i64 0))] σ1) ∧ ∀ (m2 : Nat) (s0_l2 t7_l2 t8_l2 t9_l2 : AV), ∀ σ2, I2 m2 [s0_l2, t7_l2, t8_l2, t9_l2] σ2 →
 (L26_2 env I2 m2 s0_l2 t7_l2 t8_l2 t9_l2 σ2 K X))))
theorem S26_eq (env : Env) (s0_a : AV) (σ : AS) (K : AV → AS → Prop) (X : PV → AS → Prop) : S26 env s0_a σ K X = bodyD Go.Proofs.Tryd.prog env an26 Go.Proofs.Tryd.f26 [s0_a] σ K X := by
  unfold S26
  simp only [L26_2_eq]
  kernel_rfl
theorem S26_ok : (match Go.Proofs.Tryd.f26.body with | some c => okCode an26 Go.Proofs.Tryd.prog Go.Proofs.Tryd.f26.ntmps c | none => false) = true := by kernel_rfl
/-! ### tedder/input.quoted (function 28) -/
def an28 : An := { mu := [], cut := [(7, [0, 3, 4, 15])], loop := [(3, [0, 3, 4])] }
def J28_7 (env : Env) (I3 : Nat → List AV → AS → Prop) (m3 : Nat) (s0_j7 b3_j7 i4_j7 t15_j7 : AV) (σ : AS) (K : AV → AS → Prop) (X : PV → AS → Prop) : Prop :=
 (condD t15_j7
 (lock binD Go.Proofs.Tryd.prog .add 3 i4_j7 (.pv (.int .i64 2)) fun t37 =>
 (lock sliceD Go.Proofs.Tryd.prog 9 s0_j7 (some i4_j7) (some t37) fun t38 =>
 (env 46 [b3_j7, t38] σ (fun t39 σ3 =>
 (lock binD Go.Proofs.Tryd.prog .add 3 i4_j7 (.pv (.int .i64 1)) fun t41 =>
 (lock binD Go.Proofs.Tryd.prog .add 3 t41 (.pv (.int .i64 1)) fun t10 =>
 (∃ m', m' < m3 ∧ I3 m' [s0_j7, b3_j7, t10] σ3)))) (panV X))))
 (lock indexD Go.Proofs.Tryd.prog 9 s0_j7 i4_j7 fun t45 =>
 (lock binD Go.Proofs.Tryd.prog .eql 5 t45 (.pv (.int .u8 92)) fun t46 =>
 (condD t46
 (env 46 [b3_j7, (.pv (.str [92, 49, 51, 52]))] σ (fun t47 σ4 =>
 (lock binD Go.Proofs.Tryd.prog .add 3 i4_j7 (.pv (.int .i64 1)) fun t10 =>
 (∃ m', m' < m3 ∧ I3 m' [s0_j7, b3_j7, t10] σ4))) (panV X))
 (lock indexD Go.Proofs.Tryd.prog 9 s0_j7 i4_j7 fun t51 =>
 (lock binD Go.Proofs.Tryd.prog .eql 5 t51 (.pv (.int .u8 34)) fun t52 =>
 (condD t52
 (env 46 [b3_j7, (.pv (.str [92, 48, 52, 50]))] σ (fun t53 σ5 =>
 (lock binD Go.Proofs.Tryd.prog .add 3 i4_j7 (.pv (.int .i64 1)) fun t10 =>
 (∃ m', m' < m3 ∧ I3 m' [s0_j7, b3_j7, t10] σ5))) (panV X))
 (lock indexD Go.Proofs.Tryd.prog 9 s0_j7 i4_j7 fun t57 =>
 (lock binD Go.Proofs.Tryd.prog .eql 5 t57 (.pv (.int .u8 10)) fun t58 =>
 (condD t58
 (env 46 [b3_j7, (.pv (.str [92, 48, 49, 50]))] σ (fun t59 σ6 =>
 (lock binD Go.Proofs.Tryd.prog .add 3 i4_j7 (.pv (.int .i64 1)) fun t10 =>
 (∃ m', m' < m3 ∧ I3 m' [s0_j7, b3_j7, t10] σ6))) (panV X))
 (lock indexD Go.Proofs.Tryd.prog 9 s0_j7 i4_j7 fun t13 =>
 (env 47 [b3_j7, t13] σ (fun t14 σ7 =>
 (lock binD Go.Proofs.Tryd.prog .add 3 i4_j7 (.pv (.int .i64 1)) fun t10 =>
 (∃ m', m' < m3 ∧ I3 m' [s0_j7, b3_j7, t10] σ7))) (panV X)))))))))))))
theorem J28_7_eq (env : Env) (I3 : Nat → List AV → AS → Prop) (m3 : Nat) (s0_j7 b3_j7 i4_j7 t15_j7 : AV) (σ : AS) (K : AV → AS → Prop) (X : PV → AS → Prop) : J28_7 env I3 m3 s0_j7 b3_j7 i4_j7 t15_j7 σ K X = wpD Go.Proofs.Tryd.prog env an28 (subC (bodyC Go.Proofs.Tryd.f28) [1, 1, 0, 1, 0, 0, 1, 0, 0, 0, 1]) (contQ Go.Proofs.Tryd.prog env an28 (bodyC Go.Proofs.Tryd.f28) [1, 1, 0, 1, 0, 0, 1, 0, 0, 0, 1] [(I3, m3)] (rootQ Go.Proofs.Tryd.prog Go.Proofs.Tryd.f28 K X)) [(0, s0_j7), (3, b3_j7), (4, i4_j7), (15, t15_j7)] σ := by
  unfold J28_7
  kernel_rfl
def L28_3 (env : Env) (I3 : Nat → List AV → AS → Prop) (m3 : Nat) (s0_l3 b3_l3 i4_l3 : AV) (σ : AS) (K : AV → AS → Prop) (X : PV → AS → Prop) : Prop :=
 (lock lenD Go.Proofs.Tryd.prog 9 s0_l3 fun t7 =>
 (lock binD Go.Proofs.Tryd.prog .lss 3 i4_l3 t7 fun t8 =>
 (condD t8
 (lock indexD Go.Proofs.Tryd.prog 9 s0_l3 i4_l3 fun t18 =>
 (lock binD Go.Proofs.Tryd.prog .eql 5 t18 (.pv (.int .u8 92)) fun t19 =>
 (guardD t19 true
 (lock binD Go.Proofs.Tryd.prog .add 3 i4_l3 (.pv (.int .i64 1)) fun t22 =>
 (lock lenD Go.Proofs.Tryd.prog 9 s0_l3 fun t24 =>
 (lock binD Go.Proofs.Tryd.prog .lss 3 t22 t24 fun t25 =>
 (guardD t25 true
 (lock binD Go.Proofs.Tryd.prog .add 3 i4_l3 (.pv (.int .i64 1)) fun t30 =>
 (lock indexD Go.Proofs.Tryd.prog 9 s0_l3 t30 fun t31 =>
 (lock binD Go.Proofs.Tryd.prog .neq 5 t31 (.pv (.int .u8 10)) fun t32 =>
 (J28_7 env I3 m3 (s0_l3) (b3_l3) (i4_l3) (t32) σ K X))))
 (J28_7 env I3 m3 (s0_l3) (b3_l3) (i4_l3) (.pv (.bool false)) σ K X)))))
 (J28_7 env I3 m3 (s0_l3) (b3_l3) (i4_l3) (.pv (.bool false)) σ K X))))
 (env 48 [b3_l3] σ (fun t60 σ8 =>
 (lock binD Go.Proofs.Tryd.prog .add 9 (.pv (.str [34])) t60 fun t61 =>
 (lock binD Go.Proofs.Tryd.prog .add 9 t61 (.pv (.str [34])) fun t62 =>
 (retV (t62) σ8 K)))) (panV X)))))
theorem L28_3_eq (env : Env) (I3 : Nat → List AV → AS → Prop) (m3 : Nat) (s0_l3 b3_l3 i4_l3 : AV) (σ : AS) (K : AV → AS → Prop) (X : PV → AS → Prop) : L28_3 env I3 m3 s0_l3 b3_l3 i4_l3 σ K X = wpD Go.Proofs.Tryd.prog env an28 (subC (bodyC Go.Proofs.Tryd.f28) [1, 1, 0, 1, 0, 0]) (contQ Go.Proofs.Tryd.prog env an28 (bodyC Go.Proofs.Tryd.f28) [1, 1, 0, 1, 0, 0] [(I3, m3)] (rootQ Go.Proofs.Tryd.prog Go.Proofs.Tryd.f28 K X)) [(0, s0_l3), (3, b3_l3), (4, i4_l3)] σ := by
  unfold L28_3
  kernel_rfl
theorem lp28_3 {α : Type} {env : Env}  {s0_l3 b3_l3 : AV} {σ : AS} {K : AV → AS → Prop} {X : PV → AS → Prop} (μ : α → AS → Nat) (I : α → AS → Prop) (ei4_l3 : α → AV) (a0 : α) (h0 : I a0 σ)
 (h : ∀ a σ, I a σ → L28_3 env  (Inv (fun a => [s0_l3, b3_l3, ei4_l3 a]) μ I) (μ a σ) s0_l3 b3_l3 (ei4_l3 a) σ K X) :
 ∃ I3 : Nat → List AV → AS → Prop, (∃ m, I3 m [s0_l3, b3_l3, ei4_l3 a0] σ) ∧ ∀ (m : Nat) (x0 x1 x2 : AV), ∀ σ, I3 m [x0, x1, x2] σ →
 L28_3 env  I3 m x0 x1 x2 σ K X := by
  refine ⟨Inv (fun a => [s0_l3, b3_l3, ei4_l3 a]) μ I, ⟨_, a0, rfl, rfl, h0⟩, ?_⟩
  rintro m x0 x1 x2 σ' ⟨a, hv, rfl, hI⟩
  simp only [List.cons.injEq, and_true] at hv
  obtain ⟨rfl, rfl, rfl⟩ := hv
  exact h a σ' hI
def S28 (env : Env) (s0_a : AV) (σ : AS) (K : AV → AS → Prop) (X : PV → AS → Prop) : Prop :=
 (lock allocD Go.Proofs.Tryd.prog σ 75 fun t3 σ1 =>
 (∃ I3 : Nat → List AV → AS → Prop, (∃ m, I3 m [s0_a, t3, (.pv (.int .i64 0))] σ1) ∧ ∀ (m3 : Nat) (s0_l3 b3_l3 i4_l3 : AV), ∀ σ2, I3 m3 [s0_l3, b3_l3, i4_l3] σ2 →
 (L28_3 env I3 m3 s0_l3 b3_l3 i4_l3 σ2 K X)))
theorem S28_eq (env : Env) (s0_a : AV) (σ : AS) (K : AV → AS → Prop) (X : PV → AS → Prop) : S28 env s0_a σ K X = bodyD Go.Proofs.Tryd.prog env an28 Go.Proofs.Tryd.f28 [s0_a] σ K X := by
  unfold S28
  simp only [L28_3_eq]
  kernel_rfl
theorem S28_ok : (match Go.Proofs.Tryd.f28.body with | some c => okCode an28 Go.Proofs.Tryd.prog Go.Proofs.Tryd.f28.ntmps c | none => false) = true := by kernel_rfl
/-! ### tedder/input.Operand (function 15) -/
def an15 : An := { mu := [], cut := [(4, [5, 6]), (7, [5, 8])], loop := [] }
def J15_7 (env : Env)  (name5_j7 l8_j7 : AV) (σ : AS) (K : AV → AS → Prop) (X : PV → AS → Prop) : Prop :=
 (lock indexAddrD Go.Proofs.Tryd.prog 47 l8_j7 (.pv (.int .i64 0)) fun t37 =>
 (lock fieldAddrD Go.Proofs.Tryd.prog 52 t37 1 fun t38 =>
 (lock loadD Go.Proofs.Tryd.prog σ 9 t38 fun t39 =>
 (retV (.tuple [name5_j7, t39, (.pv (.bool true))]) σ K))))
theorem J15_7_eq (env : Env)  (name5_j7 l8_j7 : AV) (σ : AS) (K : AV → AS → Prop) (X : PV → AS → Prop) : J15_7 env  name5_j7 l8_j7 σ K X = wpD Go.Proofs.Tryd.prog env an15 (subC (bodyC Go.Proofs.Tryd.f15) [1, 1, 1, 1, 1]) (contQ Go.Proofs.Tryd.prog env an15 (bodyC Go.Proofs.Tryd.f15) [1, 1, 1, 1, 1] [] (rootQ Go.Proofs.Tryd.prog Go.Proofs.Tryd.f15 K X)) [(5, name5_j7), (8, l8_j7)] σ := by
  unfold J15_7
  kernel_rfl
def J15_4 (env : Env)  (name5_j4 text6_j4 : AV) (σ : AS) (K : AV → AS → Prop) (X : PV → AS → Prop) : Prop :=
 (env 28 [text6_j4] σ (fun t24 σ3 =>
 (env 27 [t24] σ3 (fun t25 σ4 =>
 (lock extractD t25 0 fun t26 =>
 (lock extractD t25 1 fun t27 =>
 (unD .not t27 fun t29 =>
 (guardD t29 false
 (lock lenD Go.Proofs.Tryd.prog 47 t26 fun t32 =>
 (lock binD Go.Proofs.Tryd.prog .neq 3 t32 (.pv (.int .i64 1)) fun t33 =>
 (condD t33
 (retV (.tuple [(.pv (.str [])), (.pv (.str [])), (.pv (.bool false))]) σ4 K)
 (J15_7 env  (name5_j4) (t26) σ4 K X))))
 (retV (.tuple [(.pv (.str [])), (.pv (.str [])), (.pv (.bool false))]) σ4 K)))))) (panV X))) (panV X))
theorem J15_4_eq (env : Env)  (name5_j4 text6_j4 : AV) (σ : AS) (K : AV → AS → Prop) (X : PV → AS → Prop) : J15_4 env  name5_j4 text6_j4 σ K X = wpD Go.Proofs.Tryd.prog env an15 (subC (bodyC Go.Proofs.Tryd.f15) [1, 1, 1]) (contQ Go.Proofs.Tryd.prog env an15 (bodyC Go.Proofs.Tryd.f15) [1, 1, 1] [] (rootQ Go.Proofs.Tryd.prog Go.Proofs.Tryd.f15 K X)) [(5, name5_j4), (6, text6_j4)] σ := by
  unfold J15_4
  kernel_rfl
def S15 (env : Env) (s0_a : AV) (σ : AS) (K : AV → AS → Prop) (X : PV → AS → Prop) : Prop :=
 (env 25 [s0_a, (.pv (.str [61]))] σ (fun t11 σ1 =>
 (lock extractD t11 0 fun t12 =>
 (lock extractD t11 1 fun t13 =>
 (lock extractD t11 2 fun t14 =>
 (unD .not t14 fun t16 =>
 (guardD t16 false
 (env 26 [t12] σ1 (fun t19 σ2 =>
 (unD .not t19 fun t20 =>
 (condD t20
 (retV (.tuple [(.pv (.str [])), (.pv (.str [])), (.pv (.bool false))]) σ2 K)
 (J15_4 env  (t12) (t13) σ2 K X)))) (panV X))
 (retV (.tuple [(.pv (.str [])), (.pv (.str [])), (.pv (.bool false))]) σ1 K))))))) (panV X))
theorem S15_eq (env : Env) (s0_a : AV) (σ : AS) (K : AV → AS → Prop) (X : PV → AS → Prop) : S15 env s0_a σ K X = bodyD Go.Proofs.Tryd.prog env an15 Go.Proofs.Tryd.f15 [s0_a] σ K X := by
  unfold S15
  kernel_rfl
theorem S15_ok : (match Go.Proofs.Tryd.f15.body with | some c => okCode an15 Go.Proofs.Tryd.prog Go.Proofs.Tryd.f15.ntmps c | none => false) = true := by kernel_rfl
/-! ### (*strings.Builder).WriteString (function 46) -/
def an46 : An := { mu := [], cut := [], loop := [] }
def S46 (env : Env) (b0_a s1_a : AV) (σ : AS) (K : AV → AS → Prop) (X : PV → AS → Prop) : Prop :=
 (env 96 [b0_a] σ (fun t7 σ1 =>
 (lock nilD b0_a fun t10 =>
 (lock fieldAddrD Go.Proofs.Tryd.prog 75 t10 1 fun t11 =>
 (lock loadD Go.Proofs.Tryd.prog σ1 30 t11 fun t12 =>
 (lock appendStrD Go.Proofs.Tryd.prog false σ1 30 9 t12 s1_a fun t14 σ2 =>
 (lock nilD b0_a fun t15 =>
 (lock fieldAddrD Go.Proofs.Tryd.prog 75 t15 1 fun t16 =>
 (lock storeD Go.Proofs.Tryd.prog σ2 30 t16 t14 fun σ3 =>
 (lock lenD Go.Proofs.Tryd.prog 9 s1_a fun t18 =>
 (retV (.tuple [t18, (.pv .nilIface)]) σ3 K)))))))))) (panV X))
theorem S46_eq (env : Env) (b0_a s1_a : AV) (σ : AS) (K : AV → AS → Prop) (X : PV → AS → Prop) : S46 env b0_a s1_a σ K X = bodyD Go.Proofs.Tryd.prog env an46 Go.Proofs.Tryd.f46 [b0_a, s1_a] σ K X := by
  unfold S46
  kernel_rfl
theorem S46_ok : (match Go.Proofs.Tryd.f46.body with | some c => okCode an46 Go.Proofs.Tryd.prog Go.Proofs.Tryd.f46.ntmps c | none => false) = true := by kernel_rfl
/-! ### tedder/tedderref10.Same (function 12) -/
def an12 : An := { mu := [], cut := [], loop := [(4, [0, 1, 5])] }
def L12_4 (env : Env) (I4 : Nat → List AV → AS → Prop) (m4 : Nat) (a0_l4 b1_l4 i5_l4 : AV) (σ : AS) (K : AV → AS → Prop) (X : PV → AS → Prop) : Prop :=
 (lock lenD Go.Proofs.Tryd.prog 27 a0_l4 fun t13 =>
 (lock binD Go.Proofs.Tryd.prog .lss 3 i5_l4 t13 fun t14 =>
 (condD t14
 (lock indexAddrD Go.Proofs.Tryd.prog 27 a0_l4 i5_l4 fun t19 =>
 (lock loadD Go.Proofs.Tryd.prog σ 9 t19 fun t20 =>
 (lock indexAddrD Go.Proofs.Tryd.prog 27 b1_l4 i5_l4 fun t23 =>
 (lock loadD Go.Proofs.Tryd.prog σ 9 t23 fun t24 =>
 (lock binD Go.Proofs.Tryd.prog .neq 9 t20 t24 fun t25 =>
 (condD t25
 (retV ((.pv (.bool false))) σ K)
 (lock binD Go.Proofs.Tryd.prog .add 3 i5_l4 (.pv (.int .i64 1)) fun t16 =>
 (∃ m', m' < m4 ∧ I4 m' [a0_l4, b1_l4, t16] σ))))))))
 (retV ((.pv (.bool true))) σ K))))
theorem L12_4_eq (env : Env) (I4 : Nat → List AV → AS → Prop) (m4 : Nat) (a0_l4 b1_l4 i5_l4 : AV) (σ : AS) (K : AV → AS → Prop) (X : PV → AS → Prop) : L12_4 env I4 m4 a0_l4 b1_l4 i5_l4 σ K X = wpD Go.Proofs.Tryd.prog env an12 (subC (bodyC Go.Proofs.Tryd.f12) [1, 1, 0, 1, 0, 0]) (contQ Go.Proofs.Tryd.prog env an12 (bodyC Go.Proofs.Tryd.f12) [1, 1, 0, 1, 0, 0] [(I4, m4)] (rootQ Go.Proofs.Tryd.prog Go.Proofs.Tryd.f12 K X)) [(0, a0_l4), (1, b1_l4), (5, i5_l4)] σ := by
  unfold L12_4
  kernel_rfl
theorem lp12_4 {α : Type} {env : Env}  {a0_l4 b1_l4 : AV} {σ : AS} {K : AV → AS → Prop} {X : PV → AS → Prop} (μ : α → AS → Nat) (I : α → AS → Prop) (ei5_l4 : α → AV) (a0 : α) (h0 : I a0 σ)
 (h : ∀ a σ, I a σ → L12_4 env  (Inv (fun a => [a0_l4, b1_l4, ei5_l4 a]) μ I) (μ a σ) a0_l4 b1_l4 (ei5_l4 a) σ K X) :
 ∃ I4 : Nat → List AV → AS → Prop, (∃ m, I4 m [a0_l4, b1_l4, ei5_l4 a0] σ) ∧ ∀ (m : Nat) (x0 x1 x2 : AV), ∀ σ, I4 m [x0, x1, x2] σ →
 L12_4 env  I4 m x0 x1 x2 σ K X := by
  refine ⟨Inv (fun a => [a0_l4, b1_l4, ei5_l4 a]) μ I, ⟨_, a0, rfl, rfl, h0⟩, ?_⟩
  rintro m x0 x1 x2 σ' ⟨a, hv, rfl, hI⟩
  simp only [List.cons.injEq, and_true] at hv
  obtain ⟨rfl, rfl, rfl⟩ := hv
  exact h a σ' hI
def S12 (env : Env) (a0_a b1_a : AV) (σ : AS) (K : AV → AS → Prop) (X : PV → AS → Prop) : Prop :=
 (lock lenD Go.Proofs.Tryd.prog 27 a0_a fun t7 =>
 (lock lenD Go.Proofs.Tryd.prog 27 b1_a fun t9 =>
 (lock binD Go.Proofs.Tryd.prog .neq 3 t7 t9 fun t10 =>
 (condD t10
 (retV ((.pv (.bool false))) σ K)
 (∃ I4 : Nat → List AV → AS → Prop, (∃ m, I4 m [a0_a, b1_a, (.pv (.int .i64 0))] σ) ∧ ∀ (m4 : Nat) (a0_l4 b1_l4 i5_l4 : AV), ∀ σ1, I4 m4 [a0_l4, b1_l4, i5_l4] σ1 →
 (L12_4 env I4 m4 a0_l4 b1_l4 i5_l4 σ1 K X))))))
theorem S12_eq (env : Env) (a0_a b1_a : AV) (σ : AS) (K : AV → AS → Prop) (X : PV → AS → Prop) : S12 env a0_a b1_a σ K X = bodyD Go.Proofs.Tryd.prog env an12 Go.Proofs.Tryd.f12 [a0_a, b1_a] σ K X := by
  unfold S12
  simp only [L12_4_eq]
  kernel_rfl
theorem S12_ok : (match Go.Proofs.Tryd.f12.body with | some c => okCode an12 Go.Proofs.Tryd.prog Go.Proofs.Tryd.f12.ntmps c | none => false) = true := by kernel_rfl
end Go.AD
