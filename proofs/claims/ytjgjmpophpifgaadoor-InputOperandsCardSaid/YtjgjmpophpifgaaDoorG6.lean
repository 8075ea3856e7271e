/- Bodies in the calculus' own words. Printed by gen.py, a program of this claim's own. -/
import Derived.Test.YtjgjmpophpifgaaDoorTy
set_option linter.unusedVariables false
set_option maxRecDepth 100000
namespace Go.AD
/-! ### tedder/tedderref15.Spans (function 11) -/
def an11 : An := { mu := [], cut := [(16, [0, 5, 8]), (20, [0, 5, 8, 9])], loop := [(5, [0, 1, 5, 6, 7]), (14, [0, 5, 8]), (16, [0, 5, 8]), (18, [0, 5, 8, 9]), (21, [0, 5, 8])] }
def L11_5 (env : Env) (I5 : Nat → List AV → AS → Prop) (m5 : Nat) (s0_l5 rs1_l5 l5_l5 from6_l5 i7_l5 : AV) (σ : AS) (K : AV → AS → Prop) (X : PV → AS → Prop) : Prop :=
 (lock lenD Go.Proofs.Tryd.prog 9 s0_l5 fun t14 =>
 (lock binD Go.Proofs.Tryd.prog .lss 3 i7_l5 t14 fun t15 =>
 (condD t15
 (lock indexD Go.Proofs.Tryd.prog 9 s0_l5 i7_l5 fun t20 =>
 (lock indexD Go.Proofs.Tryd.prog 9 rs1_l5 (.pv (.int .i64 0)) fun t22 =>
 (lock binD Go.Proofs.Tryd.prog .eql 5 t20 t22 fun t23 =>
 (condD t23
 (lock buildD Go.Proofs.Tryd.prog 25 [(0, from6_l5), (1, i7_l5)] fun t27 =>
 (lock buildSliceD Go.Proofs.Tryd.prog false σ 23 1 1 [(0, t27)] fun t28 σ2 =>
 (lock appendD Go.Proofs.Tryd.prog false σ2 23 l5_l5 t28 fun t29 σ3 =>
 (lock binD Go.Proofs.Tryd.prog .add 3 i7_l5 (.pv (.int .i64 1)) fun t31 =>
 (lock binD Go.Proofs.Tryd.prog .add 3 i7_l5 (.pv (.int .i64 1)) fun t17 =>
 (∃ m', m' < m5 ∧ I5 m' [s0_l5, rs1_l5, t29, t31, t17] σ3))))))
 (lock binD Go.Proofs.Tryd.prog .add 3 i7_l5 (.pv (.int .i64 1)) fun t17 =>
 (∃ m', m' < m5 ∧ I5 m' [s0_l5, rs1_l5, l5_l5, from6_l5, t17] σ))))))
 (lock lenD Go.Proofs.Tryd.prog 9 s0_l5 fun t34 =>
 (lock binD Go.Proofs.Tryd.prog .lss 3 from6_l5 t34 fun t35 =>
 (condD t35
 (lock lenD Go.Proofs.Tryd.prog 9 s0_l5 fun t39 =>
 (lock buildD Go.Proofs.Tryd.prog 25 [(0, from6_l5), (1, t39)] fun t40 =>
 (lock buildSliceD Go.Proofs.Tryd.prog false σ 23 1 1 [(0, t40)] fun t41 σ4 =>
 (lock appendD Go.Proofs.Tryd.prog false σ4 23 l5_l5 t41 fun t42 σ5 =>
 (retV (t42) σ5 K)))))
 (retV (l5_l5) σ K)))))))
theorem L11_5_eq (env : Env) (I5 : Nat → List AV → AS → Prop) (m5 : Nat) (s0_l5 rs1_l5 l5_l5 from6_l5 i7_l5 : AV) (σ : AS) (K : AV → AS → Prop) (X : PV → AS → Prop) : L11_5 env I5 m5 s0_l5 rs1_l5 l5_l5 from6_l5 i7_l5 σ K X = wpD Go.Proofs.Tryd.prog env an11 (subC (bodyC Go.Proofs.Tryd.f11) [1, 1, 0, 1, 0, 1, 0, 1, 0, 0]) (contQ Go.Proofs.Tryd.prog env an11 (bodyC Go.Proofs.Tryd.f11) [1, 1, 0, 1, 0, 1, 0, 1, 0, 0] [(I5, m5)] (rootQ Go.Proofs.Tryd.prog Go.Proofs.Tryd.f11 K X)) [(0, s0_l5), (1, rs1_l5), (5, l5_l5), (6, from6_l5), (7, i7_l5)] σ := by
  unfold L11_5
  kernel_rfl
theorem lp11_5 {α : Type} {env : Env}  {s0_l5 rs1_l5 : AV} {σ : AS} {K : AV → AS → Prop} {X : PV → AS → Prop} (μ : α → AS → Nat) (I : α → AS → Prop) (el5_l5 efrom6_l5 ei7_l5 : α → AV) (a0 : α) (h0 : I a0 σ)
 (h : ∀ a σ, I a σ → L11_5 env  (Inv (fun a => [s0_l5, rs1_l5, el5_l5 a, efrom6_l5 a, ei7_l5 a]) μ I) (μ a σ) s0_l5 rs1_l5 (el5_l5 a) (efrom6_l5 a) (ei7_l5 a) σ K X) :
 ∃ I5 : Nat → List AV → AS → Prop, (∃ m, I5 m [s0_l5, rs1_l5, el5_l5 a0, efrom6_l5 a0, ei7_l5 a0] σ) ∧ ∀ (m : Nat) (x0 x1 x2 x3 x4 : AV), ∀ σ, I5 m [x0, x1, x2, x3, x4] σ →
 L11_5 env  I5 m x0 x1 x2 x3 x4 σ K X := by
  refine ⟨Inv (fun a => [s0_l5, rs1_l5, el5_l5 a, efrom6_l5 a, ei7_l5 a]) μ I, ⟨_, a0, rfl, rfl, h0⟩, ?_⟩
  rintro m x0 x1 x2 x3 x4 σ' ⟨a, hv, rfl, hI⟩
  simp only [List.cons.injEq, and_true] at hv
  obtain ⟨rfl, rfl, rfl, rfl, rfl⟩ := hv
  exact h a σ' hI
def L11_21 (env : Env) (I16 : Nat → List AV → AS → Prop) (m16 : Nat) (I21 : Nat → List AV → AS → Prop) (m21 : Nat) (s0_l21 l5_l21 i8_l21 : AV) (σ : AS) (K : AV → AS → Prop) (X : PV → AS → Prop) : Prop :=
 (lock lenD Go.Proofs.Tryd.prog 9 s0_l21 fun t96 =>
 (lock binD Go.Proofs.Tryd.prog .lss 3 i8_l21 t96 fun t97 =>
 (guardD t97 true
 (lock indexD Go.Proofs.Tryd.prog 9 s0_l21 i8_l21 fun t101 =>
 (lock binD Go.Proofs.Tryd.prog .eql 5 t101 (.pv (.int .u8 10)) fun t102 =>
 (condD t102
 (lock binD Go.Proofs.Tryd.prog .add 3 i8_l21 (.pv (.int .i64 1)) fun t105 =>
 (∃ m', m' < m21 ∧ I21 m' [s0_l21, l5_l21, t105] σ))
 (∃ m', m' < m16 ∧ I16 m' [s0_l21, l5_l21, i8_l21] σ))))
 (∃ m', m' < m16 ∧ I16 m' [s0_l21, l5_l21, i8_l21] σ))))
theorem L11_21_eq (env : Env) (I16 : Nat → List AV → AS → Prop) (m16 : Nat) (I21 : Nat → List AV → AS → Prop) (m21 : Nat) (s0_l21 l5_l21 i8_l21 : AV) (σ : AS) (K : AV → AS → Prop) (X : PV → AS → Prop) : L11_21 env I16 m16 I21 m21 s0_l21 l5_l21 i8_l21 σ K X = wpD Go.Proofs.Tryd.prog env an11 (subC (bodyC Go.Proofs.Tryd.f11) [1, 1, 1, 1, 1, 0, 0, 0, 1, 0, 1, 1, 1, 0, 0]) (contQ Go.Proofs.Tryd.prog env an11 (bodyC Go.Proofs.Tryd.f11) [1, 1, 1, 1, 1, 0, 0, 0, 1, 0, 1, 1, 1, 0, 0] [(I16, m16), (I21, m21)] (rootQ Go.Proofs.Tryd.prog Go.Proofs.Tryd.f11 K X)) [(0, s0_l21), (5, l5_l21), (8, i8_l21)] σ := by
  unfold L11_21
  kernel_rfl
theorem lp11_21 {α : Type} {env : Env} {I16 : Nat → List AV → AS → Prop} {m16 : Nat} {s0_l21 l5_l21 : AV} {σ : AS} {K : AV → AS → Prop} {X : PV → AS → Prop} (μ : α → AS → Nat) (I : α → AS → Prop) (ei8_l21 : α → AV) (a0 : α) (h0 : I a0 σ)
 (h : ∀ a σ, I a σ → L11_21 env I16 m16 (Inv (fun a => [s0_l21, l5_l21, ei8_l21 a]) μ I) (μ a σ) s0_l21 l5_l21 (ei8_l21 a) σ K X) :
 ∃ I21 : Nat → List AV → AS → Prop, (∃ m, I21 m [s0_l21, l5_l21, ei8_l21 a0] σ) ∧ ∀ (m : Nat) (x0 x1 x2 : AV), ∀ σ, I21 m [x0, x1, x2] σ →
 L11_21 env I16 m16 I21 m x0 x1 x2 σ K X := by
  refine ⟨Inv (fun a => [s0_l21, l5_l21, ei8_l21 a]) μ I, ⟨_, a0, rfl, rfl, h0⟩, ?_⟩
  rintro m x0 x1 x2 σ' ⟨a, hv, rfl, hI⟩
  simp only [List.cons.injEq, and_true] at hv
  obtain ⟨rfl, rfl, rfl⟩ := hv
  exact h a σ' hI
def J11_20 (env : Env) (I16 : Nat → List AV → AS → Prop) (m16 : Nat) (s0_j20 l5_j20 i8_j20 from9_j20 : AV) (σ : AS) (K : AV → AS → Prop) (X : PV → AS → Prop) : Prop :=
 (lock buildD Go.Proofs.Tryd.prog 25 [(0, from9_j20), (1, i8_j20)] fun t91 =>
 (lock buildSliceD Go.Proofs.Tryd.prog false σ 23 1 1 [(0, t91)] fun t92 σ9 =>
 (lock appendD Go.Proofs.Tryd.prog false σ9 23 l5_j20 t92 fun t93 σ10 =>
 (∃ I21 : Nat → List AV → AS → Prop, (∃ m, I21 m [s0_j20, t93, i8_j20] σ10) ∧ ∀ (m21 : Nat) (s0_l21 l5_l21 i8_l21 : AV), ∀ σ11, I21 m21 [s0_l21, l5_l21, i8_l21] σ11 →
 (L11_21 env I16 m16 I21 m21 s0_l21 l5_l21 i8_l21 σ11 K X)))))
theorem J11_20_eq (env : Env) (I16 : Nat → List AV → AS → Prop) (m16 : Nat) (s0_j20 l5_j20 i8_j20 from9_j20 : AV) (σ : AS) (K : AV → AS → Prop) (X : PV → AS → Prop) : J11_20 env I16 m16 s0_j20 l5_j20 i8_j20 from9_j20 σ K X = wpD Go.Proofs.Tryd.prog env an11 (subC (bodyC Go.Proofs.Tryd.f11) [1, 1, 1, 1, 1, 0, 0, 0, 1, 0, 1, 1]) (contQ Go.Proofs.Tryd.prog env an11 (bodyC Go.Proofs.Tryd.f11) [1, 1, 1, 1, 1, 0, 0, 0, 1, 0, 1, 1] [(I16, m16)] (rootQ Go.Proofs.Tryd.prog Go.Proofs.Tryd.f11 K X)) [(0, s0_j20), (5, l5_j20), (8, i8_j20), (9, from9_j20)] σ := by
  unfold J11_20
  simp only [L11_21_eq]
  kernel_rfl
def L11_18 (env : Env) (I16 : Nat → List AV → AS → Prop) (m16 : Nat) (I18 : Nat → List AV → AS → Prop) (m18 : Nat) (s0_l18 l5_l18 i8_l18 from9_l18 : AV) (σ : AS) (K : AV → AS → Prop) (X : PV → AS → Prop) : Prop :=
 (lock lenD Go.Proofs.Tryd.prog 9 s0_l18 fun t63 =>
 (lock binD Go.Proofs.Tryd.prog .lss 3 i8_l18 t63 fun t64 =>
 (guardD t64 true
 (lock indexD Go.Proofs.Tryd.prog 9 s0_l18 i8_l18 fun t68 =>
 (lock binD Go.Proofs.Tryd.prog .eql 5 t68 (.pv (.int .u8 10)) fun t69 =>
 (guardD t69 true
 (lock binD Go.Proofs.Tryd.prog .add 3 i8_l18 (.pv (.int .i64 1)) fun t72 =>
 (lock lenD Go.Proofs.Tryd.prog 9 s0_l18 fun t74 =>
 (lock binD Go.Proofs.Tryd.prog .eql 3 t72 t74 fun t75 =>
 (guardD t75 false
 (lock binD Go.Proofs.Tryd.prog .add 3 i8_l18 (.pv (.int .i64 1)) fun t79 =>
 (lock indexD Go.Proofs.Tryd.prog 9 s0_l18 t79 fun t80 =>
 (lock binD Go.Proofs.Tryd.prog .eql 5 t80 (.pv (.int .u8 10)) fun t81 =>
 (unD .not t81 fun t84 =>
 (condD t84
 (lock binD Go.Proofs.Tryd.prog .add 3 i8_l18 (.pv (.int .i64 1)) fun t87 =>
 (∃ m', m' < m18 ∧ I18 m' [s0_l18, l5_l18, t87, from9_l18] σ))
 (J11_20 env I16 m16 (s0_l18) (l5_l18) (i8_l18) (from9_l18) σ K X))))))
 (J11_20 env I16 m16 (s0_l18) (l5_l18) (i8_l18) (from9_l18) σ K X)))))
 (lock binD Go.Proofs.Tryd.prog .add 3 i8_l18 (.pv (.int .i64 1)) fun t87 =>
 (∃ m', m' < m18 ∧ I18 m' [s0_l18, l5_l18, t87, from9_l18] σ)))))
 (J11_20 env I16 m16 (s0_l18) (l5_l18) (i8_l18) (from9_l18) σ K X))))
theorem L11_18_eq (env : Env) (I16 : Nat → List AV → AS → Prop) (m16 : Nat) (I18 : Nat → List AV → AS → Prop) (m18 : Nat) (s0_l18 l5_l18 i8_l18 from9_l18 : AV) (σ : AS) (K : AV → AS → Prop) (X : PV → AS → Prop) : L11_18 env I16 m16 I18 m18 s0_l18 l5_l18 i8_l18 from9_l18 σ K X = wpD Go.Proofs.Tryd.prog env an11 (subC (bodyC Go.Proofs.Tryd.f11) [1, 1, 1, 1, 1, 0, 0, 0, 1, 0, 1, 0, 0, 0]) (contQ Go.Proofs.Tryd.prog env an11 (bodyC Go.Proofs.Tryd.f11) [1, 1, 1, 1, 1, 0, 0, 0, 1, 0, 1, 0, 0, 0] [(I16, m16), (I18, m18)] (rootQ Go.Proofs.Tryd.prog Go.Proofs.Tryd.f11 K X)) [(0, s0_l18), (5, l5_l18), (8, i8_l18), (9, from9_l18)] σ := by
  unfold L11_18
  kernel_rfl
theorem lp11_18 {α : Type} {env : Env} {I16 : Nat → List AV → AS → Prop} {m16 : Nat} {s0_l18 l5_l18 from9_l18 : AV} {σ : AS} {K : AV → AS → Prop} {X : PV → AS → Prop} (μ : α → AS → Nat) (I : α → AS → Prop) (ei8_l18 : α → AV) (a0 : α) (h0 : I a0 σ)
 (h : ∀ a σ, I a σ → L11_18 env I16 m16 (Inv (fun a => [s0_l18, l5_l18, ei8_l18 a, from9_l18]) μ I) (μ a σ) s0_l18 l5_l18 (ei8_l18 a) from9_l18 σ K X) :
 ∃ I18 : Nat → List AV → AS → Prop, (∃ m, I18 m [s0_l18, l5_l18, ei8_l18 a0, from9_l18] σ) ∧ ∀ (m : Nat) (x0 x1 x2 x3 : AV), ∀ σ, I18 m [x0, x1, x2, x3] σ →
 L11_18 env I16 m16 I18 m x0 x1 x2 x3 σ K X := by
  refine ⟨Inv (fun a => [s0_l18, l5_l18, ei8_l18 a, from9_l18]) μ I, ⟨_, a0, rfl, rfl, h0⟩, ?_⟩
  rintro m x0 x1 x2 x3 σ' ⟨a, hv, rfl, hI⟩
  simp only [List.cons.injEq, and_true] at hv
  obtain ⟨rfl, rfl, rfl, rfl⟩ := hv
  exact h a σ' hI
def L11_16 (env : Env) (I16 : Nat → List AV → AS → Prop) (m16 : Nat) (s0_l16 l5_l16 i8_l16 : AV) (σ : AS) (K : AV → AS → Prop) (X : PV → AS → Prop) : Prop :=
 (lock lenD Go.Proofs.Tryd.prog 9 s0_l16 fun t58 =>
 (lock binD Go.Proofs.Tryd.prog .lss 3 i8_l16 t58 fun t59 =>
 (condD t59
 (∃ I18 : Nat → List AV → AS → Prop, (∃ m, I18 m [s0_l16, l5_l16, i8_l16, i8_l16] σ) ∧ ∀ (m18 : Nat) (s0_l18 l5_l18 i8_l18 from9_l18 : AV), ∀ σ8, I18 m18 [s0_l18, l5_l18, i8_l18, from9_l18] σ8 →
 (L11_18 env I16 m16 I18 m18 s0_l18 l5_l18 i8_l18 from9_l18 σ8 K X))
 (retV (l5_l16) σ K))))
theorem L11_16_eq (env : Env) (I16 : Nat → List AV → AS → Prop) (m16 : Nat) (s0_l16 l5_l16 i8_l16 : AV) (σ : AS) (K : AV → AS → Prop) (X : PV → AS → Prop) : L11_16 env I16 m16 s0_l16 l5_l16 i8_l16 σ K X = wpD Go.Proofs.Tryd.prog env an11 (subC (bodyC Go.Proofs.Tryd.f11) [1, 1, 1, 1, 1, 0, 0, 0]) (contQ Go.Proofs.Tryd.prog env an11 (bodyC Go.Proofs.Tryd.f11) [1, 1, 1, 1, 1, 0, 0, 0] [(I16, m16)] (rootQ Go.Proofs.Tryd.prog Go.Proofs.Tryd.f11 K X)) [(0, s0_l16), (5, l5_l16), (8, i8_l16)] σ := by
  unfold L11_16
  simp only [L11_18_eq]
  kernel_rfl
theorem lp11_16 {α : Type} {env : Env}  {s0_l16 : AV} {σ : AS} {K : AV → AS → Prop} {X : PV → AS → Prop} (μ : α → AS → Nat) (I : α → AS → Prop) (el5_l16 ei8_l16 : α → AV) (a0 : α) (h0 : I a0 σ)
 (h : ∀ a σ, I a σ → L11_16 env  (Inv (fun a => [s0_l16, el5_l16 a, ei8_l16 a]) μ I) (μ a σ) s0_l16 (el5_l16 a) (ei8_l16 a) σ K X) :
 ∃ I16 : Nat → List AV → AS → Prop, (∃ m, I16 m [s0_l16, el5_l16 a0, ei8_l16 a0] σ) ∧ ∀ (m : Nat) (x0 x1 x2 : AV), ∀ σ, I16 m [x0, x1, x2] σ →
 L11_16 env  I16 m x0 x1 x2 σ K X := by
  refine ⟨Inv (fun a => [s0_l16, el5_l16 a, ei8_l16 a]) μ I, ⟨_, a0, rfl, rfl, h0⟩, ?_⟩
  rintro m x0 x1 x2 σ' ⟨a, hv, rfl, hI⟩
  simp only [List.cons.injEq, and_true] at hv
  obtain ⟨rfl, rfl, rfl⟩ := hv
  exact h a σ' hI
def J11_16 (env : Env)  (s0_j16 l5_j16 i8_j16 : AV) (σ : AS) (K : AV → AS → Prop) (X : PV → AS → Prop) : Prop :=
 (∃ I16 : Nat → List AV → AS → Prop, (∃ m, I16 m [s0_j16, l5_j16, i8_j16] σ) ∧ ∀ (m16 : Nat) (s0_l16 l5_l16 i8_l16 : AV), ∀ σ7, I16 m16 [s0_l16, l5_l16, i8_l16] σ7 →
 (L11_16 env I16 m16 s0_l16 l5_l16 i8_l16 σ7 K X))
theorem J11_16_eq (env : Env)  (s0_j16 l5_j16 i8_j16 : AV) (σ : AS) (K : AV → AS → Prop) (X : PV → AS → Prop) : J11_16 env  s0_j16 l5_j16 i8_j16 σ K X = wpD Go.Proofs.Tryd.prog env an11 (subC (bodyC Go.Proofs.Tryd.f11) [1, 1, 1, 1, 1]) (contQ Go.Proofs.Tryd.prog env an11 (bodyC Go.Proofs.Tryd.f11) [1, 1, 1, 1, 1] [] (rootQ Go.Proofs.Tryd.prog Go.Proofs.Tryd.f11 K X)) [(0, s0_j16), (5, l5_j16), (8, i8_j16)] σ := by
  unfold J11_16
  simp only [L11_16_eq]
  kernel_rfl
def L11_14 (env : Env) (I14 : Nat → List AV → AS → Prop) (m14 : Nat) (s0_l14 l5_l14 i8_l14 : AV) (σ : AS) (K : AV → AS → Prop) (X : PV → AS → Prop) : Prop :=
 (lock lenD Go.Proofs.Tryd.prog 9 s0_l14 fun t46 =>
 (lock binD Go.Proofs.Tryd.prog .lss 3 i8_l14 t46 fun t47 =>
 (guardD t47 true
 (lock indexD Go.Proofs.Tryd.prog 9 s0_l14 i8_l14 fun t51 =>
 (lock binD Go.Proofs.Tryd.prog .eql 5 t51 (.pv (.int .u8 10)) fun t52 =>
 (condD t52
 (lock binD Go.Proofs.Tryd.prog .add 3 i8_l14 (.pv (.int .i64 1)) fun t55 =>
 (∃ m', m' < m14 ∧ I14 m' [s0_l14, l5_l14, t55] σ))
 (J11_16 env  (s0_l14) (l5_l14) (i8_l14) σ K X))))
 (J11_16 env  (s0_l14) (l5_l14) (i8_l14) σ K X))))
theorem L11_14_eq (env : Env) (I14 : Nat → List AV → AS → Prop) (m14 : Nat) (s0_l14 l5_l14 i8_l14 : AV) (σ : AS) (K : AV → AS → Prop) (X : PV → AS → Prop) : L11_14 env I14 m14 s0_l14 l5_l14 i8_l14 σ K X = wpD Go.Proofs.Tryd.prog env an11 (subC (bodyC Go.Proofs.Tryd.f11) [1, 1, 1, 1, 0, 0, 0]) (contQ Go.Proofs.Tryd.prog env an11 (bodyC Go.Proofs.Tryd.f11) [1, 1, 1, 1, 0, 0, 0] [(I14, m14)] (rootQ Go.Proofs.Tryd.prog Go.Proofs.Tryd.f11 K X)) [(0, s0_l14), (5, l5_l14), (8, i8_l14)] σ := by
  unfold L11_14
  kernel_rfl
theorem lp11_14 {α : Type} {env : Env}  {s0_l14 l5_l14 : AV} {σ : AS} {K : AV → AS → Prop} {X : PV → AS → Prop} (μ : α → AS → Nat) (I : α → AS → Prop) (ei8_l14 : α → AV) (a0 : α) (h0 : I a0 σ)
 (h : ∀ a σ, I a σ → L11_14 env  (Inv (fun a => [s0_l14, l5_l14, ei8_l14 a]) μ I) (μ a σ) s0_l14 l5_l14 (ei8_l14 a) σ K X) :
 ∃ I14 : Nat → List AV → AS → Prop, (∃ m, I14 m [s0_l14, l5_l14, ei8_l14 a0] σ) ∧ ∀ (m : Nat) (x0 x1 x2 : AV), ∀ σ, I14 m [x0, x1, x2] σ →
 L11_14 env  I14 m x0 x1 x2 σ K X := by
  refine ⟨Inv (fun a => [s0_l14, l5_l14, ei8_l14 a]) μ I, ⟨_, a0, rfl, rfl, h0⟩, ?_⟩
  rintro m x0 x1 x2 σ' ⟨a, hv, rfl, hI⟩
  simp only [List.cons.injEq, and_true] at hv
  obtain ⟨rfl, rfl, rfl⟩ := hv
  exact h a σ' hI
def S11 (env : Env) (s0_a rs1_a : AV) (σ : AS) (K : AV → AS → Prop) (X : PV → AS → Prop) : Prop :=
 (lock binD Go.Proofs.Tryd.prog .neq 9 rs1_a (.pv (.str [])) fun t11 =>
 (condD t11
 (∃ I5 : Nat → List AV → AS → Prop, (∃ m, I5 m [s0_a, rs1_a, (.nilS), (.pv (.int .i64 0)), (.pv (.int .i64 0))] σ) ∧ ∀ (m5 : Nat) (s0_l5 rs1_l5 l5_l5 from6_l5 i7_l5 : AV), ∀ σ1, I5 m5 [s0_l5, rs1_l5, l5_l5, from6_l5, i7_l5] σ1 →
 (L11_5 env I5 m5 s0_l5 rs1_l5 l5_l5 from6_l5 i7_l5 σ1 K X))
 (∃ I14 : Nat → List AV → AS → Prop, (∃ m, I14 m [s0_a, (.nilS), (.pv (.int .i64 0))] σ) ∧ ∀ (m14 : Nat) (s0_l14 l5_l14 i8_l14 : AV), ∀ σ6, I14 m14 [s0_l14, l5_l14, i8_l14] σ6 →
 (L11_14 env I14 m14 s0_l14 l5_l14 i8_l14 σ6 K X))))
theorem S11_eq (env : Env) (s0_a rs1_a : AV) (σ : AS) (K : AV → AS → Prop) (X : PV → AS → Prop) : S11 env s0_a rs1_a σ K X = bodyD Go.Proofs.Tryd.prog env an11 Go.Proofs.Tryd.f11 [s0_a, rs1_a] σ K X := by
  unfold S11
  simp only [L11_5_eq, L11_14_eq]
  kernel_rfl
theorem S11_ok : (match Go.Proofs.Tryd.f11.body with | some c => okCode an11 Go.Proofs.Tryd.prog Go.Proofs.Tryd.f11.ntmps c | none => false) = true := by kernel_rfl
/-! ### tedder/tedderref15.Records (function 14) -/
def an14 : An := { mu := [], cut := [], loop := [(4, [0, 5, 6, 7])], any := [6] }
def L14_4 (env : Env) (I4 : Nat → List AV → AS → Prop) (m4 : Nat) (s0_l4 out5_l4 l6_l4 i7_l4 : AV) (σ : AS) (K : AV → AS → Prop) (X : PV → AS → Prop) : Prop :=
 (lock lenD Go.Proofs.Tryd.prog 23 l6_l4 fun t13 =>
 (lock binD Go.Proofs.Tryd.prog .lss 3 i7_l4 t13 fun t14 =>
 (condD t14
 (lock indexAddrD Go.Proofs.Tryd.prog 23 l6_l4 i7_l4 fun t21 =>
 (lock indexAddrD Go.Proofs.Tryd.prog 25 t21 (.pv (.int .i64 0)) fun t22 =>
 (lock indexAddrD Go.Proofs.Tryd.prog 23 l6_l4 i7_l4 fun t26 =>
 (lock indexAddrD Go.Proofs.Tryd.prog 25 t26 (.pv (.int .i64 1)) fun t27 =>
 ((lock loadD Go.Proofs.Tryd.prog σ 3 t22 fun t23 =>
 ((lock loadD Go.Proofs.Tryd.prog σ 3 t27 fun t28 =>
 (lock sliceD Go.Proofs.Tryd.prog 9 s0_l4 (some t23) (some t28) fun t29 =>
 ((lock buildSliceD Go.Proofs.Tryd.prog false σ 27 1 1 [(0, t29)] fun t30 σ5 =>
 ((lock appendD Go.Proofs.Tryd.prog false σ5 27 out5_l4 t30 fun t31 σ6 =>
 (lock binD Go.Proofs.Tryd.prog .add 3 i7_l4 (.pv (.int .i64 1)) fun t16 =>
 (∃ m', m' < m4 ∧ I4 m' [s0_l4, t31, l6_l4, t16] σ6))) ∧ True)) ∧ True))) ∧ True)) ∧ ((lock loadD Go.Proofs.Tryd.prog σ 3 t27 fun t28 =>
 ((lock loadD Go.Proofs.Tryd.prog σ 3 t22 fun t23 =>
 (lock sliceD Go.Proofs.Tryd.prog 9 s0_l4 (some t23) (some t28) fun t29 =>
 ((lock buildSliceD Go.Proofs.Tryd.prog false σ 27 1 1 [(0, t29)] fun t30 σ3 =>
 ((lock appendD Go.Proofs.Tryd.prog false σ3 27 out5_l4 t30 fun t31 σ4 =>
 (lock binD Go.Proofs.Tryd.prog .add 3 i7_l4 (.pv (.int .i64 1)) fun t16 =>
 (∃ m', m' < m4 ∧ I4 m' [s0_l4, t31, l6_l4, t16] σ4))) ∧ True)) ∧ True))) ∧ True)) ∧ True))))))
 (retV (out5_l4) σ K))))
theorem L14_4_eq (env : Env) (I4 : Nat → List AV → AS → Prop) (m4 : Nat) (s0_l4 out5_l4 l6_l4 i7_l4 : AV) (σ : AS) (K : AV → AS → Prop) (X : PV → AS → Prop) : L14_4 env I4 m4 s0_l4 out5_l4 l6_l4 i7_l4 σ K X = wpD Go.Proofs.Tryd.prog env an14 (subC (bodyC Go.Proofs.Tryd.f14) [1, 1, 1, 0, 1, 0, 0]) (contQ Go.Proofs.Tryd.prog env an14 (bodyC Go.Proofs.Tryd.f14) [1, 1, 1, 0, 1, 0, 0] [(I4, m4)] (rootQ Go.Proofs.Tryd.prog Go.Proofs.Tryd.f14 K X)) [(0, s0_l4), (5, out5_l4), (6, l6_l4), (7, i7_l4)] σ := by
  unfold L14_4
  kernel_rfl
theorem lp14_4 {α : Type} {env : Env}  {s0_l4 l6_l4 : AV} {σ : AS} {K : AV → AS → Prop} {X : PV → AS → Prop} (μ : α → AS → Nat) (I : α → AS → Prop) (eout5_l4 ei7_l4 : α → AV) (a0 : α) (h0 : I a0 σ)
 (h : ∀ a σ, I a σ → L14_4 env  (Inv (fun a => [s0_l4, eout5_l4 a, l6_l4, ei7_l4 a]) μ I) (μ a σ) s0_l4 (eout5_l4 a) l6_l4 (ei7_l4 a) σ K X) :
 ∃ I4 : Nat → List AV → AS → Prop, (∃ m, I4 m [s0_l4, eout5_l4 a0, l6_l4, ei7_l4 a0] σ) ∧ ∀ (m : Nat) (x0 x1 x2 x3 : AV), ∀ σ, I4 m [x0, x1, x2, x3] σ →
 L14_4 env  I4 m x0 x1 x2 x3 σ K X := by
  refine ⟨Inv (fun a => [s0_l4, eout5_l4 a, l6_l4, ei7_l4 a]) μ I, ⟨_, a0, rfl, rfl, h0⟩, ?_⟩
  rintro m x0 x1 x2 x3 σ' ⟨a, hv, rfl, hI⟩
  simp only [List.cons.injEq, and_true] at hv
  obtain ⟨rfl, rfl, rfl, rfl⟩ := hv
  exact h a σ' hI
def S14 (env : Env) (s0_a rs1_a : AV) (σ : AS) (K : AV → AS → Prop) (X : PV → AS → Prop) : Prop :=
 (env 11 [s0_a, rs1_a] σ (fun t10 σ1 =>
 (∃ I4 : Nat → List AV → AS → Prop, (∃ m, I4 m [s0_a, (.nilS), t10, (.pv (.int .i64 0))] σ1) ∧ ∀ (m4 : Nat) (s0_l4 out5_l4 l6_l4 i7_l4 : AV), ∀ σ2, I4 m4 [s0_l4, out5_l4, l6_l4, i7_l4] σ2 →
 (L14_4 env I4 m4 s0_l4 out5_l4 l6_l4 i7_l4 σ2 K X))) (panV X))
theorem S14_eq (env : Env) (s0_a rs1_a : AV) (σ : AS) (K : AV → AS → Prop) (X : PV → AS → Prop) : S14 env s0_a rs1_a σ K X = bodyD Go.Proofs.Tryd.prog env an14 Go.Proofs.Tryd.f14 [s0_a, rs1_a] σ K X := by
  unfold S14
  simp only [L14_4_eq]
  kernel_rfl
theorem S14_ok : (match Go.Proofs.Tryd.f14.body with | some c => okCode an14 Go.Proofs.Tryd.prog Go.Proofs.Tryd.f14.ntmps c | none => false) = true := by kernel_rfl
/-! ### tedder/tedderref15.Operand (function 16) -/
def an16 : An := { mu := [], cut := [(3, [0, 5]), (5, [0, 5, 6, 7]), (8, [0, 5]), (10, [0, 5]), (18, [0, 5, 8, 9, 10, 11, 88]), (21, [0, 5, 8, 9, 10, 11, 115]), (25, [0, 5, 12])], loop := [(2, [0, 5]), (13, [0, 5, 8, 9, 10])] }
def J16_5 (env : Env) (I2 : Nat → List AV → AS → Prop) (m2 : Nat) (s0_j5 k5_j5 c6_j5 letter7_j5 : AV) (σ : AS) (K : AV → AS → Prop) (X : PV → AS → Prop) : Prop :=
 (unD .not letter7_j5 fun t46 =>
 (guardD t46 true
 (lock binD Go.Proofs.Tryd.prog .gtr 3 k5_j5 (.pv (.int .i64 0)) fun t49 =>
 (guardD t49 true
 (lock binD Go.Proofs.Tryd.prog .geq 5 c6_j5 (.pv (.int .u8 48)) fun t52 =>
 (guardD t52 true
 (lock binD Go.Proofs.Tryd.prog .leq 5 c6_j5 (.pv (.int .u8 57)) fun t56 =>
 (unD .not t56 fun t58 =>
 (condD t58
 (retV (.tuple [(.pv (.str [])), (.pv (.str [])), (.pv (.bool false))]) σ K)
 (lock binD Go.Proofs.Tryd.prog .add 3 k5_j5 (.pv (.int .i64 1)) fun t61 =>
 (∃ m', m' < m2 ∧ I2 m' [s0_j5, t61] σ)))))
 (retV (.tuple [(.pv (.str [])), (.pv (.str [])), (.pv (.bool false))]) σ K)))
 (retV (.tuple [(.pv (.str [])), (.pv (.str [])), (.pv (.bool false))]) σ K)))
 (lock binD Go.Proofs.Tryd.prog .add 3 k5_j5 (.pv (.int .i64 1)) fun t61 =>
 (∃ m', m' < m2 ∧ I2 m' [s0_j5, t61] σ))))
theorem J16_5_eq (env : Env) (I2 : Nat → List AV → AS → Prop) (m2 : Nat) (s0_j5 k5_j5 c6_j5 letter7_j5 : AV) (σ : AS) (K : AV → AS → Prop) (X : PV → AS → Prop) : J16_5 env I2 m2 s0_j5 k5_j5 c6_j5 letter7_j5 σ K X = wpD Go.Proofs.Tryd.prog env an16 (subC (bodyC Go.Proofs.Tryd.f16) [1, 1, 0, 0, 0, 1, 0, 1, 1]) (contQ Go.Proofs.Tryd.prog env an16 (bodyC Go.Proofs.Tryd.f16) [1, 1, 0, 0, 0, 1, 0, 1, 1] [(I2, m2)] (rootQ Go.Proofs.Tryd.prog Go.Proofs.Tryd.f16 K X)) [(0, s0_j5), (5, k5_j5), (6, c6_j5), (7, letter7_j5)] σ := by
  unfold J16_5
  kernel_rfl
def J16_3 (env : Env) (I2 : Nat → List AV → AS → Prop) (m2 : Nat) (s0_j3 k5_j3 : AV) (σ : AS) (K : AV → AS → Prop) (X : PV → AS → Prop) : Prop :=
 (lock indexD Go.Proofs.Tryd.prog 9 s0_j3 k5_j3 fun t26 =>
 (lock binD Go.Proofs.Tryd.prog .geq 5 t26 (.pv (.int .u8 97)) fun t28 =>
 (guardD t28 true
 (lock binD Go.Proofs.Tryd.prog .leq 5 t26 (.pv (.int .u8 122)) fun t31 =>
 (guardD t31 false
 (lock binD Go.Proofs.Tryd.prog .geq 5 t26 (.pv (.int .u8 65)) fun t35 =>
 (guardD t35 true
 (lock binD Go.Proofs.Tryd.prog .leq 5 t26 (.pv (.int .u8 90)) fun t38 =>
 (guardD t38 false
 (lock binD Go.Proofs.Tryd.prog .eql 5 t26 (.pv (.int .u8 95)) fun t43 =>
 (J16_5 env I2 m2 (s0_j3) (k5_j3) (t26) (t43) σ K X))
 (J16_5 env I2 m2 (s0_j3) (k5_j3) (t26) (.pv (.bool true)) σ K X)))
 (lock binD Go.Proofs.Tryd.prog .eql 5 t26 (.pv (.int .u8 95)) fun t43 =>
 (J16_5 env I2 m2 (s0_j3) (k5_j3) (t26) (t43) σ K X))))
 (J16_5 env I2 m2 (s0_j3) (k5_j3) (t26) (.pv (.bool true)) σ K X)))
 (lock binD Go.Proofs.Tryd.prog .geq 5 t26 (.pv (.int .u8 65)) fun t35 =>
 (guardD t35 true
 (lock binD Go.Proofs.Tryd.prog .leq 5 t26 (.pv (.int .u8 90)) fun t38 =>
 (guardD t38 false
 (lock binD Go.Proofs.Tryd.prog .eql 5 t26 (.pv (.int .u8 95)) fun t43 =>
 (J16_5 env I2 m2 (s0_j3) (k5_j3) (t26) (t43) σ K X))
 (J16_5 env I2 m2 (s0_j3) (k5_j3) (t26) (.pv (.bool true)) σ K X)))
 (lock binD Go.Proofs.Tryd.prog .eql 5 t26 (.pv (.int .u8 95)) fun t43 =>
 (J16_5 env I2 m2 (s0_j3) (k5_j3) (t26) (t43) σ K X)))))))
theorem J16_3_eq (env : Env) (I2 : Nat → List AV → AS → Prop) (m2 : Nat) (s0_j3 k5_j3 : AV) (σ : AS) (K : AV → AS → Prop) (X : PV → AS → Prop) : J16_3 env I2 m2 s0_j3 k5_j3 σ K X = wpD Go.Proofs.Tryd.prog env an16 (subC (bodyC Go.Proofs.Tryd.f16) [1, 1, 0, 0, 0, 1]) (contQ Go.Proofs.Tryd.prog env an16 (bodyC Go.Proofs.Tryd.f16) [1, 1, 0, 0, 0, 1] [(I2, m2)] (rootQ Go.Proofs.Tryd.prog Go.Proofs.Tryd.f16 K X)) [(0, s0_j3), (5, k5_j3)] σ := by
  unfold J16_3
  kernel_rfl
def J16_21 (env : Env) (I13 : Nat → List AV → AS → Prop) (m13 : Nat) (s0_j21 k5_j21 b8_j21 t9_j21 i10_j21 c11_j21 t115_j21 : AV) (σ : AS) (K : AV → AS → Prop) (X : PV → AS → Prop) : Prop :=
 (condD t115_j21
 (lock binD Go.Proofs.Tryd.prog .quo 5 c11_j21 (.pv (.int .u8 64)) fun t128 =>
 (lock binD Go.Proofs.Tryd.prog .add 5 (.pv (.int .u8 48)) t128 fun t129 =>
 (lock binD Go.Proofs.Tryd.prog .quo 5 c11_j21 (.pv (.int .u8 8)) fun t131 =>
 (lock binD Go.Proofs.Tryd.prog .rem 5 t131 (.pv (.int .u8 8)) fun t132 =>
 (lock binD Go.Proofs.Tryd.prog .add 5 (.pv (.int .u8 48)) t132 fun t133 =>
 (lock binD Go.Proofs.Tryd.prog .rem 5 c11_j21 (.pv (.int .u8 8)) fun t135 =>
 (lock binD Go.Proofs.Tryd.prog .add 5 (.pv (.int .u8 48)) t135 fun t136 =>
 (lock buildSliceD Go.Proofs.Tryd.prog false σ 30 4 4 [(0, (.pv (.int .u8 92))), (1, t129), (2, t133), (3, t136)] fun t137 σ6 =>
 (lock appendD Go.Proofs.Tryd.prog false σ6 30 b8_j21 t137 fun t138 σ7 =>
 (lock binD Go.Proofs.Tryd.prog .add 3 i10_j21 (.pv (.int .i64 1)) fun t80 =>
 (∃ m', m' < m13 ∧ I13 m' [s0_j21, k5_j21, t138, t9_j21, t80] σ7)))))))))))
 (lock buildSliceD Go.Proofs.Tryd.prog false σ 30 1 1 [(0, c11_j21)] fun t86 σ8 =>
 (lock appendD Go.Proofs.Tryd.prog false σ8 30 b8_j21 t86 fun t87 σ9 =>
 (lock binD Go.Proofs.Tryd.prog .add 3 i10_j21 (.pv (.int .i64 1)) fun t80 =>
 (∃ m', m' < m13 ∧ I13 m' [s0_j21, k5_j21, t87, t9_j21, t80] σ9)))))
theorem J16_21_eq (env : Env) (I13 : Nat → List AV → AS → Prop) (m13 : Nat) (s0_j21 k5_j21 b8_j21 t9_j21 i10_j21 c11_j21 t115_j21 : AV) (σ : AS) (K : AV → AS → Prop) (X : PV → AS → Prop) : J16_21 env I13 m13 s0_j21 k5_j21 b8_j21 t9_j21 i10_j21 c11_j21 t115_j21 σ K X = wpD Go.Proofs.Tryd.prog env an16 (subC (bodyC Go.Proofs.Tryd.f16) [1, 1, 1, 1, 1, 1, 0, 1, 0, 0, 1, 0, 0, 1, 0, 1, 1, 1]) (contQ Go.Proofs.Tryd.prog env an16 (bodyC Go.Proofs.Tryd.f16) [1, 1, 1, 1, 1, 1, 0, 1, 0, 0, 1, 0, 0, 1, 0, 1, 1, 1] [(I13, m13)] (rootQ Go.Proofs.Tryd.prog Go.Proofs.Tryd.f16 K X)) [(0, s0_j21), (5, k5_j21), (8, b8_j21), (9, t9_j21), (10, i10_j21), (11, c11_j21), (115, t115_j21)] σ := by
  unfold J16_21
  kernel_rfl
def J16_18 (env : Env) (I13 : Nat → List AV → AS → Prop) (m13 : Nat) (s0_j18 k5_j18 b8_j18 t9_j18 i10_j18 c11_j18 t88_j18 : AV) (σ : AS) (K : AV → AS → Prop) (X : PV → AS → Prop) : Prop :=
 (condD t88_j18
 (lock binD Go.Proofs.Tryd.prog .add 3 i10_j18 (.pv (.int .i64 1)) fun t109 =>
 (lock indexD Go.Proofs.Tryd.prog 9 t9_j18 t109 fun t110 =>
 (lock buildSliceD Go.Proofs.Tryd.prog false σ 30 2 2 [(0, c11_j18), (1, t110)] fun t111 σ4 =>
 (lock appendD Go.Proofs.Tryd.prog false σ4 30 b8_j18 t111 fun t112 σ5 =>
 (lock binD Go.Proofs.Tryd.prog .add 3 i10_j18 (.pv (.int .i64 1)) fun t114 =>
 (lock binD Go.Proofs.Tryd.prog .add 3 t114 (.pv (.int .i64 1)) fun t80 =>
 (∃ m', m' < m13 ∧ I13 m' [s0_j18, k5_j18, t112, t9_j18, t80] σ5)))))))
 (lock binD Go.Proofs.Tryd.prog .eql 5 c11_j18 (.pv (.int .u8 34)) fun t117 =>
 (guardD t117 false
 (lock binD Go.Proofs.Tryd.prog .eql 5 c11_j18 (.pv (.int .u8 10)) fun t120 =>
 (guardD t120 false
 (lock binD Go.Proofs.Tryd.prog .eql 5 c11_j18 (.pv (.int .u8 92)) fun t124 =>
 (J16_21 env I13 m13 (s0_j18) (k5_j18) (b8_j18) (t9_j18) (i10_j18) (c11_j18) (t124) σ K X))
 (J16_21 env I13 m13 (s0_j18) (k5_j18) (b8_j18) (t9_j18) (i10_j18) (c11_j18) (.pv (.bool true)) σ K X)))
 (J16_21 env I13 m13 (s0_j18) (k5_j18) (b8_j18) (t9_j18) (i10_j18) (c11_j18) (.pv (.bool true)) σ K X))))
theorem J16_18_eq (env : Env) (I13 : Nat → List AV → AS → Prop) (m13 : Nat) (s0_j18 k5_j18 b8_j18 t9_j18 i10_j18 c11_j18 t88_j18 : AV) (σ : AS) (K : AV → AS → Prop) (X : PV → AS → Prop) : J16_18 env I13 m13 s0_j18 k5_j18 b8_j18 t9_j18 i10_j18 c11_j18 t88_j18 σ K X = wpD Go.Proofs.Tryd.prog env an16 (subC (bodyC Go.Proofs.Tryd.f16) [1, 1, 1, 1, 1, 1, 0, 1, 0, 0, 1, 0, 0, 1, 0, 1]) (contQ Go.Proofs.Tryd.prog env an16 (bodyC Go.Proofs.Tryd.f16) [1, 1, 1, 1, 1, 1, 0, 1, 0, 0, 1, 0, 0, 1, 0, 1] [(I13, m13)] (rootQ Go.Proofs.Tryd.prog Go.Proofs.Tryd.f16 K X)) [(0, s0_j18), (5, k5_j18), (8, b8_j18), (9, t9_j18), (10, i10_j18), (11, c11_j18), (88, t88_j18)] σ := by
  unfold J16_18
  kernel_rfl
def J16_25 (env : Env)  (s0_j25 k5_j25 l12_j25 : AV) (σ : AS) (K : AV → AS → Prop) (X : PV → AS → Prop) : Prop :=
 (lock sliceD Go.Proofs.Tryd.prog 9 s0_j25 none (some k5_j25) fun t156 =>
 (lock indexAddrD Go.Proofs.Tryd.prog 47 l12_j25 (.pv (.int .i64 0)) fun t158 =>
 (lock fieldAddrD Go.Proofs.Tryd.prog 52 t158 1 fun t159 =>
 (lock loadD Go.Proofs.Tryd.prog σ 9 t159 fun t160 =>
 (retV (.tuple [t156, t160, (.pv (.bool true))]) σ K)))))
theorem J16_25_eq (env : Env)  (s0_j25 k5_j25 l12_j25 : AV) (σ : AS) (K : AV → AS → Prop) (X : PV → AS → Prop) : J16_25 env  s0_j25 k5_j25 l12_j25 σ K X = wpD Go.Proofs.Tryd.prog env an16 (subC (bodyC Go.Proofs.Tryd.f16) [1, 1, 1, 1, 1, 1, 1, 1, 1]) (contQ Go.Proofs.Tryd.prog env an16 (bodyC Go.Proofs.Tryd.f16) [1, 1, 1, 1, 1, 1, 1, 1, 1] [] (rootQ Go.Proofs.Tryd.prog Go.Proofs.Tryd.f16 K X)) [(0, s0_j25), (5, k5_j25), (12, l12_j25)] σ := by
  unfold J16_25
  kernel_rfl
def L16_13 (env : Env) (I13 : Nat → List AV → AS → Prop) (m13 : Nat) (s0_l13 k5_l13 b8_l13 t9_l13 i10_l13 : AV) (σ : AS) (K : AV → AS → Prop) (X : PV → AS → Prop) : Prop :=
 (lock lenD Go.Proofs.Tryd.prog 9 t9_l13 fun t77 =>
 (lock binD Go.Proofs.Tryd.prog .lss 3 i10_l13 t77 fun t78 =>
 (condD t78
 (lock indexD Go.Proofs.Tryd.prog 9 t9_l13 i10_l13 fun t83 =>
 (lock binD Go.Proofs.Tryd.prog .eql 5 t83 (.pv (.int .u8 92)) fun t90 =>
 (guardD t90 true
 (lock binD Go.Proofs.Tryd.prog .add 3 i10_l13 (.pv (.int .i64 1)) fun t93 =>
 (lock lenD Go.Proofs.Tryd.prog 9 t9_l13 fun t95 =>
 (lock binD Go.Proofs.Tryd.prog .lss 3 t93 t95 fun t96 =>
 (guardD t96 true
 (lock binD Go.Proofs.Tryd.prog .add 3 i10_l13 (.pv (.int .i64 1)) fun t101 =>
 (lock indexD Go.Proofs.Tryd.prog 9 t9_l13 t101 fun t102 =>
 (lock binD Go.Proofs.Tryd.prog .neq 5 t102 (.pv (.int .u8 10)) fun t103 =>
 (J16_18 env I13 m13 (s0_l13) (k5_l13) (b8_l13) (t9_l13) (i10_l13) (t83) (t103) σ K X))))
 (J16_18 env I13 m13 (s0_l13) (k5_l13) (b8_l13) (t9_l13) (i10_l13) (t83) (.pv (.bool false)) σ K X)))))
 (J16_18 env I13 m13 (s0_l13) (k5_l13) (b8_l13) (t9_l13) (i10_l13) (t83) (.pv (.bool false)) σ K X))))
 (lock buildSliceD Go.Proofs.Tryd.prog false σ 30 1 1 [(0, (.pv (.int .u8 34)))] fun t141 σ10 =>
 (lock appendD Go.Proofs.Tryd.prog false σ10 30 b8_l13 t141 fun t142 σ11 =>
 (lock convD Go.Proofs.Tryd.prog σ11 30 9 t142 fun t143 =>
 (env 29 [t143] σ11 (fun t144 σ12 =>
 (lock extractD t144 0 fun t145 =>
 (lock extractD t144 1 fun t146 =>
 (unD .not t146 fun t148 =>
 (guardD t148 false
 (lock lenD Go.Proofs.Tryd.prog 47 t145 fun t151 =>
 (lock binD Go.Proofs.Tryd.prog .neq 3 t151 (.pv (.int .i64 1)) fun t152 =>
 (condD t152
 (retV (.tuple [(.pv (.str [])), (.pv (.str [])), (.pv (.bool false))]) σ12 K)
 (J16_25 env  (s0_l13) (k5_l13) (t145) σ12 K X))))
 (retV (.tuple [(.pv (.str [])), (.pv (.str [])), (.pv (.bool false))]) σ12 K)))))) (panV X))))))))
theorem L16_13_eq (env : Env) (I13 : Nat → List AV → AS → Prop) (m13 : Nat) (s0_l13 k5_l13 b8_l13 t9_l13 i10_l13 : AV) (σ : AS) (K : AV → AS → Prop) (X : PV → AS → Prop) : L16_13 env I13 m13 s0_l13 k5_l13 b8_l13 t9_l13 i10_l13 σ K X = wpD Go.Proofs.Tryd.prog env an16 (subC (bodyC Go.Proofs.Tryd.f16) [1, 1, 1, 1, 1, 1, 0, 1, 0, 0]) (contQ Go.Proofs.Tryd.prog env an16 (bodyC Go.Proofs.Tryd.f16) [1, 1, 1, 1, 1, 1, 0, 1, 0, 0] [(I13, m13)] (rootQ Go.Proofs.Tryd.prog Go.Proofs.Tryd.f16 K X)) [(0, s0_l13), (5, k5_l13), (8, b8_l13), (9, t9_l13), (10, i10_l13)] σ := by
  unfold L16_13
  kernel_rfl
theorem lp16_13 {α : Type} {env : Env}  {s0_l13 k5_l13 t9_l13 : AV} {σ : AS} {K : AV → AS → Prop} {X : PV → AS → Prop} (μ : α → AS → Nat) (I : α → AS → Prop) (eb8_l13 ei10_l13 : α → AV) (a0 : α) (h0 : I a0 σ)
 (h : ∀ a σ, I a σ → L16_13 env  (Inv (fun a => [s0_l13, k5_l13, eb8_l13 a, t9_l13, ei10_l13 a]) μ I) (μ a σ) s0_l13 k5_l13 (eb8_l13 a) t9_l13 (ei10_l13 a) σ K X) :
 ∃ I13 : Nat → List AV → AS → Prop, (∃ m, I13 m [s0_l13, k5_l13, eb8_l13 a0, t9_l13, ei10_l13 a0] σ) ∧ ∀ (m : Nat) (x0 x1 x2 x3 x4 : AV), ∀ σ, I13 m [x0, x1, x2, x3, x4] σ →
 L16_13 env  I13 m x0 x1 x2 x3 x4 σ K X := by
  refine ⟨Inv (fun a => [s0_l13, k5_l13, eb8_l13 a, t9_l13, ei10_l13 a]) μ I, ⟨_, a0, rfl, rfl, h0⟩, ?_⟩
  rintro m x0 x1 x2 x3 x4 σ' ⟨a, hv, rfl, hI⟩
  simp only [List.cons.injEq, and_true] at hv
  obtain ⟨rfl, rfl, rfl, rfl, rfl⟩ := hv
  exact h a σ' hI
def J16_10 (env : Env)  (s0_j10 k5_j10 : AV) (σ : AS) (K : AV → AS → Prop) (X : PV → AS → Prop) : Prop :=
 (lock buildSliceD Go.Proofs.Tryd.prog false σ 30 1 1 [(0, (.pv (.int .u8 34)))] fun t70 σ2 =>
 (lock binD Go.Proofs.Tryd.prog .add 3 k5_j10 (.pv (.int .i64 1)) fun t73 =>
 (lock sliceD Go.Proofs.Tryd.prog 9 s0_j10 (some t73) none fun t74 =>
 (∃ I13 : Nat → List AV → AS → Prop, (∃ m, I13 m [s0_j10, k5_j10, t70, t74, (.pv (.int .i64 0))] σ2) ∧ ∀ (m13 : Nat) (s0_l13 k5_l13 b8_l13 t9_l13 i10_l13 : AV), ∀ σ3, I13 m13 [s0_l13, k5_l13, b8_l13, t9_l13, i10_l13] σ3 →
 (L16_13 env I13 m13 s0_l13 k5_l13 b8_l13 t9_l13 i10_l13 σ3 K X)))))
theorem J16_10_eq (env : Env)  (s0_j10 k5_j10 : AV) (σ : AS) (K : AV → AS → Prop) (X : PV → AS → Prop) : J16_10 env  s0_j10 k5_j10 σ K X = wpD Go.Proofs.Tryd.prog env an16 (subC (bodyC Go.Proofs.Tryd.f16) [1, 1, 1, 1]) (contQ Go.Proofs.Tryd.prog env an16 (bodyC Go.Proofs.Tryd.f16) [1, 1, 1, 1] [] (rootQ Go.Proofs.Tryd.prog Go.Proofs.Tryd.f16 K X)) [(0, s0_j10), (5, k5_j10)] σ := by
  unfold J16_10
  simp only [L16_13_eq]
  kernel_rfl
def J16_8 (env : Env)  (s0_j8 k5_j8 : AV) (σ : AS) (K : AV → AS → Prop) (X : PV → AS → Prop) : Prop :=
 (lock binD Go.Proofs.Tryd.prog .eql 3 k5_j8 (.pv (.int .i64 0)) fun t63 =>
 (guardD t63 false
 (lock lenD Go.Proofs.Tryd.prog 9 s0_j8 fun t67 =>
 (lock binD Go.Proofs.Tryd.prog .eql 3 k5_j8 t67 fun t68 =>
 (condD t68
 (retV (.tuple [(.pv (.str [])), (.pv (.str [])), (.pv (.bool false))]) σ K)
 (J16_10 env  (s0_j8) (k5_j8) σ K X))))
 (retV (.tuple [(.pv (.str [])), (.pv (.str [])), (.pv (.bool false))]) σ K)))
theorem J16_8_eq (env : Env)  (s0_j8 k5_j8 : AV) (σ : AS) (K : AV → AS → Prop) (X : PV → AS → Prop) : J16_8 env  s0_j8 k5_j8 σ K X = wpD Go.Proofs.Tryd.prog env an16 (subC (bodyC Go.Proofs.Tryd.f16) [1, 1, 1]) (contQ Go.Proofs.Tryd.prog env an16 (bodyC Go.Proofs.Tryd.f16) [1, 1, 1] [] (rootQ Go.Proofs.Tryd.prog Go.Proofs.Tryd.f16 K X)) [(0, s0_j8), (5, k5_j8)] σ := by
  unfold J16_8
  kernel_rfl
def L16_2 (env : Env) (I2 : Nat → List AV → AS → Prop) (m2 : Nat) (s0_l2 k5_l2 : AV) (σ : AS) (K : AV → AS → Prop) (X : PV → AS → Prop) : Prop :=
 (lock lenD Go.Proofs.Tryd.prog 9 s0_l2 fun t16 =>
 (lock binD Go.Proofs.Tryd.prog .lss 3 k5_l2 t16 fun t17 =>
 (guardD t17 true
 (lock indexD Go.Proofs.Tryd.prog 9 s0_l2 k5_l2 fun t21 =>
 (lock binD Go.Proofs.Tryd.prog .neq 5 t21 (.pv (.int .u8 61)) fun t22 =>
 (condD t22
 (J16_3 env I2 m2 (s0_l2) (k5_l2) σ K X)
 (J16_8 env  (s0_l2) (k5_l2) σ K X))))
 (J16_8 env  (s0_l2) (k5_l2) σ K X))))
theorem L16_2_eq (env : Env) (I2 : Nat → List AV → AS → Prop) (m2 : Nat) (s0_l2 k5_l2 : AV) (σ : AS) (K : AV → AS → Prop) (X : PV → AS → Prop) : L16_2 env I2 m2 s0_l2 k5_l2 σ K X = wpD Go.Proofs.Tryd.prog env an16 (subC (bodyC Go.Proofs.Tryd.f16) [1, 1, 0, 0, 0]) (contQ Go.Proofs.Tryd.prog env an16 (bodyC Go.Proofs.Tryd.f16) [1, 1, 0, 0, 0] [(I2, m2)] (rootQ Go.Proofs.Tryd.prog Go.Proofs.Tryd.f16 K X)) [(0, s0_l2), (5, k5_l2)] σ := by
  unfold L16_2
  kernel_rfl
theorem lp16_2 {α : Type} {env : Env}  {s0_l2 : AV} {σ : AS} {K : AV → AS → Prop} {X : PV → AS → Prop} (μ : α → AS → Nat) (I : α → AS → Prop) (ek5_l2 : α → AV) (a0 : α) (h0 : I a0 σ)
 (h : ∀ a σ, I a σ → L16_2 env  (Inv (fun a => [s0_l2, ek5_l2 a]) μ I) (μ a σ) s0_l2 (ek5_l2 a) σ K X) :
 ∃ I2 : Nat → List AV → AS → Prop, (∃ m, I2 m [s0_l2, ek5_l2 a0] σ) ∧ ∀ (m : Nat) (x0 x1 : AV), ∀ σ, I2 m [x0, x1] σ →
 L16_2 env  I2 m x0 x1 σ K X := by
  refine ⟨Inv (fun a => [s0_l2, ek5_l2 a]) μ I, ⟨_, a0, rfl, rfl, h0⟩, ?_⟩
  rintro m x0 x1 σ' ⟨a, hv, rfl, hI⟩
  simp only [List.cons.injEq, and_true] at hv
  obtain ⟨rfl, rfl⟩ := hv
  exact h a σ' hI
def S16 (env : Env) (s0_a : AV) (σ : AS) (K : AV → AS → Prop) (X : PV → AS → Prop) : Prop :=
 (∃ I2 : Nat → List AV → AS → Prop, (∃ m, I2 m [s0_a, (.pv (.int .i64 0))] σ) ∧ ∀ (m2 : Nat) (s0_l2 k5_l2 : AV), ∀ σ1, I2 m2 [s0_l2, k5_l2] σ1 →
 (L16_2 env I2 m2 s0_l2 k5_l2 σ1 K X))
theorem S16_eq (env : Env) (s0_a : AV) (σ : AS) (K : AV → AS → Prop) (X : PV → AS → Prop) : S16 env s0_a σ K X = bodyD Go.Proofs.Tryd.prog env an16 Go.Proofs.Tryd.f16 [s0_a] σ K X := by
  unfold S16
  simp only [L16_2_eq]
  kernel_rfl
theorem S16_ok : (match Go.Proofs.Tryd.f16.body with | some c => okCode an16 Go.Proofs.Tryd.prog Go.Proofs.Tryd.f16.ntmps c | none => false) = true := by kernel_rfl
/-! ### tedder/tedderlaw15.awake (function 9) -/
def an9 : An := { mu := [], cut := [], loop := [] }
def S9 (env : Env) (σ : AS) (K : AV → AS → Prop) (X : PV → AS → Prop) : Prop :=
 (env 13 [(.pv (.str [97, 10, 98])), (.pv (.str [10]))] σ (fun t5 σ1 =>
 (env 15 [(.pv (.str [120, 61, 49]))] σ1 (fun t7 σ2 =>
 (lock extractD t7 0 fun t8 =>
 (lock extractD t7 1 fun t9 =>
 (lock extractD t7 2 fun t10 =>
 (lock lenD Go.Proofs.Tryd.prog 27 t5 fun t12 =>
 (lock binD Go.Proofs.Tryd.prog .eql 3 t12 (.pv (.int .i64 2)) fun t13 =>
 (guardD t13 true
 (lock indexAddrD Go.Proofs.Tryd.prog 27 t5 (.pv (.int .i64 1)) fun t16 =>
 (lock loadD Go.Proofs.Tryd.prog σ2 9 t16 fun t17 =>
 (lock binD Go.Proofs.Tryd.prog .eql 9 t17 (.pv (.str [98])) fun t18 =>
 (guardD t18 true
 (guardD t10 true
 (lock binD Go.Proofs.Tryd.prog .eql 9 t8 (.pv (.str [120])) fun t25 =>
 (guardD t25 true
 (lock binD Go.Proofs.Tryd.prog .eql 9 t9 (.pv (.str [49])) fun t29 =>
 (retV (t29) σ2 K))
 (retV ((.pv (.bool false))) σ2 K)))
 (retV ((.pv (.bool false))) σ2 K))
 (retV ((.pv (.bool false))) σ2 K)))))
 (retV ((.pv (.bool false))) σ2 K)))))))) (panV X))) (panV X))
theorem S9_eq (env : Env) (σ : AS) (K : AV → AS → Prop) (X : PV → AS → Prop) : S9 env  σ K X = bodyD Go.Proofs.Tryd.prog env an9 Go.Proofs.Tryd.f9 [] σ K X := by
  unfold S9
  kernel_rfl
theorem S9_ok : (match Go.Proofs.Tryd.f9.body with | some c => okCode an9 Go.Proofs.Tryd.prog Go.Proofs.Tryd.f9.ntmps c | none => false) = true := by kernel_rfl
/-! ### tedder/tedderlaw15.InputRecords (function 3) -/
def an3 : An := { mu := [], cut := [(5, [0, 1])], loop := [(9, [0, 1, 6, 30, 31, 32])] }
def L3_9 (env : Env) (I9 : Nat → List AV → AS → Prop) (m9 : Nat) (s0_l9 rs1_l9 b6_l9 t30_l9 t31_l9 t32_l9 : AV) (σ : AS) (K : AV → AS → Prop) (X : PV → AS → Prop) : Prop :=
 (lock binD Go.Proofs.Tryd.prog .lss 3 t32_l9 t31_l9 fun t33 =>
 (condD t33
 (lock indexAddrD Go.Proofs.Tryd.prog 23 t30_l9 t32_l9 fun t35 =>
 (lock loadD Go.Proofs.Tryd.prog σ 25 t35 fun t36 =>
 (lock allocD Go.Proofs.Tryd.prog σ 25 fun t8 σ5 =>
 (lock storeD Go.Proofs.Tryd.prog σ5 25 t8 t36 fun σ6 =>
 (lock loadD Go.Proofs.Tryd.prog σ6 25 t8 fun t37 =>
 (lock indexAddrD Go.Proofs.Tryd.prog 23 b6_l9 t32_l9 fun t40 =>
 (lock loadD Go.Proofs.Tryd.prog σ6 25 t40 fun t41 =>
 (lock binD Go.Proofs.Tryd.prog .neq 25 t37 t41 fun t42 =>
 (condD t42
 (retV ((.pv (.bool false))) σ6 K)
 (lock binD Go.Proofs.Tryd.prog .add 3 t32_l9 (.pv (.int .i64 1)) fun t43 =>
 (∃ m', m' < m9 ∧ I9 m' [s0_l9, rs1_l9, b6_l9, t30_l9, t31_l9, t43] σ6)))))))))))
 (env 13 [s0_l9, rs1_l9] σ (fun t46 σ7 =>
 (env 14 [s0_l9, rs1_l9] σ7 (fun t49 σ8 =>
 (env 12 [t46, t49] σ8 (fun t50 σ9 =>
 (retV (t50) σ9 K)) (panV X))) (panV X))) (panV X))))
theorem L3_9_eq (env : Env) (I9 : Nat → List AV → AS → Prop) (m9 : Nat) (s0_l9 rs1_l9 b6_l9 t30_l9 t31_l9 t32_l9 : AV) (σ : AS) (K : AV → AS → Prop) (X : PV → AS → Prop) : L3_9 env I9 m9 s0_l9 rs1_l9 b6_l9 t30_l9 t31_l9 t32_l9 σ K X = wpD Go.Proofs.Tryd.prog env an3 (subC (bodyC Go.Proofs.Tryd.f3) [1, 1, 1, 1, 1, 0, 1, 0, 0]) (contQ Go.Proofs.Tryd.prog env an3 (bodyC Go.Proofs.Tryd.f3) [1, 1, 1, 1, 1, 0, 1, 0, 0] [(I9, m9)] (rootQ Go.Proofs.Tryd.prog Go.Proofs.Tryd.f3 K X)) [(0, s0_l9), (1, rs1_l9), (6, b6_l9), (30, t30_l9), (31, t31_l9), (32, t32_l9)] σ := by
  unfold L3_9
  kernel_rfl
theorem lp3_9 {α : Type} {env : Env}  {s0_l9 rs1_l9 b6_l9 t30_l9 t31_l9 : AV} {σ : AS} {K : AV → AS → Prop} {X : PV → AS → Prop} (μ : α → AS → Nat) (I : α → AS → Prop) (et32_l9 : α → AV) (a0 : α) (h0 : I a0 σ)
 (h : ∀ a σ, I a σ → L3_9 env  (Inv (fun a => [s0_l9, rs1_l9, b6_l9, t30_l9, t31_l9, et32_l9 a]) μ I) (μ a σ) s0_l9 rs1_l9 b6_l9 t30_l9 t31_l9 (et32_l9 a) σ K X) :
 ∃ I9 : Nat → List AV → AS → Prop, (∃ m, I9 m [s0_l9, rs1_l9, b6_l9, t30_l9, t31_l9, et32_l9 a0] σ) ∧ ∀ (m : Nat) (x0 x1 x2 x3 x4 x5 : AV), ∀ σ, I9 m [x0, x1, x2, x3, x4, x5] σ →
 L3_9 env  I9 m x0 x1 x2 x3 x4 x5 σ K X := by
  refine ⟨Inv (fun a => [s0_l9, rs1_l9, b6_l9, t30_l9, t31_l9, et32_l9 a]) μ I, ⟨_, a0, rfl, rfl, h0⟩, ?_⟩
  rintro m x0 x1 x2 x3 x4 x5 σ' ⟨a, hv, rfl, hI⟩
  simp only [List.cons.injEq, and_true] at hv
  obtain ⟨rfl, rfl, rfl, rfl, rfl, rfl⟩ := hv
  exact h a σ' hI
def J3_5 (env : Env)  (s0_j5 rs1_j5 : AV) (σ : AS) (K : AV → AS → Prop) (X : PV → AS → Prop) : Prop :=
 (env 10 [s0_j5, rs1_j5] σ (fun t21 σ2 =>
 (env 11 [s0_j5, rs1_j5] σ2 (fun t24 σ3 =>
 (lock lenD Go.Proofs.Tryd.prog 23 t21 fun t26 =>
 (lock lenD Go.Proofs.Tryd.prog 23 t24 fun t28 =>
 (lock binD Go.Proofs.Tryd.prog .neq 3 t26 t28 fun t29 =>
 (condD t29
 (retV ((.pv (.bool false))) σ3 K)
 (lock lenD Go.Proofs.Tryd.prog 23 t21 fun t31 =>
 (∃ I9 : Nat → List AV → AS → Prop, (∃ m, I9 m [s0_j5, rs1_j5, t24, t21, t31, (.pv (.int .i64 0))] σ3) ∧ ∀ (m9 : Nat) (s0_l9 rs1_l9 b6_l9 t30_l9 t31_l9 t32_l9 : AV), ∀ σ4, I9 m9 [s0_l9, rs1_l9, b6_l9, t30_l9, t31_l9, t32_l9] σ4 →
 (L3_9 env I9 m9 s0_l9 rs1_l9 b6_l9 t30_l9 t31_l9 t32_l9 σ4 K X)))))))) (panV X))) (panV X))
theorem J3_5_eq (env : Env)  (s0_j5 rs1_j5 : AV) (σ : AS) (K : AV → AS → Prop) (X : PV → AS → Prop) : J3_5 env  s0_j5 rs1_j5 σ K X = wpD Go.Proofs.Tryd.prog env an3 (subC (bodyC Go.Proofs.Tryd.f3) [1, 1, 1]) (contQ Go.Proofs.Tryd.prog env an3 (bodyC Go.Proofs.Tryd.f3) [1, 1, 1] [] (rootQ Go.Proofs.Tryd.prog Go.Proofs.Tryd.f3 K X)) [(0, s0_j5), (1, rs1_j5)] σ := by
  unfold J3_5
  simp only [L3_9_eq]
  kernel_rfl
def S3 (env : Env) (s0_a rs1_a : AV) (σ : AS) (K : AV → AS → Prop) (X : PV → AS → Prop) : Prop :=
 (env 9 [] σ (fun t9 σ1 =>
 (unD .not t9 fun t10 =>
 (condD t10
 (retV ((.pv (.bool false))) σ1 K)
 (lock lenD Go.Proofs.Tryd.prog 9 s0_a fun t12 =>
 (lock binD Go.Proofs.Tryd.prog .gtr 3 t12 (.pv (.int .i64 3000)) fun t13 =>
 (guardD t13 false
 (lock lenD Go.Proofs.Tryd.prog 9 rs1_a fun t16 =>
 (lock binD Go.Proofs.Tryd.prog .gtr 3 t16 (.pv (.int .i64 100)) fun t17 =>
 (condD t17
 (retV ((.pv (.bool true))) σ1 K)
 (J3_5 env  (s0_a) (rs1_a) σ1 K X))))
 (retV ((.pv (.bool true))) σ1 K))))))) (panV X))
theorem S3_eq (env : Env) (s0_a rs1_a : AV) (σ : AS) (K : AV → AS → Prop) (X : PV → AS → Prop) : S3 env s0_a rs1_a σ K X = bodyD Go.Proofs.Tryd.prog env an3 Go.Proofs.Tryd.f3 [s0_a, rs1_a] σ K X := by
  unfold S3
  kernel_rfl
theorem S3_ok : (match Go.Proofs.Tryd.f3.body with | some c => okCode an3 Go.Proofs.Tryd.prog Go.Proofs.Tryd.f3.ntmps c | none => false) = true := by kernel_rfl
/-! ### tedder/tedderlaw15.InputBack (function 4) -/
def an4 : An := { mu := [], cut := [], loop := [(7, [0, 1, 5, 14, 15, 16]), (10, [0, 1, 5, 7, 8, 14, 15, 16])] }
def L4_10 (env : Env) (I7 : Nat → List AV → AS → Prop) (m7 : Nat) (I10 : Nat → List AV → AS → Prop) (m10 : Nat) (l0_l10 rs1_l10 s5_l10 x7_l10 i8_l10 t14_l10 t15_l10 t16_l10 : AV) (σ : AS) (K : AV → AS → Prop) (X : PV → AS → Prop) : Prop :=
 (lock lenD Go.Proofs.Tryd.prog 9 x7_l10 fun t22 =>
 (lock binD Go.Proofs.Tryd.prog .lss 3 i8_l10 t22 fun t23 =>
 (condD t23
 (lock indexD Go.Proofs.Tryd.prog 9 x7_l10 i8_l10 fun t28 =>
 (lock binD Go.Proofs.Tryd.prog .eql 5 t28 rs1_l10 fun t30 =>
 (condD t30
 (retV ((.pv (.bool true))) σ K)
 (lock binD Go.Proofs.Tryd.prog .add 3 i8_l10 (.pv (.int .i64 1)) fun t25 =>
 (∃ m', m' < m10 ∧ I10 m' [l0_l10, rs1_l10, s5_l10, x7_l10, t25, t14_l10, t15_l10, t16_l10] σ)))))
 (lock buildSliceD Go.Proofs.Tryd.prog false σ 30 1 1 [(0, rs1_l10)] fun t34 σ4 =>
 (lock convD Go.Proofs.Tryd.prog σ4 30 9 t34 fun t35 =>
 (lock binD Go.Proofs.Tryd.prog .add 9 x7_l10 t35 fun t36 =>
 (lock binD Go.Proofs.Tryd.prog .add 9 s5_l10 t36 fun t37 =>
 (lock lenD Go.Proofs.Tryd.prog 9 t37 fun t39 =>
 (lock binD Go.Proofs.Tryd.prog .gtr 3 t39 (.pv (.int .i64 3000)) fun t40 =>
 (condD t40
 (retV ((.pv (.bool true))) σ4 K)
 (lock binD Go.Proofs.Tryd.prog .add 3 t16_l10 (.pv (.int .i64 1)) fun t41 =>
 (∃ m', m' < m7 ∧ I7 m' [l0_l10, rs1_l10, t37, t14_l10, t15_l10, t41] σ4))))))))))))
theorem L4_10_eq (env : Env) (I7 : Nat → List AV → AS → Prop) (m7 : Nat) (I10 : Nat → List AV → AS → Prop) (m10 : Nat) (l0_l10 rs1_l10 s5_l10 x7_l10 i8_l10 t14_l10 t15_l10 t16_l10 : AV) (σ : AS) (K : AV → AS → Prop) (X : PV → AS → Prop) : L4_10 env I7 m7 I10 m10 l0_l10 rs1_l10 s5_l10 x7_l10 i8_l10 t14_l10 t15_l10 t16_l10 σ K X = wpD Go.Proofs.Tryd.prog env an4 (subC (bodyC Go.Proofs.Tryd.f4) [1, 1, 1, 1, 0, 1, 0, 0, 1, 1, 0, 0, 1, 0, 1, 0, 0]) (contQ Go.Proofs.Tryd.prog env an4 (bodyC Go.Proofs.Tryd.f4) [1, 1, 1, 1, 0, 1, 0, 0, 1, 1, 0, 0, 1, 0, 1, 0, 0] [(I7, m7), (I10, m10)] (rootQ Go.Proofs.Tryd.prog Go.Proofs.Tryd.f4 K X)) [(0, l0_l10), (1, rs1_l10), (5, s5_l10), (7, x7_l10), (8, i8_l10), (14, t14_l10), (15, t15_l10), (16, t16_l10)] σ := by
  unfold L4_10
  kernel_rfl
theorem lp4_10 {α : Type} {env : Env} {I7 : Nat → List AV → AS → Prop} {m7 : Nat} {l0_l10 rs1_l10 s5_l10 x7_l10 t14_l10 t15_l10 t16_l10 : AV} {σ : AS} {K : AV → AS → Prop} {X : PV → AS → Prop} (μ : α → AS → Nat) (I : α → AS → Prop) (ei8_l10 : α → AV) (a0 : α) (h0 : I a0 σ)
 (h : ∀ a σ, I a σ → L4_10 env I7 m7 (Inv (fun a => [l0_l10, rs1_l10, s5_l10, x7_l10, ei8_l10 a, t14_l10, t15_l10, t16_l10]) μ I) (μ a σ) l0_l10 rs1_l10 s5_l10 x7_l10 (ei8_l10 a) t14_l10 t15_l10 t16_l10 σ K X) :
 ∃ I10 : Nat → List AV → AS → Prop, (∃ m, I10 m [l0_l10, rs1_l10, s5_l10, x7_l10, ei8_l10 a0, t14_l10, t15_l10, t16_l10] σ) ∧ ∀ (m : Nat) (x0 x1 x2 x3 x4 x5 x6 x7 : AV), ∀ σ, I10 m [x0, x1, x2, x3, x4, x5, x6, x7] σ →
 L4_10 env I7 m7 I10 m x0 x1 x2 x3 x4 x5 x6 x7 σ K X := by
  refine ⟨Inv (fun a => [l0_l10, rs1_l10, s5_l10, x7_l10, ei8_l10 a, t14_l10, t15_l10, t16_l10]) μ I, ⟨_, a0, rfl, rfl, h0⟩, ?_⟩
  rintro m x0 x1 x2 x3 x4 x5 x6 x7 σ' ⟨a, hv, rfl, hI⟩
  simp only [List.cons.injEq, and_true] at hv
  obtain ⟨rfl, rfl, rfl, rfl, rfl, rfl, rfl, rfl⟩ := hv
  exact h a σ' hI
def L4_7 (env : Env) (I7 : Nat → List AV → AS → Prop) (m7 : Nat) (l0_l7 rs1_l7 s5_l7 t14_l7 t15_l7 t16_l7 : AV) (σ : AS) (K : AV → AS → Prop) (X : PV → AS → Prop) : Prop :=
 (lock binD Go.Proofs.Tryd.prog .lss 3 t16_l7 t15_l7 fun t17 =>
 (condD t17
 (lock indexAddrD Go.Proofs.Tryd.prog 27 t14_l7 t16_l7 fun t18 =>
 (lock loadD Go.Proofs.Tryd.prog σ 9 t18 fun t19 =>
 (∃ I10 : Nat → List AV → AS → Prop, (∃ m, I10 m [l0_l7, rs1_l7, s5_l7, t19, (.pv (.int .i64 0)), t14_l7, t15_l7, t16_l7] σ) ∧ ∀ (m10 : Nat) (l0_l10 rs1_l10 s5_l10 x7_l10 i8_l10 t14_l10 t15_l10 t16_l10 : AV), ∀ σ3, I10 m10 [l0_l10, rs1_l10, s5_l10, x7_l10, i8_l10, t14_l10, t15_l10, t16_l10] σ3 →
 (L4_10 env I7 m7 I10 m10 l0_l10 rs1_l10 s5_l10 x7_l10 i8_l10 t14_l10 t15_l10 t16_l10 σ3 K X))))
 (lock buildSliceD Go.Proofs.Tryd.prog false σ 30 1 1 [(0, rs1_l7)] fun t44 σ5 =>
 (lock convD Go.Proofs.Tryd.prog σ5 30 9 t44 fun t45 =>
 (lock binD Go.Proofs.Tryd.prog .add 9 t45 (.pv (.str [120])) fun t46 =>
 (env 13 [s5_l7, t46] σ5 (fun t47 σ6 =>
 (env 12 [t47, l0_l7] σ6 (fun t49 σ7 =>
 (retV (t49) σ7 K)) (panV X))) (panV X)))))))
theorem L4_7_eq (env : Env) (I7 : Nat → List AV → AS → Prop) (m7 : Nat) (l0_l7 rs1_l7 s5_l7 t14_l7 t15_l7 t16_l7 : AV) (σ : AS) (K : AV → AS → Prop) (X : PV → AS → Prop) : L4_7 env I7 m7 l0_l7 rs1_l7 s5_l7 t14_l7 t15_l7 t16_l7 σ K X = wpD Go.Proofs.Tryd.prog env an4 (subC (bodyC Go.Proofs.Tryd.f4) [1, 1, 1, 1, 0, 1, 0, 0]) (contQ Go.Proofs.Tryd.prog env an4 (bodyC Go.Proofs.Tryd.f4) [1, 1, 1, 1, 0, 1, 0, 0] [(I7, m7)] (rootQ Go.Proofs.Tryd.prog Go.Proofs.Tryd.f4 K X)) [(0, l0_l7), (1, rs1_l7), (5, s5_l7), (14, t14_l7), (15, t15_l7), (16, t16_l7)] σ := by
  unfold L4_7
  simp only [L4_10_eq]
  kernel_rfl
theorem lp4_7 {α : Type} {env : Env}  {l0_l7 rs1_l7 t14_l7 t15_l7 : AV} {σ : AS} {K : AV → AS → Prop} {X : PV → AS → Prop} (μ : α → AS → Nat) (I : α → AS → Prop) (es5_l7 et16_l7 : α → AV) (a0 : α) (h0 : I a0 σ)
 (h : ∀ a σ, I a σ → L4_7 env  (Inv (fun a => [l0_l7, rs1_l7, es5_l7 a, t14_l7, t15_l7, et16_l7 a]) μ I) (μ a σ) l0_l7 rs1_l7 (es5_l7 a) t14_l7 t15_l7 (et16_l7 a) σ K X) :
 ∃ I7 : Nat → List AV → AS → Prop, (∃ m, I7 m [l0_l7, rs1_l7, es5_l7 a0, t14_l7, t15_l7, et16_l7 a0] σ) ∧ ∀ (m : Nat) (x0 x1 x2 x3 x4 x5 : AV), ∀ σ, I7 m [x0, x1, x2, x3, x4, x5] σ →
 L4_7 env  I7 m x0 x1 x2 x3 x4 x5 σ K X := by
  refine ⟨Inv (fun a => [l0_l7, rs1_l7, es5_l7 a, t14_l7, t15_l7, et16_l7 a]) μ I, ⟨_, a0, rfl, rfl, h0⟩, ?_⟩
  rintro m x0 x1 x2 x3 x4 x5 σ' ⟨a, hv, rfl, hI⟩
  simp only [List.cons.injEq, and_true] at hv
  obtain ⟨rfl, rfl, rfl, rfl, rfl, rfl⟩ := hv
  exact h a σ' hI
def S4 (env : Env) (l0_a rs1_a : AV) (σ : AS) (K : AV → AS → Prop) (X : PV → AS → Prop) : Prop :=
 (env 9 [] σ (fun t9 σ1 =>
 (unD .not t9 fun t10 =>
 (condD t10
 (retV ((.pv (.bool false))) σ1 K)
 (lock lenD Go.Proofs.Tryd.prog 27 l0_a fun t12 =>
 (lock binD Go.Proofs.Tryd.prog .gtr 3 t12 (.pv (.int .i64 100)) fun t13 =>
 (condD t13
 (retV ((.pv (.bool true))) σ1 K)
 (lock lenD Go.Proofs.Tryd.prog 27 l0_a fun t15 =>
 (∃ I7 : Nat → List AV → AS → Prop, (∃ m, I7 m [l0_a, rs1_a, (.pv (.str [])), l0_a, t15, (.pv (.int .i64 0))] σ1) ∧ ∀ (m7 : Nat) (l0_l7 rs1_l7 s5_l7 t14_l7 t15_l7 t16_l7 : AV), ∀ σ2, I7 m7 [l0_l7, rs1_l7, s5_l7, t14_l7, t15_l7, t16_l7] σ2 →
 (L4_7 env I7 m7 l0_l7 rs1_l7 s5_l7 t14_l7 t15_l7 t16_l7 σ2 K X))))))))) (panV X))
theorem S4_eq (env : Env) (l0_a rs1_a : AV) (σ : AS) (K : AV → AS → Prop) (X : PV → AS → Prop) : S4 env l0_a rs1_a σ K X = bodyD Go.Proofs.Tryd.prog env an4 Go.Proofs.Tryd.f4 [l0_a, rs1_a] σ K X := by
  unfold S4
  simp only [L4_7_eq]
  kernel_rfl
theorem S4_ok : (match Go.Proofs.Tryd.f4.body with | some c => okCode an4 Go.Proofs.Tryd.prog Go.Proofs.Tryd.f4.ntmps c | none => false) = true := by kernel_rfl
/-! ### tedder/tedderlaw15.InputOperands (function 5) -/
def an5 : An := { mu := [], cut := [], loop := [] }
def S5 (env : Env) (s0_a : AV) (σ : AS) (K : AV → AS → Prop) (X : PV → AS → Prop) : Prop :=
 (env 9 [] σ (fun t9 σ1 =>
 (unD .not t9 fun t10 =>
 (condD t10
 (retV ((.pv (.bool false))) σ1 K)
 (lock lenD Go.Proofs.Tryd.prog 9 s0_a fun t12 =>
 (lock binD Go.Proofs.Tryd.prog .gtr 3 t12 (.pv (.int .i64 1000)) fun t13 =>
 (condD t13
 (retV ((.pv (.bool true))) σ1 K)
 (env 15 [s0_a] σ1 (fun t16 σ2 =>
 (lock extractD t16 0 fun t17 =>
 (lock extractD t16 1 fun t18 =>
 (lock extractD t16 2 fun t19 =>
 (env 16 [s0_a] σ2 (fun t22 σ3 =>
 (lock extractD t22 0 fun t23 =>
 (lock extractD t22 1 fun t24 =>
 (lock extractD t22 2 fun t25 =>
 (lock binD Go.Proofs.Tryd.prog .eql 9 t17 t23 fun t28 =>
 (guardD t28 true
 (lock binD Go.Proofs.Tryd.prog .eql 9 t18 t24 fun t32 =>
 (guardD t32 true
 (lock binD Go.Proofs.Tryd.prog .eql 4 t19 t25 fun t37 =>
 (retV (t37) σ3 K))
 (retV ((.pv (.bool false))) σ3 K)))
 (retV ((.pv (.bool false))) σ3 K))))))) (panV X)))))) (panV X)))))))) (panV X))
theorem S5_eq (env : Env) (s0_a : AV) (σ : AS) (K : AV → AS → Prop) (X : PV → AS → Prop) : S5 env s0_a σ K X = bodyD Go.Proofs.Tryd.prog env an5 Go.Proofs.Tryd.f5 [s0_a] σ K X := by
  unfold S5
  kernel_rfl
theorem S5_ok : (match Go.Proofs.Tryd.f5.body with | some c => okCode an5 Go.Proofs.Tryd.prog Go.Proofs.Tryd.f5.ntmps c | none => false) = true := by kernel_rfl
end Go.AD
